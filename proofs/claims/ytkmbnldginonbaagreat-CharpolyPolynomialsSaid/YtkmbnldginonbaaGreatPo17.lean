/- The law CharpolyPolynomials answers true whatever its arguments are; it leaves them as they were. No condition. -/
import Derived.Test.YtkmbnldginonbaaGreatPo16
namespace Go.Proofs.YtkmbnldginonbaaGreat.charpolyPolynomials
open Go.ChangeShapes Go.WideShapes Go.ChangeAt Go.RowKit
set_option maxRecDepth 100000 in
theorem lifted (os : Os) (started : os.Started) (H : Type) (enc : TypeId × Value → H) :
  ReturnsInHanded {} Tryz.checked os 5 .any (Rows.charpolyPolynomialsSpec.pre6 enc Tryz.prog Tryz.f5 Rows.charpolyPolynomialsRow.domain false) (Rows.charpolyPolynomialsSpec.post enc Tryz.prog Tryz.f5 false true false false):=by
 refine returnsInHanded_of_change (C := Tryz.checked) lawOwn started (by kernel_rfl) Tryz.func5
  (ChangeSpec.witness6 (enc:=enc) (C:=Tryz.checked) false ⟨#[],#[.agg #[.int .i64 0,.int .i64 0,.slice none 0 0],.slice none 0 0],[]⟩ 8 (by kernel_rfl) (by kernel_rfl) (by kernel_rfl) (by kernel_rfl)) ?_
 intro W base args ds gs before hval0 hW hcnd _;have hW':=hW;have hlt:=fun p hp=>hW.lt p hp;obtain⟨p,q,hA0,hV,rfl,hfz,hnd⟩:=hW;have hA:DataW.TrodAll enc Tryz.prog W 0 (fun _=>true) true Tryz.f5.params.toList args.toList ds p:=hA0;have hval:∀(j:Nat) t v,Tryz.f5.params[j]? = some t->args[j]? = some v->Value.okWide Tryz.prog W .any base t v:=hval0;rw[Tryz.params5]at hA hval;obtain⟨v0,vs0,d0,ds0,p0,q0,hargs,rfl,rfl,h0,r0⟩:=trodAll_cons hA;obtain⟨v1,vs1,d1,ds1,p1,q1,rfl,rfl,rfl,h1,r1⟩:=trodAll_cons r0;obtain⟨rfl,rfl,rfl⟩:=trodAll_nil r1;obtain rfl:args=#[v0,v1]:=by cases args;simp_all
 obtain⟨rfl,rfl⟩:=trodVars_none hV;refine(walk_CharpolyPolynomials (hval 0 _ _ rfl rfl) h0 (hval 1 _ _ rfl rfl) h1).mono fun e W' ⟨he,hb⟩=>?_;subst he;exact⟨_,rfl,post_below hW' (fun _ _ _=>trodAll_cons_mk (shut_bool Tryz.underlying4 _) trodAll_mk0) (fun sp hsp=>(trodAll_cons_mk (Below.trodS lawLaid (by kernel_rfl) (by decide +kernel) h0 hb (fun x hx=>hlt x (List.mem_append_left _ (List.mem_append_left _ hx))) (fun x hx=>hsp x (List.mem_append_left _ (List.mem_append_left _ hx)))) (trodAll_cons_mk (Below.trodS lawLaid (by kernel_rfl) (by decide +kernel) h1 hb (fun x hx=>hlt x (List.mem_append_left _ (List.mem_append_right _ (List.mem_append_left _ hx)))) (fun x hx=>hsp x (List.mem_append_left _ (List.mem_append_right _ (List.mem_append_left _ hx))))) trodAll_mk0))) (fun _ _=>rfl) rfl hb (ok_one (by kernel_rfl) rfl (okWide_bool_mk Tryz.underlying4 _))⟩
set_option maxHeartbeats 4000000 in
theorem closed:joinedFacts Tryz.prog 5 Tryz.f5 Rows.charpolyPolynomialsSpec Rows.charpolyPolynomialsRow=true:=by
 unfold joinedFacts;simp only[Bool.and_eq_true];repeat' apply And.intro
 all_goals (as_aux_lemma=>kernel_rfl)
theorem over:Rows.charpolyPolynomialsRow.holds Tryz.pinned (OpenSpec.ofChange Rows.charpolyPolynomialsSpec) :=
 OpenClaim.holds_of_wide 5 Tryz.f5 rfl rfl rfl rfl rfl rfl rfl ⟨rfl, rfl, rfl, rfl, rfl⟩ rfl rfl rfl rfl rfl (by kernel_rfl) Tryz.func5 closed
  (of_decide_eq_true (by kernel_rfl)) (by unfold Func.isWrapper;first | (rw[if_pos (by decide +kernel)];kernel_rfl) | (rw[if_neg (by decide +kernel)];exact⟨rfl,rfl⟩))
  (fun os started H enc _=>lifted os started H enc)
end Go.Proofs.YtkmbnldginonbaaGreat.charpolyPolynomials
namespace Go.Proofs.YtkmbnldginonbaaGreat
theorem charpolyPolynomials_holds:Rows.CharpolyPolynomialsSaid:=charpolyPolynomials.over
#print axioms charpolyPolynomials_holds
end Go.Proofs.YtkmbnldginonbaaGreat
