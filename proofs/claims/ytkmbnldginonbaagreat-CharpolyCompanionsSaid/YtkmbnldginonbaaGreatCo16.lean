/- The law CharpolyCompanions answers true whatever its arguments are; it leaves them as they were. No condition. -/
import Derived.Test.YtkmbnldginonbaaGreatCo15
namespace Go.Proofs.YtkmbnldginonbaaGreat.charpolyCompanions
open Go.ChangeShapes Go.WideShapes Go.ChangeAt Go.RowKit
set_option maxRecDepth 100000 in
theorem lifted (os : Os) (started : os.Started) (H : Type) (enc : TypeId × Value → H) :
  ReturnsInHanded {} Tryz.checked os 4 .any (Rows.charpolyCompanionsSpec.pre6 enc Tryz.prog Tryz.f4 Rows.charpolyCompanionsRow.domain false) (Rows.charpolyCompanionsSpec.post enc Tryz.prog Tryz.f4 false true false false):=by
 refine returnsInHanded_of_change (C := Tryz.checked) lawOwn started (by kernel_rfl) Tryz.func4
  (ChangeSpec.witness6 (enc:=enc) (C:=Tryz.checked) false ⟨#[],#[.slice none 0 0],[]⟩ 8 (by kernel_rfl) (by kernel_rfl) (by kernel_rfl) (by kernel_rfl)) ?_
 intro W base args ds gs before hval0 hW hcnd _
 have hW':=hW
 have hlt:=fun p hp=>hW.lt p hp
 obtain⟨p,q,hA0,hV,rfl,hfz,hnd⟩:=hW
 have hA:DataW.TrodAll enc Tryz.prog W 0 (fun _=>true) true Tryz.f4.params.toList args.toList ds p:=hA0
 have hval:∀(j:Nat) t v,Tryz.f4.params[j]? = some t->args[j]? = some v->Value.okWide Tryz.prog W .any base t v:=hval0
 rw[Tryz.params4]at hA hval
 obtain⟨v0,vs0,d0,ds0,p0,q0,hargs,rfl,rfl,h0,r0⟩:=trodAll_cons hA
 obtain⟨rfl,rfl,rfl⟩:=trodAll_nil r0
 obtain rfl:args=#[v0]:=by cases args;simp_all
 obtain⟨rfl,rfl⟩:=trodVars_none hV
 refine(walk_CharpolyCompanions (hval 0 _ _ rfl rfl) h0).mono fun e W' ⟨he,hb⟩=>?_
 subst he
 exact⟨_,rfl,post_below hW' (fun _ _ _=>trodAll_cons_mk (shut_bool Tryz.underlying4 _) trodAll_mk0) (fun sp hsp=>(trodAll_cons_mk (Below.trodS lawLaid (by kernel_rfl) (by decide +kernel) h0 hb (fun x hx=>hlt x (List.mem_append_left _ (List.mem_append_left _ hx))) (fun x hx=>hsp x (List.mem_append_left _ (List.mem_append_left _ hx)))) trodAll_mk0)) (fun _ _=>rfl) rfl hb (ok_one (by kernel_rfl) rfl (okWide_bool_mk Tryz.underlying4 _))⟩
set_option maxHeartbeats 4000000 in
theorem closed:joinedFacts Tryz.prog 4 Tryz.f4 Rows.charpolyCompanionsSpec Rows.charpolyCompanionsRow=true:=by
 unfold joinedFacts
 simp only[Bool.and_eq_true]
 repeat' apply And.intro
 all_goals (as_aux_lemma=>kernel_rfl)
theorem over:Rows.charpolyCompanionsRow.holds Tryz.pinned (OpenSpec.ofChange Rows.charpolyCompanionsSpec) :=
 OpenClaim.holds_of_wide 4 Tryz.f4 rfl rfl rfl rfl rfl rfl rfl ⟨rfl, rfl, rfl, rfl, rfl⟩ rfl rfl rfl rfl rfl (by kernel_rfl) Tryz.func4 closed
  (of_decide_eq_true (by kernel_rfl)) (by unfold Func.isWrapper;first | (rw[if_pos (by decide +kernel)];kernel_rfl) | (rw[if_neg (by decide +kernel)];exact⟨rfl,rfl⟩))
  (fun os started H enc _=>lifted os started H enc)
end Go.Proofs.YtkmbnldginonbaaGreat.charpolyCompanions
namespace Go.Proofs.YtkmbnldginonbaaGreat
theorem charpolyCompanions_holds:Rows.CharpolyCompanionsSaid:=charpolyCompanions.over
#print axioms charpolyCompanions_holds
end Go.Proofs.YtkmbnldginonbaaGreat
