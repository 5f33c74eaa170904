/- A walk in pieces: behind each piece the state is told anew. -/
import Derived.Test.YtkmbnldginonbaaGreatNw3
import Derived.Test.YtkmbnldginonbaaGreatNw9
import Derived.Test.YtkmbnldginonbaaGreatNw6
namespace Go.Proofs.YtkmbnldginonbaaGreat
open Go.RowKit
structure Swp (E : Env) (N : Nat) (c : Code) (σ : St) (R : Exit → St → Prop) : Prop where
 run:∀(C:Ctx) (a:Act) (w:World),C.r=E.r->C.ρ0.length≤E.m0->C.N=N->Rel C σ a w->c.wp E.P (QR C R) a w
theorem swp_of {E:Env} (hE:EnvOK E) (hm:E.P.follows .mixedOrders=true) {N:Nat} {c:Code} {σ:St} {R:Exit->St->Prop} (hc:codeB N c=true) (h:awp E c σ R):Swp E N c σ R :=
 ⟨fun C a w h1 h2 h3 hr=>awp_sound (C:=C) hE h1 h2 hm c (by rw[h3];exact hc) h hr⟩
theorem swp_seq {E:Env} (hE:EnvOK E) (hm:E.P.follows .mixedOrders=true) {N:Nat} {x y:Code} {σ:St} {R:Exit->St->Prop} (hc:codeB N x=true) (h:awp E x σ (seqR (fun σ'=>∃ σ2,Weak E.m0 σ' σ2/\Swp E N y σ2 R) R)):Swp E N (.seq x y) σ R:=by
 refine⟨fun C a w h1 h2 h3 hr=>?_⟩
 refine wp_seq (wp_mono (awp_sound (C:=C) hE h1 h2 hm x (by rw[h3];exact hc) h hr) ?_)
 rintro e a' w' ⟨σ',hrel,hk⟩
 cases e with
 | normal =>
  obtain⟨σ2,hw,hs⟩:=hk
  exact hs.run C a' w' h1 h2 h3 (hw C a' w' h2 hrel)
 | _=>exact⟨σ',hrel,hk⟩
theorem swp_seq0 {E:Env} (hE:EnvOK E) (hm:E.P.follows .mixedOrders=true) {N:Nat} {x y:Code} {σ:St} {R:Exit->St->Prop} (hc:codeB N x=true) (h:awp E x σ (seqR (fun σ'=>Swp E N y σ' R) R)):Swp E N (.seq x y) σ R:=by
 refine⟨fun C a w h1 h2 h3 hr=>?_⟩
 refine wp_seq (wp_mono (awp_sound (C:=C) hE h1 h2 hm x (by rw[h3];exact hc) h hr) ?_)
 rintro e a' w' ⟨σ',hrel,hk⟩
 cases e with
 | normal=>exact hk.run C a' w' h1 h2 h3 hrel
 | _=>exact⟨σ',hrel,hk⟩
theorem swp_seqS {E:Env} {N:Nat} {x y:Code} {σ:St} {R:Exit->St->Prop} (h:Swp E N x σ (seqR (fun σ'=>Swp E N y σ' R) R)):Swp E N (.seq x y) σ R:=by
 refine⟨fun C a w h1 h2 h3 hr=>?_⟩
 refine wp_seq (wp_mono (h.run C a w h1 h2 h3 hr) ?_)
 rintro e a' w' ⟨σ',hrel,hk⟩
 cases e with
 | normal=>exact hk.run C a' w' h1 h2 h3 hrel
 | _=>exact⟨σ',hrel,hk⟩
theorem swp_block {E:Env} {N id:Nat} {c:Code} {σ:St} {R:Exit->St->Prop} (h:Swp E N c σ (blockR id R)):Swp E N (.block id c) σ R:=by
 refine⟨fun C a w h1 h2 h3 hr=>?_⟩
 refine wp_block (wp_mono (h.run C a w h1 h2 h3 hr) ?_)
 rintro e a' w' ⟨σ',hrel,hk⟩
 cases e with
 | exit i =>
  simp only[blockR]at hk
  simp only[Exit.inBlock]
  split
  ·rename_i e;rw[if_pos e]at hk;exact⟨σ',hrel,hk⟩
  ·rename_i e;rw[if_neg e]at hk;exact⟨σ',hrel,hk⟩
 | _=>exact⟨σ',hrel,hk⟩
theorem swp_loop {E:Env} {N:Nat} {c:Code} {σ:St} {R:Exit->St->Prop} {α:Type} (S:α->St) (m:α->Nat) (I:α->Prop) (x0:α) (h0:Weak E.m0 σ (S x0)) (hI:I x0) (hr:∀ x,I x->Swp E N c (S x) (seqR (fun σ2=>∃ x',m x'<m x/\Weak E.m0 σ2 (S x')/\I x') R)):Swp E N (.loop c) σ R:=by
 refine⟨fun C a w h1 h2 h3 hrel=>?_⟩
 refine wp_loop_ghost (fun n a w=>∃ x,n=m x/\I x/\Rel C (S x) a w) (m x0) ⟨x0,rfl,hI,h0 _ _ _ h2 hrel⟩ ?_
 rintro n a w ⟨x,rfl,hx,hrel⟩
 refine wp_mono ((hr x hx).run C a w h1 h2 h3 hrel) ?_
 rintro e a' w' ⟨σ2,hrel2,hk⟩
 cases e with
 | normal =>
  obtain⟨x',hlt,hw,hI'⟩:=hk
  exact⟨m x',hlt,x',rfl,hI',hw _ _ _ h2 hrel2⟩
 | _=>exact⟨σ2,hrel2,hk⟩
theorem fn_okS {E : Env} (hE : EnvOK E) {f : FuncId} {fn : Func} {c : Code} {args : List V} {X : V} (hf : E.P.funcs[f]? = some fn) (hb : fn.body = some c) (hbd : hasBody E.P f = true)
  (h:Swp E fn.ntmps c ⟨frame0 args,[]⟩ (retOK E fn.results.toList X)):FnOK E.P E.r f args X:=by
 refine⟨hbd,?_⟩
 intro D w vs hD hU hargs
 refine calls_of_wp hf hb ?_
 let C:Ctx:=⟨D,⟨w,fun _=>False⟩,E.r,fn.ntmps,[]⟩
 have hlen:=hargs.length
 have hrel:Rel C ⟨frame0 args,[]⟩ { tmps:=vs.toArray++Array.replicate (fn.ntmps-vs.toArray.size) undef,defers:=[] } w:=by
  have hDof:∀ b,Dof D [] [] b->D b:=by
   rintro b (h | ⟨k,l,B,h1,_⟩)
   ·exact h
   ·simp at h1
  refine⟨[],⟨⟨rfl,rfl,rfl,Nat.le_refl _,fun _ _ _=>rfl⟩,fun b hb=>⟨hD b hb,id⟩,rfl,fun k l B h1 _=>by simp at h1,fun i j li lj Bi Bj b h1=>by simp at h1,fun hr b o d hb=>hU hr b o d (hDof b hb)⟩,⟨by simp[C];omega,LocsLe.refl _⟩,rfl,fun t=>?_⟩
  have h1:=hargs.get t
  have h2:VRel (Dof D [] []) w [] (args.getD t (.c .any)) (vs.getD t undef):=h1.step (Ext.refl _ _) (fun b _ hb=>hDof b hb) (LocsLe.refl _)
  show VRel (Dof D [] []) w [] (args.getD t (.c .any)) _
  rcases Nat.lt_or_ge t vs.length with hlt | hge
  ·have:(vs.toArray++Array.replicate (fn.ntmps-vs.toArray.size) undef).getD t undef=vs.getD t undef:=by
    rw[Array.getD_eq_getD_getElem?,Array.getElem?_append_left (by simpa using hlt)]
    simp[List.getD]
   rw[this];exact h2
  ·rw[show args.getD t (V.c .any) = .c .any by rw[List.getD,List.getElem?_eq_none (by omega)];rfl]
   trivial
 refine wp_mono (h.run C _ _ rfl (Nat.zero_le _) rfl hrel) ?_
 rintro e a w' ⟨σ,hr,hk⟩
 have fin:retOK E fn.results.toList X .ret σ->a.defers=[]/\∃ v,(results fn a.tmps).run E.P w' = .ok v w'/\∃ u,Ending.returned v = .returned u/\VRel D w' [] X u/\Below w.heap.size w w':=by
  intro hk
  obtain⟨ρ,hs,hN,hdf,hfr⟩:=hr
  refine⟨hdf,?_⟩
  simp only[retOK]at hk
  split at hk
  ·rename_i v hv
   obtain⟨x,hx,hxr⟩:=ret_run hE hs hfr hv
   -- the result in a slot of its own
   let tm':Nat->V:=fun t=>if t=a.tmps.size then v else σ.tm t
   let a':Act:={ a with tmps:=a.tmps.push x }
   have hrel':Rel C ⟨tm',σ.bl⟩ a' w':=by
    refine⟨ρ,hs,⟨by show _≤(a.tmps.push x).size;have:=hN.1;simp;omega,hN.2⟩,hdf,fun t=>?_⟩
    show VRel _ _ _ (if t=a.tmps.size then v else σ.tm t) ((a.tmps.push x).getD t undef)
    by_cases e:t=a.tmps.size
    ·rw[if_pos e,e];simpa [Array.getD] using hxr
    ·rw[if_neg e]
     have:(a.tmps.push x).getD t undef=a.tmps.getD t undef:=by
      rw[Array.getD_eq_getD_getElem?,Array.getD_eq_getD_getElem?,Array.getElem?_push]
      rw[if_neg e]
     rw[this];exact hfr t
   have hk':=frzA_tm (tm:=tm') (K':=fun σ'=>closT (closeT σ'.bl v)=true/\Sub (closeT σ'.bl v) X) (partsV v) (fun bl h=>h) hk
   obtain⟨σ',⟨h1,h2⟩,⟨ρ',hs',_,_,hfr'⟩,htm⟩:=Rel.frzA hk' hrel'
   have h3:=hfr' a.tmps.size
   rw[htm]at h3
   have h4:VRel (Dof D ρ' σ'.bl) w' ρ' v x:=by
    have e1:tm' a.tmps.size=v:=by show(if a.tmps.size=a.tmps.size then v else _)=v;rw[if_pos rfl]
    have e2:a'.tmps.getD a.tmps.size undef=x:=by show(a.tmps.push x).getD a.tmps.size undef=x;simp[Array.getD]
    rw[← e1,← e2]
    exact h3
   have h5:=closT_rel (ρ':=[]) (closeT_rel hs' h4) h1
   exact⟨x,hx,x,rfl,h2 D w' x (h5.step (Ext.refl _ _) (fun b _ hb => .inl hb) (LocsLe.refl _)),⟨hs'.below.os,hs'.below.tape,hs'.below.output,hs'.below.size,fun k hk=>hs'.below.block k hk id⟩⟩
  ·exact hk.elim
 cases e with
 | normal=>exact fin hk
 | ret=>exact fin hk
 | exit i=>exact hk.elim
 | goto l=>exact hk.elim
 | panic ch=>exact hk.elim
 | outgrown=>exact hk.elim
def retS (E:Env) (rs:List ResultVar) (X:V) (m:Nat) (post:List Blk) (e:Exit) (σ:St):Prop :=
 match e with
 | .normal | .ret=>match retV E σ rs with
  | some v=>Weak m ⟨asg [(0,v)],σ.bl⟩ ⟨asg [(0,X)],post⟩
  | none=>False
 | _=>False
end Go.Proofs.YtkmbnldginonbaaGreat
/- Division of lists of fractions by a monic one, in the program. -/
namespace Go.Proofs.YtkmbnldginonbaaGreat
open Go.RowKit
namespace Rf
theorem div_one_ok (x:Rat) {L:Nat} (h:qlen x≤L) (hL:L+8≤LIM):FnOK Tryz.prog true 59 [.g (nq x),.g (nq 1)] (.t2 (.g (nq x)) (.c (.int .i64 0))):=by
 have:=qquo_ok (q:=ofR x) (p:=ofR 1) (ofR_fit h) (ofR_fit (L:=1) (by decide)) (by omega) (by rw[ofR_val];decide)
 rw[ofR_val,ofR_val,show x / 1=x by grind]at this
 exact this
end Rf
end Go.Proofs.YtkmbnldginonbaaGreat
/- Quotient and remainder by a monic polynomial in the program. -/
namespace Go.Proofs.YtkmbnldginonbaaGreat
open Go.RowKit
namespace Rf
end Rf
end Go.Proofs.YtkmbnldginonbaaGreat
/- Fractions with a common denominator, and how long they are. -/
namespace Go.Proofs.YtkmbnldginonbaaGreat
def Bd (D B:Nat) (x:Rat):Prop:=∃ z:Int,x*((D:Int):Rat)=(z:Rat)/\z.natAbs≤B
namespace Q
end Q
end Go.Proofs.YtkmbnldginonbaaGreat
/- The ring of rests modulo a monic polynomial, and the matrices of its multiplications. No condition. -/
namespace Go.Proofs.YtkmbnldginonbaaGreat
namespace Q
def xp (i k:Nat):Rat:=if k=i then 1 else 0
structure Rws (n : Nat) (f A g : Nat → Rat) (a : Nat → Nat → Rat) : Prop where
 first:Rm n f A (a 0)
 next:∀ i,Rm n f (cf (a i) g) (a (i+1))
end Q
end Go.Proofs.YtkmbnldginonbaaGreat
/- A well-formed number field opened; normal forms, sums and products of its elements. -/
namespace Go.Proofs.YtkmbnldginonbaaGreat
open Go.RowKit
namespace Rf
abbrev KD:Nat:=1048576
structure Fd (d C : Nat) (f : Nat → Rat) : Prop where
 mon:Q.Mon d f
 pos:1≤d
 low:d≤12
 bd:∀ j,Bd 1 C (f j)
 small:C<Dg.B^KD
end Rf
end Go.Proofs.YtkmbnldginonbaaGreat
/- Number fields: the calls of sums and products; coordinates, and the letter. -/
namespace Go.Proofs.YtkmbnldginonbaaGreat
open Go.RowKit
open Classical in
noncomputable def Q.red (d:Nat) (f p:Nat->Rat):Nat->Rat:=if h:∃ r,Q.Rm d f p r then h.choose else p
namespace Rf
end Rf
end Go.Proofs.YtkmbnldginonbaaGreat
/- The document's fractions in normal form: sign, comparison, product, sum; combinations of lists. -/
namespace Go.Proofs.YtkmbnldginonbaaGreat
open Go.RowKit
namespace Rf
theorem lenZ {x:Rat} {L:Nat} (h:qlen x≤L):zlen x.num≤L/\zlen (x.den:Int)≤L:=by
 have h:max (zlen x.num) (zlen (x.den:Int))≤L:=h
 omega
theorem wq_n {x:Rat} (h:qlen x≤524286):wq (ofR x):=by
 have h1:=lenZ h
 refine⟨⟨wr_nz (by omega),wr_nz (by omega)⟩,?_,?_⟩
 ·show zlen (ofZ x.num).val≤_
  rw[ofZ_val];exact h1.1
 ·show zlen (ofZ (x.den:Int)).val≤_
  rw[ofZ_val];exact h1.2
theorem rqnorm_n {x:Rat} (h:qlen x≤524286):FnOK Tryz.prog false 102 [.g (nq x)] (.g (nq x)):=by
 have:=rqnormal_ok (wq_n h)
 rwa [ofR_val]at this
set_option maxHeartbeats 4000000 in
theorem rqsign_n {x:Rat} (h:qlen x≤524286):FnOK Tryz.prog false 106 [.g (nq x)] (.c (.int .i64 x.num.sign)):=by
 have h1:=lenZ h
 have s1:=zsign_ok (a:=ofZ x.num) (wr_nz (by omega))
 have s2:=zsign_ok (a:=ofZ (x.den:Int)) (wr_nz (by omega))
 rw[ofZ_val]at s1 s2
 have e:x.num.sign*(x.den:Int).sign=x.num.sign:=by
  have:=x.den_pos
  rw[Int.sign_eq_one_of_pos (show(0:Int)<(x.den:Int)by omega),Int.mul_one]
 refine fn_ok (E:=E0) E0_ok Tryz.func106 rfl mixed (by kernel_rfl) (by kernel_rfl) ?_
 conv=>whnf
 refine⟨_,s1,?_⟩
 conv=>whnf
 refine⟨_,s2,?_⟩
 conv=>whnf
 refine⟨sign_range _ _,?_⟩
 conv=>whnf
 exact⟨rfl,Sub.int e⟩
set_option maxHeartbeats 4000000 in
theorem rqsame_n {x y:Rat} (h:qlen x≤524286):FnOK Tryz.prog false 12 [.g (nq x),.g (nq y)] (.c (.bool (decide (x=y)))):=by
 have h1:=lenZ h
 have s1:=same_nz (x:=x.num) (y:=y.num) (by omega)
 have s2:=same_nz (x:=(x.den:Int)) (y:=(y.den:Int)) (by omega)
 have e:x=y↔x.num=y.num/\(x.den:Int)=(y.den:Int):=⟨fun e=>by rw[e];exact⟨rfl,rfl⟩,fun⟨a,b⟩=>Rat.ext a (by omega)⟩
 have e1:x.num≠y.num->false=decide (x=y):=fun a=>(decide_eq_false fun b=>a (e.1 b).1).symm
 have e2:x.num=y.num->decide ((x.den:Int)=(y.den:Int))=decide (x=y):=fun a=>decide_eq_decide.2 ⟨fun b=>e.2 ⟨a,b⟩,fun b=>(e.1 b).2⟩
 refine fn_ok (E:=E0) E0_ok Tryz.func12 rfl mixed (by kernel_rfl) (by kernel_rfl) ?_
 conv=>whnf
 refine⟨_,s1,?_⟩
 conv=>whnf
 refine bcase (fun(c:gw true (decide (x.num=y.num))=true)=>?_) fun(c:gw true (decide (x.num=y.num))=false)=>?_
 ·have c:=e2 (of_decide_eq_true (gw_true.1 c))
  conv=>whnf
  refine⟨_,s2,?_⟩
  conv=>whnf
  exact⟨rfl,sub_bool c⟩
 ·have c:=e1 (of_decide_eq_false (gw_false.1 c))
  conv=>whnf
  exact⟨rfl,sub_bool c⟩
theorem over_n {a b:Int} {x:Rat} (hx:ratio a b=x) (h1:zlen a≤524286) (h2:zlen b≤524286):FnOK Tryz.prog false 103 [.g (nz a),.g (nz b)] (.g (nq x)):=by
 have:=rover_ok (a:=ofZ a) (b:=ofZ b) (wr_nz (by omega)) (wr_nz (by omega)) (by rw[ofZ_val];exact h1) (by rw[ofZ_val];exact h2)
 rw[ofZ_val,ofZ_val,hx]at this
 exact this
set_option maxHeartbeats 4000000 in
theorem rqmul_n {x y:Rat} (hx:qlen x≤65535) (hy:qlen y≤65535):FnOK Tryz.prog false 91 [.g (nq x),.g (nq y)] (.g (nq (x*y))):=by
 have h1:=lenZ hx
 have h2:=lenZ hy
 have m1:=zmul_n (a:=x.num) (b:=y.num) (by omega)
 have m2:=zmul_n (a:=(x.den:Int)) (b:=(y.den:Int)) (by omega)
 have l1:=zlen_mul x.num y.num
 have l2:=zlen_mul (x.den:Int) (y.den:Int)
 have o:=over_n (x:=x*y) (a:=x.num*y.num) (b:=(x.den:Int)*(y.den:Int)) (by rw[← ratio_mul,ratio_num_den,ratio_num_den]) (by omega) (by omega)
 refine fn_ok (E:=E0) E0_ok Tryz.func91 rfl mixed (by kernel_rfl) (by kernel_rfl) ?_
 conv=>whnf
 refine⟨_,m1,?_⟩
 conv=>whnf
 refine⟨_,m2,?_⟩
 conv=>whnf
 refine⟨_,o,?_⟩
 conv=>whnf
 exact⟨rfl,Sub.refl _⟩
set_option maxHeartbeats 4000000 in
theorem rqadd_n {x y:Rat} (hx:qlen x≤131070) (hy:qlen y≤131070):FnOK Tryz.prog false 53 [.g (nq x),.g (nq y)] (.g (nq (x+y))):=by
 have h1:=lenZ hx
 have h2:=lenZ hy
 have n1:=rqnorm_n (x:=x) (by omega)
 have n2:=rqnorm_n (x:=y) (by omega)
 have m1:=zmul_n (a:=x.num) (b:=(y.den:Int)) (by omega)
 have m2:=zmul_n (a:=y.num) (b:=(x.den:Int)) (by omega)
 have m3:=zmul_n (a:=(x.den:Int)) (b:=(y.den:Int)) (by omega)
 have l1:=zlen_mul x.num (y.den:Int)
 have l2:=zlen_mul y.num (x.den:Int)
 have l3:=zlen_mul (x.den:Int) (y.den:Int)
 have l4:=zlen_add (x.num*(y.den:Int)) (y.num*(x.den:Int))
 have a1:=zadd_ok (a:=ofZ (x.num*(y.den:Int))) (b:=ofZ (y.num*(x.den:Int))) (wr_nz (by omega)) (wr_nz (by omega)) (by rw[ofZ_val];omega) (by rw[ofZ_val];omega)
 rw[ofZ_val,ofZ_val]at a1
 have d1:=x.den_pos
 have d2:=y.den_pos
 have o:=over_n (x:=x+y) (a:=x.num*(y.den:Int)+y.num*(x.den:Int)) (b:=(x.den:Int)*(y.den:Int)) (by rw[← ratio_add (by omega) (by omega),ratio_num_den,ratio_num_den]) (by omega) (by omega)
 refine fn_ok (E:=E0) E0_ok Tryz.func53 rfl mixed (by kernel_rfl) (by kernel_rfl) ?_
 conv=>whnf
 refine⟨_,n1,?_⟩
 conv=>whnf
 refine⟨_,n2,?_⟩
 conv=>whnf
 refine⟨_,m1,?_⟩
 conv=>whnf
 refine⟨_,m2,?_⟩
 conv=>whnf
 refine⟨_,a1,?_⟩
 conv=>whnf
 refine⟨_,m3,?_⟩
 conv=>whnf
 refine⟨_,o,?_⟩
 conv=>whnf
 exact⟨rfl,Sub.refl _⟩
end Rf
end Go.Proofs.YtkmbnldginonbaaGreat
/- The document's lists of fractions: zeros, combinations. -/
namespace Go.Proofs.YtkmbnldginonbaaGreat
open Go.RowKit
namespace Rf
theorem rqof_zero:FnOK Tryz.prog false 52 [.c (.int .i64 0)] (.g (nq 0)):=by
 have h:=rqof_ok (n:=0) (by decide) (by decide)
 rwa [show((0:Int):Rat)=0 from rfl]at h
theorem app_sameq (v:Nat->Rat) (i j:Nat):(if j=i then nq (v i)else nq (v j))=nq (v j):=app_same (fun i=>nq (v i)) i j
theorem one_nq {bl:List Blk} (x:Rat) (r:Bool) (i j:Nat) (hi:i<1) (hj:j<4):St.one bl (rowF 4 (nq x) i j)=true/\(r=true->(rowF 4 (nq x) i j).noU=true):=by
 match i,j,hi,hj with
 | 0,0,_,_=>exact⟨rfl,fun _=>rfl⟩
 | 0,1,_,_=>exact⟨rfl,fun _=>rfl⟩
 | 0,2,_,_=>exact⟨rfl,fun _=>rfl⟩
 | 0,3,_,_=>exact⟨rfl,fun _=>rfl⟩
set_option maxHeartbeats 4000000 in
theorem rzeros_ok {n:Nat} (hn:n≤1024):FnOK Tryz.prog false 64 [.c (.int .i64 n)] (.c (nql n fun _=>0)):=by
 have h0:=rqof_zero
 refine fn_ok (E:=E0) E0_ok Tryz.func64 rfl mixed (by kernel_rfl) (by kernel_rfl) ?_
 conv=>whnf
 refine loop_ints (fun i:Nat=>gst [(0,.c (.int .i64 n)),(3,.c (.gs 0 0)),(4,.c (.int .i64 i))] [gqr i fun _=>ofR 0]) (fun i=>n-i) (fun i=>i≤n) 0 rfl (Weak.gen [none] rfl ⟨rfl,trivial⟩ ⟨⟨_,rfl,rfl⟩,rfl,⟨_,rfl,rfl⟩,trivial⟩) (Nat.zero_le _) fun i hi=>?_
 conv=>whnf
 refine bcase (fun(h:decide ((i:Int)<n)=true)=>?_) fun(h:decide ((i:Int)<n)=false)=>?_
 ·have h:=of_decide_eq_true h
  conv=>whnf
  refine⟨_,h0,?_⟩
  conv=>whnf
  refine⟨by show i+1≤16777216;omega,fun a b ha hb=>one_nq 0 _ a b ha hb,?_⟩
  conv=>whnf
  refine⟨i64 (by omega) (by omega),?_⟩
  conv=>whnf
  refine⟨i+1,by omega,Weak.gen [some 0] rfl ⟨⟨_,rfl,rfl,rfl,rfl,rfl,fun a b ha hb=>regE ?_ (ql_clos (c:=fun _=>ofR 0) a b)⟩,trivial⟩ ⟨⟨_,rfl,rfl⟩,⟨_,rfl,rfl,rfl⟩,⟨_,rfl,rfl⟩,trivial⟩,by omega⟩
  exact appG (sz:=4) (g:=fun _=>nq 0) (g':=fun _=>nq 0) (l:=nq 0) (app_sameq (fun _=>0) i a) (Nat.le_refl (i+1)) ha
 ·have h:=of_decide_eq_false h
  have e:i=n:=by omega
  conv=>whnf
  refine⟨fun a b _ _=>ql_clos (c:=fun _=>ofR 0) a b,?_⟩
  conv=>whnf
  exact⟨rfl,subRowG e fun _ _ _ _=>rfl⟩
set_option maxHeartbeats 8000000 in
theorem rcomb_ok {n:Nat} {X Y:Nat->Rat} {c:Rat} (hn:n≤1024) (hX:∀ i,i<n->qlen (X i)≤65535) (hY:∀ i,i<n->qlen (Y i)≤65535) (hc:qlen c≤65535):FnOK Tryz.prog false 63 [.c (nql n X),.g (nq c),.c (nql n Y)] (.c (nql n fun i=>X i+c*Y i)):=by
 have s0:=rqsign_n (x:=c) (by omega)
 have s1:∀ i,i<n->FnOK Tryz.prog false 106 [.g (nq (Y i))] (.c (.int .i64 (Y i).num.sign)):=fun i hi=>rqsign_n (by have:=hY i hi;omega)
 have n1:∀ i,i<n->c*Y i=0->FnOK Tryz.prog false 102 [.g (nq (X i))] (.g (nq (X i+c*Y i))):=fun i hi e=>by
  rw[e,Rat.add_zero]
  exact rqnorm_n (by have:=hX i hi;omega)
 have m1:∀ i,i<n->FnOK Tryz.prog false 91 [.g (nq c),.g (nq (Y i))] (.g (nq (c*Y i))):=fun i hi=>rqmul_n hc (hY i hi)
 have a1:∀ i,i<n->FnOK Tryz.prog false 53 [.g (nq (X i)),.g (nq (c*Y i))] (.g (nq (X i+c*Y i))):=fun i hi=>rqadd_n (Nat.le_trans (hX i hi) (by decide)) (qlen_mul hc (hY i hi) (by decide))
 have z0:c.num.sign=0->∀ i,c*Y i=0:=fun e i=>by rw[Rat.num_eq_zero.1 (Int.sign_eq_zero_iff_zero.1 e),Rat.zero_mul]
 have z1:∀ i,(Y i).num.sign=0->c*Y i=0:=fun i e=>by rw[Rat.num_eq_zero.1 (Int.sign_eq_zero_iff_zero.1 e),Rat.mul_zero]
 obtain⟨Z,hZ⟩:∃ Z:Nat->Rat,Z=fun i=>X i+c*Y i:=⟨_,rfl⟩
 have n1:∀ i,i<n->c*Y i=0->FnOK Tryz.prog false 102 [.g (nq (X i))] (.g (nq (Z i))):=by rw[hZ];exact n1
 have a1:∀ i,i<n->FnOK Tryz.prog false 53 [.g (nq (X i)),.g (nq (c*Y i))] (.g (nq (Z i))):=by rw[hZ];exact a1
 rw[← hZ]
 clear hZ hX hY hc
 refine fn_ok (E:=E0) E0_ok Tryz.func63 rfl mixed (by kernel_rfl) (by kernel_rfl) ?_
 conv=>whnf
 refine⟨_,s0,?_⟩
 conv=>whnf
 refine loop_ints (fun i:Nat=>gst [(0,.c (nql n X)),(2,.c (nql n Y)),(4,.c (.p 0 0 4 0 0)),(7,.c (.gs 1 0)),(8,.c (.bool (decide (c.num.sign=0)))),(9,.c (.int .i64 i))] [⟨38,4,1,boxF (nq c)⟩,gqr i fun k=>ofR (Z k)]) (fun i=>n-i) (fun i=>i≤n) 0 rfl (Weak.gen [some 0,none] rfl ⟨boxK rfl rfl,rfl,trivial⟩ ⟨.inl ⟨_,_,rfl,rfl,fun _ _ _ _=>rfl⟩,.inl ⟨_,_,rfl,rfl,fun _ _ _ _=>rfl⟩,⟨_,rfl,rfl,rfl⟩,rfl,⟨_,rfl,rfl⟩,⟨_,rfl,rfl⟩,trivial⟩) (Nat.zero_le _) fun i hi=>?_
 have s1:=s1 i
 have n1:=n1 i
 have m1:=m1 i
 have a1:=a1 i
 have z1:=z1 i
 conv=>whnf
 refine bcase (fun(h:decide ((i:Int)<n)=true)=>?_) fun(h:decide ((i:Int)<n)=false)=>?_
 ·have h:=of_decide_eq_true h
  have s1:=s1 (by omega)
  have n1:=n1 (by omega)
  have m1:=m1 (by omega)
  have a1:=a1 (by omega)
  conv=>whnf
  refine bcase (fun(k:gw false (decide (c.num.sign=0))=true)=>?_) fun(k:gw false (decide (c.num.sign=0))=false)=>?_
  ·conv=>whnf
   refine⟨by omega,by omega,?_⟩
   conv=>whnf
   refine⟨_,s1,?_⟩
   conv=>whnf
   refine bcase (fun(k2:decide ((Y i).num.sign=0)=true)=>?_) fun(k2:decide ((Y i).num.sign=0)=false)=>?_
   ·have n1:=n1 (z1 (of_decide_eq_true k2))
    conv=>whnf
    refine⟨by omega,by omega,?_⟩
    conv=>whnf
    refine⟨_,n1,?_⟩
    conv=>whnf
    refine⟨by show i+1≤16777216;omega,fun a b ha hb=>one_nq (Z i) _ a b ha hb,?_⟩
    conv=>whnf
    refine⟨i64 (by omega) (by omega),?_⟩
    conv=>whnf
    refine⟨i+1,by omega,Weak.gen [some 0,some 1] rfl ⟨boxK rfl rfl,⟨_,rfl,rfl,rfl,rfl,rfl,fun a b ha hb=>regE ?_ (ql_clos (c:=fun k=>ofR (Z k)) a b)⟩,trivial⟩ ⟨.inl ⟨_,_,rfl,rfl,fun _ _ _ _=>rfl⟩,.inl ⟨_,_,rfl,rfl,fun _ _ _ _=>rfl⟩,⟨_,rfl,rfl,rfl⟩,⟨_,rfl,rfl,rfl⟩,⟨_,rfl,rfl⟩,⟨_,rfl,rfl⟩,trivial⟩,by omega⟩
    exact appG (sz:=4) (g:=fun k=>nq (Z k)) (g':=fun k=>nq (Z k)) (l:=nq (Z i)) (app_sameq Z i a) (Nat.le_refl (i+1)) ha
   ·conv=>whnf
    refine⟨by omega,by omega,?_⟩
    conv=>whnf
    refine⟨by omega,by omega,?_⟩
    conv=>whnf
    refine⟨_,m1,?_⟩
    conv=>whnf
    refine⟨_,a1,?_⟩
    conv=>whnf
    refine .inr ⟨rfl,?_⟩
    conv=>whnf
    refine⟨by show i+1≤16777216;omega,fun a b ha hb=>one_nq (Z i) _ a b ha hb,?_⟩
    conv=>whnf
    refine⟨i64 (by omega) (by omega),?_⟩
    conv=>whnf
    refine⟨i+1,by omega,Weak.gen [some 0,some 1] rfl ⟨boxK rfl rfl,⟨_,rfl,rfl,rfl,rfl,rfl,fun a b ha hb=>regE ?_ (ql_clos (c:=fun k=>ofR (Z k)) a b)⟩,trivial⟩ ⟨.inl ⟨_,_,rfl,rfl,fun _ _ _ _=>rfl⟩,.inl ⟨_,_,rfl,rfl,fun _ _ _ _=>rfl⟩,⟨_,rfl,rfl,rfl⟩,⟨_,rfl,rfl,rfl⟩,⟨_,rfl,rfl⟩,⟨_,rfl,rfl⟩,trivial⟩,by omega⟩
    exact appG (sz:=4) (g:=fun k=>nq (Z k)) (g':=fun k=>nq (Z k)) (l:=nq (Z i)) (app_sameq Z i a) (Nat.le_refl (i+1)) ha
  ·have n1:=n1 (z0 (of_decide_eq_true (gwf' k)) i)
   conv=>whnf
   refine⟨by omega,by omega,?_⟩
   conv=>whnf
   refine⟨_,n1,?_⟩
   conv=>whnf
   refine⟨by show i+1≤16777216;omega,fun a b ha hb=>one_nq (Z i) _ a b ha hb,?_⟩
   conv=>whnf
   refine⟨i64 (by omega) (by omega),?_⟩
   conv=>whnf
   refine⟨i+1,by omega,Weak.gen [some 0,some 1] rfl ⟨boxK rfl rfl,⟨_,rfl,rfl,rfl,rfl,rfl,fun a b ha hb=>regE ?_ (ql_clos (c:=fun k=>ofR (Z k)) a b)⟩,trivial⟩ ⟨.inl ⟨_,_,rfl,rfl,fun _ _ _ _=>rfl⟩,.inl ⟨_,_,rfl,rfl,fun _ _ _ _=>rfl⟩,⟨_,rfl,rfl,rfl⟩,⟨_,rfl,rfl,rfl⟩,⟨_,rfl,rfl⟩,⟨_,rfl,rfl⟩,trivial⟩,by omega⟩
   exact appG (sz:=4) (g:=fun k=>nq (Z k)) (g':=fun k=>nq (Z k)) (l:=nq (Z i)) (app_sameq Z i a) (Nat.le_refl (i+1)) ha
 ·have h:=of_decide_eq_false h
  have e:i=n:=by omega
  conv=>whnf
  refine⟨fun a b _ _=>ql_clos (c:=fun k=>ofR (Z k)) a b,?_⟩
  conv=>whnf
  exact⟨rfl,subRowG e fun _ _ _ _=>rfl⟩
end Rf
end Go.Proofs.YtkmbnldginonbaaGreat
/- The document's matrices: rows. -/
namespace Go.Proofs.YtkmbnldginonbaaGreat
open Go.RowKit
abbrev matL (n m:Nat) (G:Nat->Nat->Rat):List Cell:=[.int .i64 n,.int .i64 m,.row 4 (n*m) (qlF fun k=>ofR (G (k / m) (k%m)))]
abbrev rmat (n m:Nat) (q:Nat->RawR):List Cell:=[.int .i64 n,.int .i64 m,ql (n*m) q]
namespace Rf
abbrev rowsC (n m:Nat) (G:Nat->Nat->Rat):Cell := .row 1 n fun i _=>nql m (G i)
theorem mat_idx {n m i j:Nat} (hi:i<n) (hj:j<m):i*m+j<n*m/\(i*m+j) / m=i/\(i*m+j)%m=j:=by
 have h1:(i+1)*m≤n*m:=Nat.mul_le_mul_right _ hi
 rw[Nat.add_mul]at h1
 refine⟨by omega,?_,?_⟩
 ·rw[Nat.mul_comm,Nat.mul_add_div (by omega),Nat.div_eq_of_lt hj,Nat.add_zero]
 ·rw[Nat.mul_comm,Nat.mul_add_mod,Nat.mod_eq_of_lt hj]
set_option maxHeartbeats 8000000 in
theorem rowsR_ok {n m:Nat} {q:Nat->RawR} {G:Nat->Nat->Rat} (hn:n≤64) (hm:m≤64) (h:∀ k,k<n*m->wq (q k)) (hG:∀ i j,i<n->j<m->(q (i*m+j)).val=G i j):FnOK Tryz.prog false 55 [.g (rmat n m q)] (.c (rowsC n m G)):=by
 have hnm:∀ i,i≤n->(i:Int)*(m:Int)=((i*m:Nat):Int)/\i*m≤4096:=fun i hi=>⟨by rw[Int.natCast_mul],Nat.le_trans (Nat.mul_le_mul (show i≤64 by omega) hm) (by decide)⟩
 have n1:∀ i j,i<n->j<m->FnOK Tryz.prog false 102 [.g (rr (q ((i:Int)*(m:Int)+(j:Int)).toNat))] (.g (nq (G i j))):=fun i j hi hj=>by
  have e1:=(hnm i (by omega)).1
  rw[show((i:Int)*(m:Int)+(j:Int)).toNat=i*m+j by rw[e1];omega,← hG i j hi hj]
  exact rqnormal_ok (h _ (mat_idx hi hj).1)
 clear hG
 clear h
 refine fn_ok (E:=E0) E0_ok Tryz.func55 rfl mixed (by kernel_rfl) (by kernel_rfl) ?_
 conv=>whnf
 refine loop_ints (fun i:Nat=>gst [(1,.c (.p 0 0 3 0 0)),(3,.c (.gs 1 0)),(4,.c (.int .i64 i))] [⟨24,3,1,boxF (rmat n m q)⟩,⟨22,1,i,fun k _=>nql m (G k)⟩]) (fun i=>n-i) (fun i=>i≤n) 0 rfl (Weak.gen [some 0,none] rfl ⟨boxK rfl rfl,rfl,trivial⟩ ⟨⟨_,rfl,rfl,rfl⟩,rfl,⟨_,rfl,rfl⟩,trivial⟩) (Nat.zero_le _) fun i hi=>?_
 have n1:=n1 i
 obtain⟨e1,e2⟩:=hnm i hi
 have e3:=fun(a:i<n) (j:Nat) (b:j<m)=>(mat_idx a b).1
 conv=>whnf
 refine bcase (fun(h:decide ((i:Int)<n)=true)=>?_) fun(h:decide ((i:Int)<n)=false)=>?_
 ·have h:=of_decide_eq_true h
  have n1:=fun j=>n1 j (by omega)
  have e3:=e3 (by omega)
  conv=>whnf
  refine loop_ints (fun j:Nat=>gst [(1,.c (.p 0 0 3 0 0)),(3,.c (.gs 1 0)),(4,.c (.int .i64 i)),(5,.c (.gs 2 0)),(6,.c (.int .i64 j))] [⟨24,3,1,boxF (rmat n m q)⟩,⟨22,1,i,fun k _=>nql m (G k)⟩,gqr j fun k=>ofR (G i k)]) (fun j=>m-j) (fun j=>j≤m) 0 rfl (Weak.gen [some 0,some 1,none] rfl ⟨boxK rfl rfl,⟨_,rfl,rfl,rfl,rfl,rfl,fun a b ha hb=>regE rfl rfl⟩,rfl,trivial⟩ ⟨⟨_,rfl,rfl,rfl⟩,⟨_,rfl,rfl,rfl⟩,⟨_,rfl,rfl⟩,rfl,⟨_,rfl,rfl⟩,trivial⟩) (Nat.zero_le _) fun j hj=>?_
  have n1:=n1 j
  have e3:=e3 j
  conv=>whnf
  refine bcase (fun(h1:decide ((j:Int)<m)=true)=>?_) fun(h1:decide ((j:Int)<m)=false)=>?_
  ·have h1:=of_decide_eq_true h1
   have n1:=n1 (by omega)
   have e3:=e3 (by omega)
   conv=>whnf
   refine⟨i64 (by rw[e1];omega) (by rw[e1];omega),?_⟩
   conv=>whnf
   refine⟨i64 (by rw[e1];omega) (by rw[e1];omega),?_⟩
   conv=>whnf
   refine⟨by rw[e1];omega,by show(i:Int)*(m:Int)+(j:Int)<((n*m:Nat):Int);rw[e1];omega,?_⟩
   conv=>whnf
   refine⟨_,n1,?_⟩
   conv=>whnf
   refine⟨by show j+1≤16777216;omega,fun a b ha hb=>one_nq (G i j) _ a b ha hb,?_⟩
   conv=>whnf
   refine⟨i64 (by omega) (by omega),?_⟩
   conv=>whnf
   refine⟨j+1,by omega,Weak.gen [some 0,some 1,some 2] rfl ⟨boxK rfl rfl,⟨_,rfl,rfl,rfl,rfl,rfl,fun a b ha hb=>regE rfl rfl⟩,⟨_,rfl,rfl,rfl,rfl,rfl,fun a b ha hb=>regE ?_ (ql_clos (c:=fun k=>ofR (G i k)) a b)⟩,trivial⟩ ⟨⟨_,rfl,rfl,rfl⟩,⟨_,rfl,rfl,rfl⟩,⟨_,rfl,rfl⟩,⟨_,rfl,rfl,rfl⟩,⟨_,rfl,rfl⟩,trivial⟩,by omega⟩
   exact appG (sz:=4) (g:=fun k=>nq (G i k)) (g':=fun k=>nq (G i k)) (l:=nq (G i j)) (app_sameq (G i) j a) (Nat.le_refl (j+1)) ha
  ·have h1:=of_decide_eq_false h1
   have ej:j=m:=by omega
   conv=>whnf
   refine⟨by show i+1≤16777216;omega,fun a b ha hb=>?_,?_⟩
   ·match a,b,ha,hb with
    | 0,0,_,_=>exact⟨rfl,fun h=>by cases h⟩
   conv=>whnf
   refine⟨i64 (by omega) (by omega),?_⟩
   conv=>whnf
   refine⟨i+1,by omega,Weak.gen [some 0,some 1] rfl ⟨boxK rfl rfl,⟨_,rfl,rfl,rfl,rfl,rfl,fun a b ha hb=>?_⟩,trivial⟩ ⟨⟨_,rfl,rfl,rfl⟩,⟨_,rfl,rfl,rfl⟩,⟨_,rfl,rfl⟩,trivial⟩,by omega⟩
   exact regApp (t:=fun k=>nql m (G k)) ha hb (fun _=>regE rfl rfl) (.inr (.inr ⟨2,_,rfl,rfl,rfl,rfl,Nat.zero_le _,rfl,ej,fun k l _ _=>⟨rfl,ql_clos (c:=fun k=>ofR (G i k)) k l⟩⟩))
 ·have h:=of_decide_eq_false h
  have e:i=n:=by omega
  conv=>whnf
  refine⟨fun a b _ _=>rfl,?_⟩
  conv=>whnf
  exact⟨rfl,subRowG e fun _ _ _ _=>rfl⟩
theorem wq_mat {n m:Nat} {G:Nat->Nat->Rat} (h:∀ i j,i<n->j<m->qlen (G i j)≤524286) (k:Nat) (hk:k<n*m):wq (ofR (G (k / m) (k%m))):=by
 have h0:0<m:=Nat.pos_of_ne_zero fun e=>by rw[e,Nat.mul_zero]at hk;omega
 exact wq_n (h _ _ (Nat.div_lt_of_lt_mul (by rw[Nat.mul_comm];exact hk)) (Nat.mod_lt _ h0))
theorem val_mat {n m:Nat} {G:Nat->Nat->Rat} (i j:Nat) (hi:i<n) (hj:j<m):(ofR (G ((i*m+j) / m) ((i*m+j)%m))).val=G i j:=by
 obtain⟨_,e2,e3⟩:=mat_idx hi hj
 rw[ofR_val,e2,e3]
end Rf
end Go.Proofs.YtkmbnldginonbaaGreat
/- The document's matrices: a list times a matrix; a matrix of rows; products. -/
namespace Go.Proofs.YtkmbnldginonbaaGreat
open Go.RowKit
namespace Rf
abbrev sumR (x:Nat->Rat) (G:Nat->Nat->Rat) (i j:Nat):Rat:=Q.su (fun a=>x a*G a j) i
set_option maxHeartbeats 8000000 in
theorem applyR_ok {k m:Nat} {x:Nat->Rat} {p:Nat->RawR} {G:Nat->Nat->Rat} (hk:k≤64) (hm:m≤64) (hx:∀ i,i<k->qlen (x i)≤65535) (hG:∀ i j,i<k->j<m->qlen (G i j)≤65535) (hS:∀ i j,i≤k->j<m->qlen (sumR x G i j)≤65535) (hw:∀ i,i<k*m->wq (p i)) (hv:∀ i j,i<k->j<m->(p (i*m+j)).val=G i j):FnOK Tryz.prog false 56 [.c (nql k x),.g (rmat k m p)] (.c (nql m (sumR x G k))):=by
 have z0:=rzeros_ok (n:=m) (by omega)
 have r0:=rowsR_ok (n:=k) (m:=m) (q:=p) (G:=G) hk hm hw hv
 have s0:∀ i,i<k->FnOK Tryz.prog false 106 [.g (nq (x i))] (.c (.int .i64 (x i).num.sign)):=fun i hi=>rqsign_n (by have:=hx i hi;omega)
 have c0:∀ i,i<k->FnOK Tryz.prog false 63 [.c (nql m (sumR x G i)),.g (nq (x i)),.c (nql m (G i))] (.c (nql m (sumR x G (i+1)))):=fun i hi=>rcomb_ok (by omega) (fun j hj=>hS i j (by omega) hj) (fun j hj=>hG i j hi hj) (hx i hi)
 have e0:∀ i,(x i).num.sign=0->∀ j,sumR x G i j=sumR x G (i+1) j:=fun i e j=>by
  show _=sumR x G i j+x i*G i j
  rw[Rat.num_eq_zero.1 (Int.sign_eq_zero_iff_zero.1 e),Rat.zero_mul,Rat.add_zero]
 clear hx hG hS hw hv
 refine fn_ok (E:=E0) E0_ok Tryz.func56 rfl mixed (by kernel_rfl) (by kernel_rfl) ?_
 conv=>whnf
 refine⟨_,z0,?_⟩
 conv=>whnf
 refine⟨_,r0,?_⟩
 conv=>whnf
 refine loop_ints (fun i:Nat=>gst [(0,.c (nql k x)),(5,.c (nql m (sumR x G i))),(6,.c (rowsC k m G)),(7,.c (.int .i64 i))] []) (fun i=>k-i) (fun i=>i≤k) 0 rfl (Weak.gen [] rfl trivial ⟨.inl ⟨_,_,rfl,rfl,fun _ _ _ _=>rfl⟩,.inl ⟨_,_,rfl,rfl,fun _ _ _ _=>rfl⟩,.inl ⟨_,_,rfl,rfl,fun _ _ _ _=>rfl⟩,⟨_,rfl,rfl⟩,trivial⟩) (Nat.zero_le _) fun i hi=>?_
 have s0:=s0 i
 have c0:=c0 i
 have e0:=e0 i
 conv=>whnf
 refine bcase (fun(h:decide ((i:Int)<k)=true)=>?_) fun(h:decide ((i:Int)<k)=false)=>?_
 ·have h:=of_decide_eq_true h
  have s0:=s0 (by omega)
  have c0:=c0 (by omega)
  conv=>whnf
  refine⟨by omega,by omega,?_⟩
  conv=>whnf
  refine⟨_,s0,?_⟩
  conv=>whnf
  refine bcase (fun(h1:(!decide ((x i).num.sign=0))=true)=>?_) fun(h1:(!decide ((x i).num.sign=0))=false)=>?_
  ·conv=>whnf
   refine⟨by omega,by omega,?_⟩
   conv=>whnf
   refine⟨by omega,by omega,?_⟩
   conv=>whnf
   refine⟨_,c0,?_⟩
   conv=>whnf
   refine⟨i64 (by omega) (by omega),?_⟩
   conv=>whnf
   exact⟨i+1,by omega,Weak.gen [] rfl trivial ⟨.inl ⟨_,_,rfl,rfl,fun _ _ _ _=>rfl⟩,.inl ⟨_,_,rfl,rfl,fun _ _ _ _=>rfl⟩,.inl ⟨_,_,rfl,rfl,fun _ _ _ _=>rfl⟩,⟨_,rfl,rfl⟩,trivial⟩,by omega⟩
  ·have e0:=e0 (by simpa using h1)
   conv=>whnf
   refine⟨i64 (by omega) (by omega),?_⟩
   conv=>whnf
   exact⟨i+1,by omega,Weak.gen [] rfl trivial ⟨.inl ⟨_,_,rfl,rfl,fun _ _ _ _=>rfl⟩,.inl ⟨_,_,rfl,rfl,fun a b _ _=>qlF_eq (c:=fun j=>ofR (sumR x G i j)) (e:=fun j=>ofR (sumR x G (i+1) j)) (i:=a) (k:=a) (congrArg ofR (e0 a))⟩,.inl ⟨_,_,rfl,rfl,fun _ _ _ _=>rfl⟩,⟨_,rfl,rfl⟩,trivial⟩,by omega⟩
 ·have h:=of_decide_eq_false h
  have e:i=k:=by omega
  have g:Sub (.c (nql m (sumR x G i))) (.c (nql m (sumR x G k))):=by rw[e];exact Sub.refl _
  conv=>whnf
  exact⟨rfl,g⟩
theorem mat_next {n m i j:Nat} (G:Nat->Nat->Rat) (hj:j<m) (hi:i<n):nq (G ((i*m+j) / m) ((i*m+j)%m))=nq (G i j):=by
 obtain⟨_,e2,e3⟩:=mat_idx hi hj
 rw[e2,e3]
set_option maxHeartbeats 8000000 in
theorem rof_mat {n m:Nat} {G:Nat->Nat->Rat} (hn:n≤64) (hm:m≤64) (h:∀ i j,i<n->j<m->qlen (G i j)≤524286):FnOK Tryz.prog false 57 [.c (.int .i64 m),.c (rowsC n m G)] (.g (matL n m G)):=by
 have n1:∀ i j,i<n->j<m->FnOK Tryz.prog false 102 [.g (nq (G i j))] (.g (nq (G i j))):=fun i j hi hj=>rqnorm_n (h i j hi hj)
 have hnm:∀ i,i≤n->i*m≤4096:=fun i hi=>Nat.le_trans (Nat.mul_le_mul (show i≤64 by omega) hm) (by decide)
 clear h
 refine fn_ok (E:=E0) E0_ok Tryz.func57 rfl mixed (by kernel_rfl) (by kernel_rfl) ?_
 conv=>whnf
 refine loop_ints (fun i:Nat=>gst [(0,.c (.int .i64 m)),(1,.c (rowsC n m G)),(4,.c (.p 0 0 3 0 0)),(5,.c (.p 1 0 3 0 0)),(6,.c (.int .i64 i))] [⟨24,3,1,boxF [.int .i64 0,.int .i64 0,.nil]⟩,⟨24,3,1,boxF [.int .i64 n,.int .i64 m,.gs 2 0]⟩,gqr (i*m) fun k=>ofR (G (k / m) (k%m))]) (fun i=>n-i) (fun i=>i≤n) 0 rfl ?_ (Nat.zero_le _) fun i hi=>?_
 ·refine Weak.gen [some 0,some 1,none] rfl ⟨boxK rfl rfl,⟨_,rfl,rfl,rfl,rfl,rfl,fun a b ha hb=>by
   obtain rfl:=Nat.lt_one_iff.1 ha
   match b,hb with
   | 0,_=>exact⟨_,rfl,rfl⟩
   | 1,_=>exact⟨_,rfl,rfl⟩
   | 2,_=>exact rfl⟩,Nat.zero_mul m,trivial⟩ ⟨⟨_,rfl,rfl⟩,.inl ⟨_,_,rfl,rfl,fun _ _ _ _=>rfl⟩,⟨_,rfl,rfl,rfl⟩,⟨_,rfl,rfl,rfl⟩,⟨_,rfl,rfl⟩,trivial⟩
 have n1:=n1 i
 have e1:=hnm i hi
 conv=>whnf
 refine bcase (fun(h:decide ((i:Int)<n)=true)=>?_) fun(h:decide ((i:Int)<n)=false)=>?_
 ·have h:=of_decide_eq_true h
  have n1:=fun j=>n1 j (by omega)
  have ap:∀ j,j<m->∀ a,(if a=i*m+j then nq (G i j)else nq (G (a / m) (a%m)))=nq (G (a / m) (a%m)):=fun j hj a=>by
   split
   ·rename_i e
    rw[e,mat_next G hj (show i<n by omega)]
   ·rfl
  conv=>whnf
  refine loop_ints (fun j:Nat=>gst [(0,.c (.int .i64 m)),(1,.c (rowsC n m G)),(4,.c (.p 0 0 3 0 0)),(5,.c (.p 1 0 3 0 0)),(6,.c (.int .i64 i)),(7,.c (.int .i64 j))] [⟨24,3,1,boxF [.int .i64 0,.int .i64 0,.nil]⟩,⟨24,3,1,boxF [.int .i64 n,.int .i64 m,.gs 2 0]⟩,gqr (i*m+j) fun k=>ofR (G (k / m) (k%m))]) (fun j=>m-j) (fun j=>j≤m) 0 rfl (Weak.gen [some 0,some 1,some 2] rfl ⟨boxK rfl rfl,⟨_,rfl,rfl,rfl,rfl,rfl,fun a b ha hb=>by
   obtain rfl:=Nat.lt_one_iff.1 ha
   match b,hb with
   | 0,_=>exact⟨_,rfl,rfl⟩
   | 1,_=>exact⟨_,rfl,rfl⟩
   | 2,_=>exact⟨_,rfl,rfl,rfl⟩⟩,⟨_,rfl,rfl,rfl,rfl,rfl,fun a b ha hb=>regE rfl (ql_clos (c:=fun k=>ofR (G (k / m) (k%m))) a b)⟩,trivial⟩ ⟨⟨_,rfl,rfl⟩,.inl ⟨_,_,rfl,rfl,fun _ _ _ _=>rfl⟩,⟨_,rfl,rfl,rfl⟩,⟨_,rfl,rfl,rfl⟩,⟨_,rfl,rfl⟩,⟨_,rfl,rfl⟩,trivial⟩) (Nat.zero_le _) fun j hj=>?_
  have n1:=n1 j
  have ap:=ap j
  conv=>whnf
  refine bcase (fun(h1:decide ((j:Int)<m)=true)=>?_) fun(h1:decide ((j:Int)<m)=false)=>?_
  ·have h1:=of_decide_eq_true h1
   have n1:=n1 (by omega)
   have ap:=ap (by omega)
   conv=>whnf
   refine⟨by omega,by omega,?_⟩
   conv=>whnf
   refine⟨by omega,by omega,?_⟩
   conv=>whnf
   refine⟨_,n1,?_⟩
   conv=>whnf
   refine .inr ⟨rfl,?_⟩
   conv=>whnf
   refine⟨by show i*m+j+1≤16777216;omega,fun a b ha hb=>one_nq (G i j) _ a b ha hb,?_⟩
   conv=>whnf
   refine⟨i64 (by omega) (by omega),?_⟩
   conv=>whnf
   refine⟨j+1,by omega,Weak.gen [some 0,some 1,some 2] rfl ⟨boxK rfl rfl,⟨_,rfl,rfl,rfl,rfl,rfl,fun a b ha hb=>by
   obtain rfl:=Nat.lt_one_iff.1 ha
   match b,hb with
   | 0,_=>exact⟨_,rfl,rfl⟩
   | 1,_=>exact⟨_,rfl,rfl⟩
   | 2,_=>exact⟨_,rfl,rfl,rfl⟩⟩,⟨_,rfl,rfl,rfl,rfl,rfl,fun a b ha hb=>regE ?_ (ql_clos (c:=fun k=>ofR (G (k / m) (k%m))) a b)⟩,trivial⟩ ⟨⟨_,rfl,rfl⟩,.inl ⟨_,_,rfl,rfl,fun _ _ _ _=>rfl⟩,⟨_,rfl,rfl,rfl⟩,⟨_,rfl,rfl,rfl⟩,⟨_,rfl,rfl⟩,⟨_,rfl,rfl⟩,trivial⟩,by omega⟩
   exact appG (sz:=4) (g:=fun k=>nq (G (k / m) (k%m))) (g':=fun k=>nq (G (k / m) (k%m))) (l:=nq (G i j)) (ap a) (Nat.le_refl (i*m+j+1)) ha
  ·have h1:=of_decide_eq_false h1
   have ej:i*m+j=(i+1)*m:=by rw[Nat.succ_mul,show j=m by omega]
   conv=>whnf
   refine⟨i64 (by omega) (by omega),?_⟩
   conv=>whnf
   exact⟨i+1,by omega,Weak.gen [some 0,some 1,some 2] rfl ⟨boxK rfl rfl,⟨_,rfl,rfl,rfl,rfl,rfl,fun a b ha hb=>by
   obtain rfl:=Nat.lt_one_iff.1 ha
   match b,hb with
   | 0,_=>exact⟨_,rfl,rfl⟩
   | 1,_=>exact⟨_,rfl,rfl⟩
   | 2,_=>exact⟨_,rfl,rfl,rfl⟩⟩,⟨_,rfl,rfl,rfl,ej,rfl,fun a b ha hb=>regE rfl (ql_clos (c:=fun k=>ofR (G (k / m) (k%m))) a b)⟩,trivial⟩ ⟨⟨_,rfl,rfl⟩,.inl ⟨_,_,rfl,rfl,fun _ _ _ _=>rfl⟩,⟨_,rfl,rfl,rfl⟩,⟨_,rfl,rfl,rfl⟩,⟨_,rfl,rfl⟩,trivial⟩,by omega⟩
 ·have h:=of_decide_eq_false h
  have e:i=n:=by omega
  have g:Sub (.g [.int .i64 n,.int .i64 m,.row 4 (i*m) (qlF fun k=>ofR (G (k / m) (k%m)))]) (.g (matL n m G)):=by rw[e];exact Sub.refl _
  conv=>whnf
  refine⟨fun a b _ _=>ql_clos (c:=fun k=>ofR (G (k / m) (k%m))) a b,?_⟩
  conv=>whnf
  exact⟨rfl,g⟩
end Rf
end Go.Proofs.YtkmbnldginonbaaGreat
/- The document's product of matrices. -/
namespace Go.Proofs.YtkmbnldginonbaaGreat
open Go.RowKit
namespace Rf
set_option maxHeartbeats 8000000 in
theorem rmatmulR_ok {n k m:Nat} {q p:Nat->RawR} {A B:Nat->Nat->Rat} (hn:n≤64) (hk:k≤64) (hm:m≤64) (hA:∀ i j,i<n->j<k->qlen (A i j)≤65535) (hB:∀ i j,i<k->j<m->qlen (B i j)≤65535) (hS:∀ r i j,r<n->i≤k->j<m->qlen (sumR (A r) B i j)≤65535) (hq:∀ i,i<n*k->wq (q i)) (hqv:∀ i j,i<n->j<k->(q (i*k+j)).val=A i j) (hp:∀ i,i<k*m->wq (p i)) (hpv:∀ i j,i<k->j<m->(p (i*m+j)).val=B i j):FnOK Tryz.prog false 14 [.g (rmat n k q),.g (rmat k m p)] (.g (matL n m fun r=>sumR (A r) B k)):=by
 have r0:=rowsR_ok (n:=n) (m:=k) (q:=q) (G:=A) hn hk hq hqv
 have a0:∀ i,i<n->FnOK Tryz.prog false 56 [.c (nql k (A i)),.g (rmat k m p)] (.c (nql m (sumR (A i) B k))):=fun i hi=>applyR_ok hk hm (fun j hj=>hA i j hi hj) hB (fun r j hr hj=>hS i r j hi hr hj) hp hpv
 have o0:=rof_mat (n:=n) (m:=m) (G:=fun r=>sumR (A r) B k) hn hm fun i j hi hj=>by have:=hS i k j hi (Nat.le_refl _) hj;omega
 clear hA hB hS hq hqv hp hpv
 have o1:∀ i,i=n->FnOK Tryz.prog false 57 [.c (.int .i64 m),.c (.row 1 i fun a _=>nql m (sumR (A a) B k))] (.g (matL n m fun r=>sumR (A r) B k)):=fun i e=>by rw[e];exact o0
 refine fn_ok (E:=E0) E0_ok Tryz.func14 rfl mixed (by kernel_rfl) (by kernel_rfl) ?_
 conv=>whnf
 refine⟨_,r0,?_⟩
 conv=>whnf
 refine loop_ints (fun i:Nat=>gst [(3,.c (.p 0 0 3 0 0)),(4,.c (.p 1 0 3 0 0)),(5,.c (rowsC n k A)),(6,.c (.gs 2 0)),(7,.c (.int .i64 i))] [⟨24,3,1,boxF (rmat k m p)⟩,⟨24,3,1,boxF [.int .i64 0,.int .i64 0,.nil]⟩,⟨22,1,i,fun a _=>nql m (sumR (A a) B k)⟩]) (fun i=>n-i) (fun i=>i≤n) 0 rfl (Weak.gen [some 1,some 2,none] rfl ⟨boxK rfl rfl,boxK rfl rfl,rfl,trivial⟩ ⟨⟨_,rfl,rfl,rfl⟩,⟨_,rfl,rfl,rfl⟩,.inl ⟨_,_,rfl,rfl,fun _ _ _ _=>rfl⟩,rfl,⟨_,rfl,rfl⟩,trivial⟩) (Nat.zero_le _) fun i hi=>?_
 have a0:=a0 i
 conv=>whnf
 refine bcase (fun(h:decide ((i:Int)<n)=true)=>?_) fun(h:decide ((i:Int)<n)=false)=>?_
 ·have h:=of_decide_eq_true h
  have a0:=a0 (by omega)
  conv=>whnf
  refine⟨by omega,by omega,?_⟩
  conv=>whnf
  refine⟨_,a0,?_⟩
  conv=>whnf
  refine .inr ⟨rfl,?_⟩
  conv=>whnf
  refine⟨by show i+1≤16777216;omega,fun a b ha hb=>?_,?_⟩
  ·match a,b,ha,hb with
   | 0,0,_,_=>exact⟨rfl,fun h=>by cases h⟩
  conv=>whnf
  refine⟨i64 (by omega) (by omega),?_⟩
  conv=>whnf
  exact⟨i+1,by omega,Weak.gen [some 0,some 1,some 2] rfl ⟨boxK rfl rfl,boxK rfl rfl,⟨_,rfl,rfl,rfl,rfl,rfl,fun a b ha hb=>regApp (t:=fun a=>nql m (sumR (A a) B k)) ha hb (fun _=>regE rfl rfl) (regE rfl rfl)⟩,trivial⟩ ⟨⟨_,rfl,rfl,rfl⟩,⟨_,rfl,rfl,rfl⟩,.inl ⟨_,_,rfl,rfl,fun _ _ _ _=>rfl⟩,⟨_,rfl,rfl,rfl⟩,⟨_,rfl,rfl⟩,trivial⟩,by omega⟩
 ·have h:=of_decide_eq_false h
  have g:=o1 i (by omega)
  conv=>whnf
  refine⟨fun a b _ _=>rfl,?_⟩
  conv=>whnf
  refine⟨_,g,?_⟩
  conv=>whnf
  exact⟨rfl,Sub.refl _⟩
end Rf
end Go.Proofs.YtkmbnldginonbaaGreat
/- Lists and matrices are the same as themselves. -/
namespace Go.Proofs.YtkmbnldginonbaaGreat
open Go.RowKit
namespace Rf
end Rf
end Go.Proofs.YtkmbnldginonbaaGreat
/- Rows of fractions: zeros, normal forms. -/
namespace Go.Proofs.YtkmbnldginonbaaGreat
open Go.RowKit
def rows (sz n:Nat) (g:Nat->List Cell):V := .c (.row sz n fun i j=>(g i).getD j .any)
theorem qof0:FnOK Tryz.prog true 45 [.c (.int .i64 0)] (.g (nq 0)):=qof_ok (n:=0) (by omega) (by omega)
theorem i64_range {n:Int} (h1 : -9223372036854775808≤n) (h2:n<9223372036854775808):inR .i64 n:=⟨h1,h2⟩
structure Filled (n i : Nat) (g : Nat → List Cell) (f : Nat → Nat → Cell) : Prop where
 done:∀ i' j,i'<i->j<4->f i' j=(g i').getD j .any
 clos:∀ i' j,i'<n->j<4->(f i' j).clos=true
end Go.Proofs.YtkmbnldginonbaaGreat
/- Rows that are written: combine; vectors times rows. -/
namespace Go.Proofs.YtkmbnldginonbaaGreat
open Go.RowKit
end Go.Proofs.YtkmbnldginonbaaGreat
/- Matrices: rows put one behind the other. -/
namespace Go.Proofs.YtkmbnldginonbaaGreat
open Go.RowKit
set_option maxHeartbeats 4000000 in
theorem fits_ok (n:Int):FnOK Tryz.prog true 107 [.c (.int .i64 n)] (.c (.bool (decide (0≤n/\n≤1024)))):=by
 refine fn_ok (E:=E1) E1_ok Tryz.func107 rfl mixed (by kernel_rfl) (by kernel_rfl) ?_
 conv=>whnf
 refine bcase (fun(h:decide (0≤n)=true)=>?_) fun(h:decide (0≤n)=false)=>?_
 ·have h:=of_decide_eq_true h
  conv=>whnf
  refine⟨rfl,Sub.bool ?_⟩
  show decide (n≤1024)=decide (0≤n/\n≤1024)
  simp[h]
 ·have h:=of_decide_eq_false h
  conv=>whnf
  refine⟨rfl,Sub.bool ?_⟩
  show false=decide (0≤n/\n≤1024)
  simp[h]
set_option maxHeartbeats 4000000 in
theorem valid_ok {r c:Int} {len:Nat} {f:Nat->Nat->Cell}:FnOK Tryz.prog true 72 [.g [.int .i64 r,.int .i64 c,.row 4 len f]] (.c (.bool (decide ((0≤r/\r≤1024)/\(0≤c/\c≤1024)/\(len:Int)=r*c)))):=by
 refine fn_ok (E:=E1) E1_ok Tryz.func72 rfl mixed (by kernel_rfl) (by kernel_rfl) ?_
 conv=>whnf
 refine⟨_,fits_ok r,?_⟩
 conv=>whnf
 refine bcase (fun(h:decide (0≤r/\r≤1024)=true)=>?_) fun(h:decide (0≤r/\r≤1024)=false)=>?_
 ·have h:=of_decide_eq_true h
  conv=>whnf
  refine⟨_,fits_ok c,?_⟩
  conv=>whnf
  refine bcase (fun(h2:decide (0≤c/\c≤1024)=true)=>?_) fun(h2:decide (0≤c/\c≤1024)=false)=>?_
  ·have h2:=of_decide_eq_true h2
   have hb:r*c≤1024*1024:=Int.mul_le_mul h.2 h2.2 h2.1 (by omega)
   have h0:0≤r*c:=Int.mul_nonneg h.1 h2.1
   conv=>whnf
   refine⟨i64_range (by omega) (by omega),?_⟩
   conv=>whnf
   refine⟨rfl,Sub.bool ?_⟩
   show decide ((len:Int)=r*c)=_
   simp[h,h2]
  ·have h2:=of_decide_eq_false h2
   conv=>whnf
   refine⟨rfl,Sub.bool ?_⟩
   show false=_
   simp[h2]
 ·have h:=of_decide_eq_false h
  conv=>whnf
  refine⟨rfl,Sub.bool ?_⟩
  show false=_
  simp[h]
end Go.Proofs.YtkmbnldginonbaaGreat
/- Package charpoly: the first errors. -/
namespace Go.Proofs.YtkmbnldginonbaaGreat
open Go.RowKit
def firstErr (r c len:Int):Int:=if((0≤r/\r≤1024)/\(0≤c/\c≤1024)/\len=r*c)/\r=c then(if r > 64 then 7 else 0)else 4
set_option maxHeartbeats 4000000 in
theorem check_ok {r c:Int} {len:Nat} {f:Nat->Nat->Cell}:FnOK Tryz.prog true 38 [.g [.int .i64 r,.int .i64 c,.row 4 len f]] (.c (.int .i64 (firstErr r c len))):=by
 refine fn_ok (E:=E1) E1_ok Tryz.func38 rfl mixed (by kernel_rfl) (by kernel_rfl) ?_
 conv=>whnf
 refine⟨_,valid_ok (r:=r) (c:=c) (len:=len) (f:=f),?_⟩
 conv=>whnf
 refine bcase (fun h=>?_) fun h=>?_
 ·have h:(!decide ((0≤r/\r≤1024)/\(0≤c/\c≤1024)/\(len:Int)=r*c))=false:=gwf h
  have hv:(0≤r/\r≤1024)/\(0≤c/\c≤1024)/\(len:Int)=r*c:=by simpa using h
  conv=>whnf
  refine bcase (fun(h2:(!decide (r=c))=true)=>?_) fun(h2:(!decide (r=c))=false)=>?_
  ·have h2:r≠c:=by simpa using h2
   conv=>whnf
   refine⟨rfl,Sub.int ?_⟩
   unfold firstErr;rw[if_neg (fun h=>h2 h.2)]
  ·have h2:r=c:=by simpa using h2
   conv=>whnf
   refine bcase (fun(h3:decide (r > 64)=true)=>?_) fun(h3:decide (r > 64)=false)=>?_
   ·have h3:=of_decide_eq_true h3
    conv=>whnf
    refine⟨rfl,Sub.int ?_⟩
    unfold firstErr;rw[if_pos ⟨hv,h2⟩,if_pos h3]
   ·have h3:=of_decide_eq_false h3
    conv=>whnf
    refine⟨rfl,Sub.int ?_⟩
    unfold firstErr;rw[if_pos ⟨hv,h2⟩,if_neg h3]
 ·have h:(!decide ((0≤r/\r≤1024)/\(0≤c/\c≤1024)/\(len:Int)=r*c))=true:=gwf' h
  have hv:¬((0≤r/\r≤1024)/\(0≤c/\c≤1024)/\(len:Int)=r*c):=by
   intro hh;rw[decide_eq_true hh]at h;cases h
  conv=>whnf
  refine⟨rfl,Sub.int ?_⟩
  unfold firstErr;rw[if_neg (fun h=>hv h.1)]
end Go.Proofs.YtkmbnldginonbaaGreat
/- Rows of rows: blank. -/
namespace Go.Proofs.YtkmbnldginonbaaGreat
open Go.RowKit
end Go.Proofs.YtkmbnldginonbaaGreat
/- Package matrix: New. -/
namespace Go.Proofs.YtkmbnldginonbaaGreat
open Go.RowKit
end Go.Proofs.YtkmbnldginonbaaGreat
/- Matrices in the program: rows stored. -/
namespace Go.Proofs.YtkmbnldginonbaaGreat
open Go.RowKit
namespace Rf
theorem one_ql {bl:List Blk} {c:Nat->RawR} (r:Bool) (i j:Nat) (hj:j<4):St.one bl (qlF c i j)=true/\(r=true->(qlF c i j).noU=true):=by
 match j,hj with
 | 0,_=>exact⟨rfl,fun _=>rfl⟩
 | 1,_=>exact⟨rfl,fun _=>rfl⟩
 | 2,_=>exact⟨rfl,fun _=>rfl⟩
 | 3,_=>exact⟨rfl,fun _=>rfl⟩
end Rf
end Go.Proofs.YtkmbnldginonbaaGreat
/- Matrices in the program: rows loaded. -/
namespace Go.Proofs.YtkmbnldginonbaaGreat
open Go.RowKit
namespace Rf
structure Grd (m : Nat) (G : Nat → Nat → Rat) (F C : Nat → Nat → Cell) : Prop where
 old:∀ i k,k<i->F i k=nql m (G k)
 new:∀ i k,i≤k->F i k = .nil
 old':∀ i k,k<i->C i k=nql m (G k)
 at':∀ i,C i i = .gs 2 0
 new':∀ i k,i<k->C i k = .nil
end Rf
end Go.Proofs.YtkmbnldginonbaaGreat
/- Matrices in the program: from rows; the matrix of a multiplication. -/
namespace Go.Proofs.YtkmbnldginonbaaGreat
open Go.RowKit
namespace Rf
end Rf
end Go.Proofs.YtkmbnldginonbaaGreat
/- Matrices in the program, whatever fractions their elements are: rows loaded. -/
namespace Go.Proofs.YtkmbnldginonbaaGreat
open Go.RowKit
namespace Rf
end Rf
end Go.Proofs.YtkmbnldginonbaaGreat
/- Matrices in the program, whatever fractions their elements are: products. -/
namespace Go.Proofs.YtkmbnldginonbaaGreat
open Go.RowKit
namespace Rf
end Rf
end Go.Proofs.YtkmbnldginonbaaGreat
/- Matrices in the program, whatever fractions their elements are: sums, multiples. -/
namespace Go.Proofs.YtkmbnldginonbaaGreat
open Go.RowKit
namespace Rf
theorem cap_weak {P:Program} {r:Bool} {f F:FuncId} {a b:V} {c:Cell} {g:Nat->Cell} {X:V} (h:FnOK P r f [a,b,.c (.cl F 1 fun _=>c)] X) (hg:g 0=c):FnOK P r f [a,b,.c (.cl F 1 g)] X :=
 arg_ok h fun D w vs h=>by
  match vs,h with
  | [x,y,z],⟨h1,h2,⟨caps,e1,e2,e3⟩,_⟩ =>
   refine⟨h1,h2,⟨caps,e1,e2,fun j hj=>?_⟩,trivial⟩
   obtain rfl:=Nat.lt_one_iff.1 hj
   obtain⟨u,hu,hr⟩:=e3 0 hj
   rw[hg]at hr
   exact⟨u,hu,hr⟩
end Rf
end Go.Proofs.YtkmbnldginonbaaGreat
/- The document's polynomials over the rational numbers: normal form, degree, product. -/
namespace Go.Proofs.YtkmbnldginonbaaGreat
open Go.RowKit
namespace Rf
end Rf
end Go.Proofs.YtkmbnldginonbaaGreat
/- Plain laws of finite sums of fractions, of matrices as functions, and of polynomials at matrices. -/
namespace Go.Proofs.YtkmbnldginonbaaGreat
def rsm : Nat → (Nat → Rat) → Rat
 | 0,_=>0
 | n+1,f=>rsm n f+f n
abbrev Mx:=Nat->Nat->Rat
def mone:Mx:=fun i j=>if i=j then 1 else 0
end Go.Proofs.YtkmbnldginonbaaGreat
/- Plain laws of the size of fractions: over a common denominator. -/
namespace Go.Proofs.YtkmbnldginonbaaGreat
def Fits (D N:Nat) (x:Rat):Prop:=∃ k:Int,x=ratio k D/\k.natAbs≤N
theorem Fits.zero (D N:Nat):Fits D N 0:=⟨0,(ratio_zero_left _).symm,by simp⟩
theorem Fits.mono {D N N':Nat} {x:Rat} (h:Fits D N x) (hN:N≤N'):Fits D N' x:=by
 obtain⟨k,hk,hb⟩:=h
 exact⟨k,hk,by omega⟩
theorem ratio_add_same (a b d:Int):ratio a d+ratio b d=ratio (a+b) d:=by
 unfold ratio;simp only[Rat.intCast_add,Rat.div_def];grind
theorem ratio_scale (a d:Int) {e:Int} (he:e≠0):ratio (a*e) (d*e)=ratio a d:=by
 rw[← ratio_mul]
 have:ratio e e=1:=by
  have g:=cast_ne he
  unfold ratio
  generalize (e:Rat)=x at *
  grind
 rw[this];grind
theorem Fits.add {D N M:Nat} {x y:Rat} (h:Fits D N x) (k:Fits D M y):Fits D (N+M) (x+y):=by
 obtain⟨a,rfl,ha⟩:=h
 obtain⟨b,rfl,hb⟩:=k
 exact⟨a+b,ratio_add_same _ _ _,by have:=Int.natAbs_add_le a b;omega⟩
theorem Fits.mul {D E N M:Nat} {x y:Rat} (h:Fits D N x) (k:Fits E M y):Fits (D*E) (N*M) (x*y):=by
 obtain⟨a,rfl,ha⟩:=h
 obtain⟨b,rfl,hb⟩:=k
 refine⟨a*b,?_,?_⟩
 ·rw[ratio_mul];push_cast;rfl
 ·rw[Int.natAbs_mul];exact Nat.mul_le_mul ha hb
theorem Fits.scale {D N:Nat} {x:Rat} (h:Fits D N x) {e:Nat} (he:0<e):Fits (D*e) (N*e) x:=by
 obtain⟨a,rfl,ha⟩:=h
 refine⟨a*e,?_,?_⟩
 ·rw[show((D*e:Nat):Int)=(D:Int)*(e:Int)by push_cast;rfl,ratio_scale _ _ (by omega)]
 ·rw[Int.natAbs_mul,Int.natAbs_natCast];exact Nat.mul_le_mul ha (Nat.le_refl _)
theorem Fits.small {D N:Nat} {x:Rat} (h:Fits D N x) (hD:0<D):x.num.natAbs≤N/\x.den≤D:=by
 obtain⟨a,rfl,ha⟩:=h
 have:=ratio_small (n:=a) hD
 omega
theorem Fits.of (x:Rat):Fits x.den x.num.natAbs x:=⟨x.num,(ratio_num_den x).symm,Nat.le_refl _⟩
def dens : Nat → (Nat → Rat) → Nat
 | 0,_=>1
 | n+1,f=>dens n f*(f n).den
theorem dens_pos (n:Nat) (f:Nat->Rat):0<dens n f:=by
 induction n with
 | zero=>simp[dens]
 | succ n ih=>exact Nat.mul_pos ih (f n).den_pos
theorem dens_le {n C:Nat} {f:Nat->Rat} (h:∀ i,i<n->(f i).den≤C):dens n f≤C^n:=by
 induction n with
 | zero=>simp[dens]
 | succ n ih=>rw[Nat.pow_succ];exact Nat.mul_le_mul (ih fun i hi=>h i (by omega)) (h n (by omega))
theorem fits_dens {n C:Nat} {f:Nat->Rat} (h:∀ i,i<n->(f i).num.natAbs≤C/\(f i).den≤C):∀ i,i<n->Fits (dens n f) (C^n) (f i):=by
 induction n with
 | zero=>intro i hi;omega
 | succ n ih =>
  intro i hi
  rw[Nat.pow_succ]
  by_cases e:i=n
  ·subst e
   have h1:=Fits.of (f i)
   have h2:=h1.scale (e:=dens i f) (dens_pos i f)
   rw[show dens (i+1) f=(f i).den*dens i f from Nat.mul_comm _ _]
   refine h2.mono ?_
   rw[Nat.mul_comm]
   exact Nat.mul_le_mul (dens_le fun j hj=>(h j (by omega)).2) (h i (by omega)).1
  ·have h1:=ih (fun j hj=>h j (by omega)) i (by omega)
   exact(h1.scale (f n).den_pos).mono (Nat.mul_le_mul (Nat.le_refl _) (h n (by omega)).2)
theorem fits_sm {D N : Nat} {f : Nat → Rat} : ∀ n, (∀ i, i < n → Fits D N (f i)) → Fits D (n * N) (rsm n f)
 | 0,_=>by rw[Nat.zero_mul];exact Fits.zero _ _
 | n+1,h=>by
  rw[Nat.succ_mul]
  exact(fits_sm n fun i hi=>h i (by omega)).add (h n (by omega))
end Go.Proofs.YtkmbnldginonbaaGreat
/- Polynomials at matrices: the unit matrix, by runs; the document's sum of matrices. -/
namespace Go.Proofs.YtkmbnldginonbaaGreat
open Go.RowKit
namespace Rf
end Rf
end Go.Proofs.YtkmbnldginonbaaGreat
/- A polynomial at a matrix, in the program and in the document. -/
namespace Go.Proofs.YtkmbnldginonbaaGreat
open Go.RowKit
namespace Rf
structure Hor (n T : Nat) (F : Nat → Rat) (A : Nat → Nat → Rat) (H : Nat → Nat → Nat → Rat) : Prop where
 zero:H 0=fun _ _=>0
 step:∀ t i j,t<T->H (t+1) i j=sumR (H t i) A n j+F (T-1-t)*mone i j
end Rf
end Go.Proofs.YtkmbnldginonbaaGreat
/- The law's tests of matrices and lists of fractions. -/
namespace Go.Proofs.YtkmbnldginonbaaGreat
open Go.RowKit
namespace Rf
def okm (r c:Int) (len:Nat):Prop:=0≤r/\r≤1024/\0≤c/\c≤1024/\(len:Int)=r*c
instance (r c:Int) (len:Nat):Decidable (okm r c len):=by unfold okm;infer_instance
theorem okm_range {r c:Int} (h1:0≤r) (h2:r≤1024) (h3:0≤c) (h4:c≤1024):inR .i64 (r*c):=by
 have h5:r*c≤1024*1024:=Int.mul_le_mul h2 h4 h3 (by omega)
 have h6:=Int.mul_nonneg h1 h3
 exact i64 (by omega) (by omega)
set_option maxHeartbeats 4000000 in
theorem rvalid_ok {r c:Int} {len:Nat} {f:Nat->Nat->Cell}:FnOK Tryz.prog true 37 [.g [.int .i64 r,.int .i64 c,.row 4 len f]] (.c (.bool (decide (okm r c len)))):=by
 refine fn_ok (E:=E1) E1_ok Tryz.func37 rfl mixed (by kernel_rfl) (by kernel_rfl) ?_
 conv=>whnf
 refine bcase (fun(h1:decide (0≤r)=true)=>?_) fun(h1:decide (0≤r)=false)=>?_
 ·have h1:=of_decide_eq_true h1
  conv=>whnf
  refine bcase (fun(h2:decide (r≤1024)=true)=>?_) fun(h2:decide (r≤1024)=false)=>?_
  ·have h2:=of_decide_eq_true h2
   conv=>whnf
   refine bcase (fun(h3:decide (0≤c)=true)=>?_) fun(h3:decide (0≤c)=false)=>?_
   ·have h3:=of_decide_eq_true h3
    conv=>whnf
    refine bcase (fun(h4:decide (c≤1024)=true)=>?_) fun(h4:decide (c≤1024)=false)=>?_
    ·have h4:=of_decide_eq_true h4
     conv=>whnf
     refine⟨okm_range h1 h2 h3 h4,?_⟩
     conv=>whnf
     refine⟨rfl,sub_bool ?_⟩
     show decide ((len:Int)=r*c)=_
     simp[okm,h1,h2,h3,h4]
    ·have h4:=of_decide_eq_false h4
     conv=>whnf
     refine⟨rfl,sub_bool ?_⟩
     show false=_
     simp[okm,h4]
   ·have h3:=of_decide_eq_false h3
    conv=>whnf
    refine⟨rfl,sub_bool ?_⟩
    show false=_
    simp[okm,h3]
  ·have h2:=of_decide_eq_false h2
   conv=>whnf
   refine⟨rfl,sub_bool ?_⟩
   show false=_
   simp[okm,h2]
 ·have h1:=of_decide_eq_false h1
  conv=>whnf
  refine⟨rfl,sub_bool ?_⟩
  show false=_
  simp[okm,h1]
def shq (n:Nat) (q:Nat->RawR):Prop:=∀ i,i<n->(q i).num.ds.length≤1/\(q i).den.ds.length≤1
set_option maxHeartbeats 4000000 in
theorem short11_ok {n:Nat} {q:Nat->RawR} {r:Bool} (hn:n≤9223372036854775807) (hr:r=true↔shq n q):FnOK Tryz.prog true 15 [.c (ql n q)] (.c (.bool r)):=by
 have r1:∀ i,i<n->¬(q i).num.ds.length≤1->false=r:=fun i hi a=>(Bool.eq_false_iff.2 fun e=>a (hr.1 e i hi).1).symm
 have r2:∀ i,i<n->¬(q i).den.ds.length≤1->false=r:=fun i hi a=>(Bool.eq_false_iff.2 fun e=>a (hr.1 e i hi).2).symm
 have r3:shq n q->true=r:=fun a=>(hr.2 a).symm
 clear hr
 refine fn_ok (E:=E1) E1_ok Tryz.func15 rfl mixed (by kernel_rfl) (by kernel_rfl) ?_
 conv=>whnf
 refine loop_ints (fun i:Nat=>gst [(0,.c (ql n q)),(3,.c (.int .i64 i))] []) (fun i=>n-i) (fun i=>i≤n/\∀ j,j<i->(q j).num.ds.length≤1/\(q j).den.ds.length≤1) 0 rfl (Weak.gen [] rfl trivial ⟨.inl ⟨_,_,rfl,rfl,fun _ _ _ _=>rfl⟩,⟨_,rfl,rfl⟩,trivial⟩) ⟨Nat.zero_le _,fun j h=>absurd h (Nat.not_lt_zero j)⟩ fun i ⟨hi,hh⟩=>?_
 have r1:=r1 i
 have r2:=r2 i
 conv=>whnf
 refine bcase (fun(h:decide ((i:Int)<n)=true)=>?_) fun(h:decide ((i:Int)<n)=false)=>?_
 ·have h:=of_decide_eq_true h
  have r1:=r1 (by omega)
  have r2:=r2 (by omega)
  conv=>whnf
  refine⟨by omega,by omega,?_⟩
  conv=>whnf
  refine bcase (fun(a1:gw false (decide ((1:Int)<(q i).num.ds.length))=true)=>?_) fun(a1:gw false (decide ((1:Int)<(q i).num.ds.length))=false)=>?_
  ·have a1:=of_decide_eq_false (gwf a1)
   conv=>whnf
   refine⟨by omega,by omega,?_⟩
   conv=>whnf
   refine bcase (fun(a2:decide ((1:Int)<(q i).den.ds.length)=true)=>?_) fun(a2:decide ((1:Int)<(q i).den.ds.length)=false)=>?_
   ·have a2:=of_decide_eq_true a2
    have g:=r2 (by omega)
    conv=>whnf
    exact⟨rfl,sub_bool g⟩
   ·have a2:=of_decide_eq_false a2
    conv=>whnf
    refine⟨i64 (by omega) (by omega),?_⟩
    conv=>whnf
    refine⟨i+1,by omega,Weak.gen [] rfl trivial ⟨.inl ⟨_,_,rfl,rfl,fun _ _ _ _=>rfl⟩,⟨_,rfl,rfl⟩,trivial⟩,by omega,fun j hj=>?_⟩
    by_cases e:j=i
    ·rw[e];exact⟨by omega,by omega⟩
    ·exact hh j (by omega)
  ·have a1:=of_decide_eq_true (gwf' a1)
   have g:=r1 (by omega)
   conv=>whnf
   exact⟨rfl,sub_bool g⟩
 ·have h:=of_decide_eq_false h
  have g:=r3 fun j hj=>hh j (by omega)
  conv=>whnf
  exact⟨rfl,sub_bool g⟩
noncomputable def E1v:Env:=⟨Tryz.prog,true,fun T=>if T == 70 then some ⟨false,1,[.nil],24,[],some 24,none,0⟩else tyE T,0⟩
theorem tyV:tyOf Tryz.prog 70=some ⟨false,1,[.nil],24,[],some 24,none,0⟩:=by kernel_rfl
theorem E1v_ok:EnvOK E1v:=⟨fun T ti h=>by
 by_cases e:T=70
 ·subst e
  have h:some (⟨false,1,[.nil],24,[],some 24,none,0⟩:TI)=some ti:=h
  cases h
  exact tyV
 ·have h2:(if T == 70 then some (⟨false,1,[.nil],24,[],some 24,none,0⟩:TI)else tyE T)=some ti:=h
  rw[if_neg (by simpa using e)]at h2
  exact tyE_ok T ti h2⟩
def lite11 (m:Int) (r c:Int) (len:Nat) (q:Nat->RawR):Prop:=okm r c len/\r=c/\r≤m/\shq len q
abbrev oneM (r c:Int) (len:Nat) (q:Nat->RawR):V := .c (.row 3 1 (rowF 3 [.int .i64 r,.int .i64 c,ql len q]))
set_option maxHeartbeats 4000000 in
theorem light11_a {m r c:Int} {len:Nat} {q:Nat->RawR} (v0:FnOK Tryz.prog true 37 [.g [.int .i64 r,.int .i64 c,ql len q]] (.c (.bool false))):FnOK Tryz.prog true 9 [.c (.int .i64 m),oneM r c len q] (.c (.bool false)):=by
 refine fn_okS (E:=E1v) E1v_ok Tryz.func9 rfl (by kernel_rfl) ?_
 refine swp_seq0 E1v_ok mixed (by kernel_rfl) ?_
 conv=>whnf
 refine swp_seqS ?_
 refine swp_seq0 E1v_ok mixed (by kernel_rfl) ?_
 conv=>whnf
 refine swp_block ?_
 refine swp_loop (fun i:Nat=>gst [(0,.c (.int .i64 m)),(1,oneM r c len q),(5,.c (.int .i64 i))] []) (fun i=>1-i) (fun i=>i≤0) 0 (Weak.gen [] rfl trivial ⟨⟨_,rfl,rfl⟩,.inl ⟨_,_,rfl,rfl,fun _ _ _ _=>rfl⟩,⟨_,rfl,rfl⟩,trivial⟩) (Nat.zero_le _) fun i hi=>?_
 match i,hi with
 | 0,_ =>
  refine swp_seq0 E1v_ok mixed (by kernel_rfl) ?_
  conv=>whnf
  refine swp_seqS (swp_block ?_)
  refine swp_seq0 E1v_ok mixed (by kernel_rfl) ?_
  conv=>whnf
  refine⟨by decide,by decide,?_⟩
  conv=>whnf
  refine⟨_,v0,?_⟩
  conv=>whnf
  refine swp_of E1v_ok mixed (by kernel_rfl) ?_
  conv=>whnf
  exact⟨rfl,Sub.refl _⟩
set_option maxHeartbeats 4000000 in
theorem light11_b {m r c:Int} {len:Nat} {q:Nat->RawR} (v0:FnOK Tryz.prog true 37 [.g [.int .i64 r,.int .i64 c,ql len q]] (.c (.bool true))) (h2:r≠c):FnOK Tryz.prog true 9 [.c (.int .i64 m),oneM r c len q] (.c (.bool false)):=by
 refine fn_okS (E:=E1v) E1v_ok Tryz.func9 rfl (by kernel_rfl) ?_
 refine swp_seq0 E1v_ok mixed (by kernel_rfl) ?_
 conv=>whnf
 refine swp_seqS ?_
 refine swp_seq0 E1v_ok mixed (by kernel_rfl) ?_
 conv=>whnf
 refine swp_block ?_
 refine swp_loop (fun i:Nat=>gst [(0,.c (.int .i64 m)),(1,oneM r c len q),(5,.c (.int .i64 i))] []) (fun i=>1-i) (fun i=>i≤0) 0 (Weak.gen [] rfl trivial ⟨⟨_,rfl,rfl⟩,.inl ⟨_,_,rfl,rfl,fun _ _ _ _=>rfl⟩,⟨_,rfl,rfl⟩,trivial⟩) (Nat.zero_le _) fun i hi=>?_
 match i,hi with
 | 0,_ =>
  refine swp_seq0 E1v_ok mixed (by kernel_rfl) ?_
  conv=>whnf
  refine swp_seqS (swp_block ?_)
  refine swp_seq0 E1v_ok mixed (by kernel_rfl) ?_
  conv=>whnf
  refine⟨by decide,by decide,?_⟩
  conv=>whnf
  refine⟨_,v0,?_⟩
  conv=>whnf
  refine⟨by decide,by decide,?_⟩
  conv=>whnf
  refine⟨by decide,by decide,?_⟩
  conv=>whnf
  refine bneg (gw_false.2 (show(!decide (r=c))=true by simp[h2])) ?_
  conv=>whnf
  refine swp_of E1v_ok mixed (by kernel_rfl) ?_
  conv=>whnf
  exact⟨rfl,Sub.refl _⟩
set_option maxHeartbeats 4000000 in
theorem light11_c {m r c:Int} {len:Nat} {q:Nat->RawR} (v0:FnOK Tryz.prog true 37 [.g [.int .i64 r,.int .i64 c,ql len q]] (.c (.bool true))) (h2:r=c) (h3:m<r):FnOK Tryz.prog true 9 [.c (.int .i64 m),oneM r c len q] (.c (.bool false)):=by
 refine fn_okS (E:=E1v) E1v_ok Tryz.func9 rfl (by kernel_rfl) ?_
 refine swp_seq0 E1v_ok mixed (by kernel_rfl) ?_
 conv=>whnf
 refine swp_seqS ?_
 refine swp_seq0 E1v_ok mixed (by kernel_rfl) ?_
 conv=>whnf
 refine swp_block ?_
 refine swp_loop (fun i:Nat=>gst [(0,.c (.int .i64 m)),(1,oneM r c len q),(5,.c (.int .i64 i))] []) (fun i=>1-i) (fun i=>i≤0) 0 (Weak.gen [] rfl trivial ⟨⟨_,rfl,rfl⟩,.inl ⟨_,_,rfl,rfl,fun _ _ _ _=>rfl⟩,⟨_,rfl,rfl⟩,trivial⟩) (Nat.zero_le _) fun i hi=>?_
 match i,hi with
 | 0,_ =>
  refine swp_seq0 E1v_ok mixed (by kernel_rfl) ?_
  conv=>whnf
  refine swp_seqS (swp_block ?_)
  refine swp_seq0 E1v_ok mixed (by kernel_rfl) ?_
  conv=>whnf
  refine⟨by decide,by decide,?_⟩
  conv=>whnf
  refine⟨_,v0,?_⟩
  conv=>whnf
  refine⟨by decide,by decide,?_⟩
  conv=>whnf
  refine⟨by decide,by decide,?_⟩
  conv=>whnf
  refine bpos (gw_true.2 (show(!decide (r=c))=false by simp[h2])) ?_
  conv=>whnf
  refine⟨by decide,by decide,?_⟩
  conv=>whnf
  refine bneg (gw_false.2 (show decide (m<r)=true from decide_eq_true h3)) ?_
  conv=>whnf
  refine swp_of E1v_ok mixed (by kernel_rfl) ?_
  conv=>whnf
  exact⟨rfl,Sub.refl _⟩
set_option maxHeartbeats 4000000 in
theorem light11_d {m r c:Int} {len:Nat} {q:Nat->RawR} (v0:FnOK Tryz.prog true 37 [.g [.int .i64 r,.int .i64 c,ql len q]] (.c (.bool true))) (s0:FnOK Tryz.prog true 15 [.c (ql len q)] (.c (.bool false))) (h2:r=c) (h3:r≤m):FnOK Tryz.prog true 9 [.c (.int .i64 m),oneM r c len q] (.c (.bool false)):=by
 refine fn_okS (E:=E1v) E1v_ok Tryz.func9 rfl (by kernel_rfl) ?_
 refine swp_seq0 E1v_ok mixed (by kernel_rfl) ?_
 conv=>whnf
 refine swp_seqS ?_
 refine swp_seq0 E1v_ok mixed (by kernel_rfl) ?_
 conv=>whnf
 refine swp_block ?_
 refine swp_loop (fun i:Nat=>gst [(0,.c (.int .i64 m)),(1,oneM r c len q),(5,.c (.int .i64 i))] []) (fun i=>1-i) (fun i=>i≤0) 0 (Weak.gen [] rfl trivial ⟨⟨_,rfl,rfl⟩,.inl ⟨_,_,rfl,rfl,fun _ _ _ _=>rfl⟩,⟨_,rfl,rfl⟩,trivial⟩) (Nat.zero_le _) fun i hi=>?_
 match i,hi with
 | 0,_ =>
  refine swp_seq0 E1v_ok mixed (by kernel_rfl) ?_
  conv=>whnf
  refine swp_seqS (swp_block ?_)
  refine swp_seq0 E1v_ok mixed (by kernel_rfl) ?_
  conv=>whnf
  refine⟨by decide,by decide,?_⟩
  conv=>whnf
  refine⟨_,v0,?_⟩
  conv=>whnf
  refine⟨by decide,by decide,?_⟩
  conv=>whnf
  refine⟨by decide,by decide,?_⟩
  conv=>whnf
  refine bpos (gw_true.2 (show(!decide (r=c))=false by simp[h2])) ?_
  conv=>whnf
  refine⟨by decide,by decide,?_⟩
  conv=>whnf
  refine bpos (gw_true.2 (show decide (m<r)=false from decide_eq_false (by omega))) ?_
  conv=>whnf
  refine⟨by decide,by decide,?_⟩
  conv=>whnf
  refine⟨_,s0,?_⟩
  conv=>whnf
  refine swp_of E1v_ok mixed (by kernel_rfl) ?_
  conv=>whnf
  exact⟨rfl,Sub.refl _⟩
set_option maxHeartbeats 4000000 in
theorem light11_e {m r c:Int} {len:Nat} {q:Nat->RawR} (v0:FnOK Tryz.prog true 37 [.g [.int .i64 r,.int .i64 c,ql len q]] (.c (.bool true))) (s0:FnOK Tryz.prog true 15 [.c (ql len q)] (.c (.bool true))) (h2:r=c) (h3:r≤m):FnOK Tryz.prog true 9 [.c (.int .i64 m),oneM r c len q] (.c (.bool true)):=by
 refine fn_okS (E:=E1v) E1v_ok Tryz.func9 rfl (by kernel_rfl) ?_
 refine swp_seq0 E1v_ok mixed (by kernel_rfl) ?_
 conv=>whnf
 refine swp_seqS ?_
 refine swp_seq0 E1v_ok mixed (by kernel_rfl) ?_
 conv=>whnf
 refine swp_block ?_
 refine swp_loop (fun i:Nat=>gst [(0,.c (.int .i64 m)),(1,oneM r c len q),(5,.c (.int .i64 i))] []) (fun i=>1-i) (fun i=>i≤1) 0 (Weak.gen [] rfl trivial ⟨⟨_,rfl,rfl⟩,.inl ⟨_,_,rfl,rfl,fun _ _ _ _=>rfl⟩,⟨_,rfl,rfl⟩,trivial⟩) (Nat.zero_le _) fun i hi=>?_
 match i,hi with
 | 0,_ =>
  refine swp_seq0 E1v_ok mixed (by kernel_rfl) ?_
  conv=>whnf
  refine swp_seqS (swp_block ?_)
  refine swp_seq0 E1v_ok mixed (by kernel_rfl) ?_
  conv=>whnf
  refine⟨by decide,by decide,?_⟩
  conv=>whnf
  refine⟨_,v0,?_⟩
  conv=>whnf
  refine⟨by decide,by decide,?_⟩
  conv=>whnf
  refine⟨by decide,by decide,?_⟩
  conv=>whnf
  refine bpos (gw_true.2 (show(!decide (r=c))=false by simp[h2])) ?_
  conv=>whnf
  refine⟨by decide,by decide,?_⟩
  conv=>whnf
  refine bpos (gw_true.2 (show decide (m<r)=false from decide_eq_false (by omega))) ?_
  conv=>whnf
  refine⟨by decide,by decide,?_⟩
  conv=>whnf
  refine⟨_,s0,?_⟩
  conv=>whnf
  refine swp_of E1v_ok mixed (by kernel_rfl) ?_
  conv=>whnf
  refine swp_of E1v_ok mixed (by kernel_rfl) ?_
  conv=>whnf
  refine⟨i64 (by decide) (by decide),?_⟩
  conv=>whnf
  exact⟨1,by decide,Weak.gen [] rfl trivial ⟨⟨_,rfl,rfl⟩,.inl ⟨_,_,rfl,rfl,fun _ _ _ _=>rfl⟩,⟨_,rfl,rfl⟩,trivial⟩,by decide⟩
 | 1,_ =>
  refine swp_seq0 E1v_ok mixed (by kernel_rfl) ?_
  conv=>whnf
  refine swp_of E1v_ok mixed (by kernel_rfl) ?_
  conv=>whnf
  exact⟨rfl,Sub.refl _⟩
open Classical in
theorem light11_ok {m r c:Int} {len:Nat} {q:Nat->RawR} (hn:len≤9223372036854775807):FnOK Tryz.prog true 9 [.c (.int .i64 m),oneM r c len q] (.c (.bool (decide (lite11 m r c len q)))):=by
 have v0:=rvalid_ok (r:=r) (c:=c) (len:=len) (f:=qlF q)
 have s0:=short11_ok (n:=len) (q:=q) (r:=decide (shq len q)) hn ⟨fun a=>of_decide_eq_true a,fun a=>decide_eq_true a⟩
 by_cases h1:okm r c len
 ·rw[decide_eq_true h1]at v0
  by_cases h2:r=c
  ·by_cases h3:r≤m
   ·by_cases h4:shq len q
    ·rw[decide_eq_true h4]at s0
     rw[decide_eq_true (show lite11 m r c len q from⟨h1,h2,h3,h4⟩)]
     exact light11_e v0 s0 h2 h3
    ·rw[decide_eq_false h4]at s0
     rw[decide_eq_false (fun e:lite11 m r c len q=>h4 e.2.2.2)]
     exact light11_d v0 s0 h2 h3
   ·rw[decide_eq_false (fun e:lite11 m r c len q=>h3 e.2.2.1)]
    exact light11_c v0 h2 (by omega)
  ·rw[decide_eq_false (fun e:lite11 m r c len q=>h2 e.2.1)]
   exact light11_b v0 h2
 ·rw[decide_eq_false h1]at v0
  rw[decide_eq_false (fun e:lite11 m r c len q=>h1 e.1)]
  exact light11_a v0
end Rf
end Go.Proofs.YtkmbnldginonbaaGreat
/- Polynomials at matrices: how long the fractions get; the law's calls and what they hand back. -/
namespace Go.Proofs.YtkmbnldginonbaaGreat
open Go.RowKit
theorem su_sm (f : Nat → Rat) : ∀ n, Q.su f n = rsm n f
 | 0=>rfl
 | n+1=>by
  show Q.su f n+f n=rsm n f+f n
  rw[su_sm f n]
theorem lt_B {e L:Nat} (h:e<32*L):2^e<Dg.B^L:=by
 have h1:Dg.B^L=2^(32*L):=(Nat.pow_mul 2 32 L).symm
 rw[h1]
 exact Nat.pow_lt_pow_right (by decide) h
theorem fits_len {D N e:Nat} {x:Rat} (h:Fits D N x) (h0:0<D) (hD:D≤2^e) (hN:N≤2^e) (he:e<2097120):qlen x≤65535:=by
 have h1:=h.small h0
 have hB:=lt_B (e:=e) (L:=65535) (by omega)
 have a:zlen x.num≤65535:=zlen_le (Nat.lt_of_le_of_lt (Nat.le_trans h1.1 hN) hB)
 have b:zlen (x.den:Int)≤65535:=zlen_le (Nat.lt_of_le_of_lt (Nat.le_trans h1.2 hD) hB)
 show max (zlen x.num) (zlen (x.den:Int))≤65535
 omega
theorem le_two {a b:Nat} (h:a≤b):2^a≤2^b:=Nat.pow_le_pow_right (by decide) h
theorem pow_le_two {D a t:Nat} (h:D≤2^a):D^t≤2^(a*t):=by
 rw[Nat.pow_mul]
 exact Nat.pow_le_pow_left h t
theorem mul_le_two {D E a b:Nat} (h:D≤2^a) (h':E≤2^b):D*E≤2^(a+b):=by
 rw[Nat.pow_add]
 exact Nat.mul_le_mul h h'
theorem short_fits {n:Nat} {q:Nat->RawR} (hd:∀ i,i<n->Rf.dgq (q i)) (hs:Rf.shq n q):∃ D,0<D/\D≤2^(32*n)/\∀ i,i<n->Fits D (2^(32*n)) (q i).val:=by
 have h:∀ i,i<n->(q i).val.num.natAbs≤2^32/\(q i).val.den≤2^32:=fun i hi=>by
  have f:(q i).Fit 1:=⟨(hd i hi).1,(hd i hi).2,(hs i hi).1,(hs i hi).2⟩
  have g:max (zlen (q i).val.num) (zlen ((q i).val.den:Int))≤1:=f.qlen (Nat.le_refl _)
  have a:=zlen_lt (q i).val.num
  have b:=zlen_lt ((q i).val.den:Int)
  have a':=Nat.lt_of_lt_of_le a (Nat.pow_le_pow_right (show 0<Dg.B by decide) (show zlen (q i).val.num≤1 by omega))
  have b':=Nat.lt_of_lt_of_le b (Nat.pow_le_pow_right (show 0<Dg.B by decide) (show zlen ((q i).val.den:Int)≤1 by omega))
  rw[Nat.pow_one]at a' b'
  have e:Dg.B=2^32:=rfl
  rw[e]at a' b'
  rw[Int.natAbs_natCast]at b'
  exact⟨Nat.le_of_lt a',Nat.le_of_lt b'⟩
 refine⟨dens n fun i=>(q i).val,dens_pos _ _,?_,fun i hi=>?_⟩
 ·rw[Nat.pow_mul]
  exact dens_le fun i hi=>(h i hi).2
 ·rw[Nat.pow_mul]
  exact fits_dens (f:=fun i=>(q i).val) h i hi
theorem fit_wq {n:Nat} {q:Nat->RawR} (hd:∀ i,i<n->Rf.dgq (q i)) (hs:Rf.shq n q) (i:Nat) (hi:i<n):Rf.wq (q i):=by
 have f:(q i).Fit 1:=⟨(hd i hi).1,(hd i hi).2,(hs i hi).1,(hs i hi).2⟩
 have z1:=f.zn
 have z2:=f.zd
 have l1:=(hs i hi).1
 have l2:=(hs i hi).2
 exact⟨⟨⟨(hd i hi).1,by omega⟩,⟨(hd i hi).2,by omega⟩⟩,by omega,by omega⟩
namespace Rf
structure Sq (n : Nat) (p : Nat → RawR) (A : Nat → Nat → Rat) : Prop where
 low:n≤4
 fit:∀ a,a<n*n->(p a).Fit KD
 wqs:∀ a,a<n*n->wq (p a)
 val:∀ i j,i<n->j<n->(p (i*n+j)).val=A i j
 len:∀ i j,i<n->j<n->qlen (A i j)≤65535
 fits:∃ Da,0<Da/\Da≤2^512/\∀ i j,i<n->j<n->Fits Da (2^512) (A i j)
end Rf
end Go.Proofs.YtkmbnldginonbaaGreat
/- The law CharpolyEvaluates: its calls, one behind the other, and what they hand back. -/
namespace Go.Proofs.YtkmbnldginonbaaGreat
open Go.RowKit
structure Plb (N : Nat) (q : Nat → RawR) (F : Nat → Rat) (D e : Nat) : Prop where
 val:Q.qx N (fun i=>(q i).val)=F
 fit:∀ i,i<N->(q i).Fit Rf.KD
 wqs:∀ i,i<N->Rf.wq (q i)
 pos:0<D
 low:D≤2^e
 fits:∀ i,Fits D (2^e) (F i)
namespace Rf
end Rf
end Go.Proofs.YtkmbnldginonbaaGreat
/- Differences and multiples of lists of fractions in the program. -/
namespace Go.Proofs.YtkmbnldginonbaaGreat
open Go.RowKit
namespace Rf
theorem qsub_any {x y:RawR} {lx ly:List Cell} {L:Nat} {z:Rat} (h1:1≤L) (hx:x.Fit L) (hy:y.Fit L) (sx:Sub (.g lx) (.g (rr x))) (sy:Sub (.g ly) (.g (rr y))) (hL:L+L+4≤LIM) (hz:x.val-y.val=z):FnOK Tryz.prog true 50 [.g lx,.g ly] (.g (nq z)):=by
 have h:=qsub_ok hx hy h1 hL
 rw[hz]at h
 refine arg_ok h fun D w vs h=>?_
 match vs,h with
 | [v0,v1],⟨h0,h1,_⟩=>exact⟨sx D w v0 h0,sy D w v1 h1,trivial⟩
set_option maxHeartbeats 8000000 in
theorem qpsub_ok {n m:Nat} {q p:Nat->RawR} {L:Nat} {v:Nat->Rat} (hv:∀ i,i<max n m->Q.qx n (fun i=>(q i).val) i-Q.qx m (fun i=>(p i).val) i=v i) (hn:n≤1048576) (hm:m≤1048576) (hq:∀ i,i<n->(q i).Fit L) (hp:∀ i,i<m->(p i).Fit L) (h1L:1≤L) (hL:L+L+4≤LIM):FnOK Tryz.prog true 94 [.c (ql n q),.c (ql m p),.c (.fn 50)] (.c (nql (Q.tq v (max n m)) v)):=by
 obtain⟨M,hM⟩:∃ M,M=max n m:=⟨_,rfl⟩
 rw[← hM]at hv ⊢
 have a1:∀ i,i<M->i<n->i<m->FnOK Tryz.prog true 50 [.g (rr (q i)),.g (rr (p i))] (.g (nq (v i))):=fun i h h1 h2=>qsub_any h1L (hq i h1) (hp i h2) (Sub.refl _) (Sub.refl _) hL (by rw[← hv i h,Q.qx_lt h1,Q.qx_lt h2])
 have a2:∀ i,i<M->i<n->¬ i<m->FnOK Tryz.prog true 50 [.g (rr (q i)),.g zcells] (.g (nq (v i))):=fun i h h1 h2=>qsub_any h1L (hq i h1) (zraw_fit L) (Sub.refl _) zsub hL (by rw[← hv i h,Q.qx_lt h1,zraw_val];unfold Q.qx;rw[if_neg h2])
 have a3:∀ i,i<M->¬ i<n->i<m->FnOK Tryz.prog true 50 [.g zcells,.g (rr (p i))] (.g (nq (v i))):=fun i h h1 h2=>qsub_any h1L (zraw_fit L) (hp i h2) zsub (Sub.refl _) hL (by rw[← hv i h,Q.qx_lt h2,zraw_val];unfold Q.qx;rw[if_neg h1])
 have hMn:M≤1048576:=by omega
 have h2:=qtrim_nql (v:=v) hMn
 have eM:(if((m:Nat):Int) > ((n:Nat):Int)then((m:Nat):Int)else((n:Nat):Int))=(M:Nat):=by split <;> omega
 have eM2:(if((m:Nat):Int) > ((n:Nat):Int)then((m:Nat):Int)else((n:Nat):Int)).toNat=M:=by rw[eM];omega
 clear hv hq hp
 generalize Q.tq v M=N at *
 have hT:∀ i,i=M->FnOK Tryz.prog true 100 [.c (.row 4 M fun k j=>(qpF v i k).getD j .any)] (.c (nql N v)):=fun i e=>arg_ok h2 fun D w vs h=>by
  match vs,h with
  | [v1],⟨h1,_⟩=>exact⟨subRowG rfl (fun k j hk hj=>by rw[e];exact qp_all hk j) D w v1 h1,trivial⟩
 refine fn_ok (E:=E1) E1_ok Tryz.func94 rfl mixed (by kernel_rfl) (by kernel_rfl) ?_
 conv=>whnf
 refine⟨by rw[eM];omega,Int.le_refl _,by rw[eM];omega,by show(64:Int)*(if((m:Nat):Int) > ((n:Nat):Int)then((m:Nat):Int)else((n:Nat):Int))≤281474976710656;rw[eM];omega,?_⟩
 conv=>whnf
 refine loop_ints (fun i:Nat=>gst [(0,.c (ql n q)),(1,.c (ql m p)),(2,.c (.fn 50)),(7,.c (.gs 0 0)),(18,.c (.int .i64 M)),(19,.c (.int .i64 i))] [gqp M v i]) (fun i=>M-i) (fun i=>i≤M) 0 rfl (Weak.gen [some 0] rfl ⟨⟨_,rfl,rfl,rfl,eM2,rfl,fun k j hk hj=>?_⟩,trivial⟩ ⟨.inl ⟨_,_,rfl,rfl,fun _ _ _ _=>rfl⟩,.inl ⟨_,_,rfl,rfl,fun _ _ _ _=>rfl⟩,⟨rfl,rfl⟩,⟨_,rfl,rfl,rfl⟩,⟨_,rfl,by show((if((m:Nat):Int) > ((n:Nat):Int)then((m:Nat):Int)else((n:Nat):Int)).toNat:Int)=_;rw[eM2]⟩,⟨_,rfl,rfl⟩,trivial⟩) (Nat.zero_le _) fun i hi=>?_
 ·exact regE (congrArg (fun l=>l.getD j .any) (qp_zero v k).symm) (qp_clos k j)
 have b1:=a1 i
 have b2:=a2 i
 have b3:=a3 i
 conv=>whnf
 refine bcase (fun(h:decide ((i:Int)<M)=true)=>?_) fun(h:decide ((i:Int)<M)=false)=>?_
 ·have h:=of_decide_eq_true h
  have b1:=b1 (by omega)
  have b2:=b2 (by omega)
  have b3:=b3 (by omega)
  conv=>whnf
  refine bcase (fun(c1:decide ((i:Int)<n)=true)=>?_) fun(c1:decide ((i:Int)<n)=false)=>?_
  ·have c1:=of_decide_eq_true c1
   have b1:=b1 (by omega)
   have b2:=b2 (by omega)
   conv=>whnf
   refine⟨by omega,by omega,?_⟩
   conv=>whnf
   refine bcase (fun(c2:decide ((i:Int)<m)=true)=>?_) fun(c2:decide ((i:Int)<m)=false)=>?_
   ·have c2:=of_decide_eq_true c2
    have b1:=b1 (by omega)
    conv=>whnf
    refine⟨by omega,by omega,?_⟩
    conv=>whnf
    refine⟨_,b1,?_⟩
    conv=>whnf
    refine⟨by omega,by show(i:Int)<(M:Int);omega,?_⟩
    conv=>whnf
    refine⟨i64 (by omega) (by omega),?_⟩
    conv=>whnf
    refine⟨i+1,by omega,Weak.gen [some 0] rfl ⟨⟨_,rfl,rfl,rfl,rfl,rfl,fun j k hj hk=>regE ?_ (qp_clos j k)⟩,trivial⟩ ⟨.inl ⟨_,_,rfl,rfl,fun _ _ _ _=>rfl⟩,.inl ⟨_,_,rfl,rfl,fun _ _ _ _=>rfl⟩,⟨rfl,rfl⟩,⟨_,rfl,rfl,rfl⟩,⟨_,rfl,rfl⟩,⟨_,rfl,rfl⟩,trivial⟩,by omega⟩
    exact updG (sz:=4) (g:=qpF v i) (g':=qpF v (i+1)) (l:=nq (v i)) rfl hk (qp_next v i j)
   ·have c2:=of_decide_eq_false c2
    have b2:=b2 (by omega)
    conv=>whnf
    refine⟨_,b2,?_⟩
    conv=>whnf
    refine⟨by omega,by show(i:Int)<(M:Int);omega,?_⟩
    conv=>whnf
    refine⟨i64 (by omega) (by omega),?_⟩
    conv=>whnf
    refine⟨i+1,by omega,Weak.gen [some 0] rfl ⟨⟨_,rfl,rfl,rfl,rfl,rfl,fun j k hj hk=>regE ?_ (qp_clos j k)⟩,trivial⟩ ⟨.inl ⟨_,_,rfl,rfl,fun _ _ _ _=>rfl⟩,.inl ⟨_,_,rfl,rfl,fun _ _ _ _=>rfl⟩,⟨rfl,rfl⟩,⟨_,rfl,rfl,rfl⟩,⟨_,rfl,rfl⟩,⟨_,rfl,rfl⟩,trivial⟩,by omega⟩
    exact updG (sz:=4) (g:=qpF v i) (g':=qpF v (i+1)) (l:=nq (v i)) rfl hk (qp_next v i j)
  ·have c1:=of_decide_eq_false c1
   have c2:i<m:=by omega
   have b3:=b3 (by omega) c2
   conv=>whnf
   refine bpos (show decide ((i:Int)<m)=true from decide_eq_true (by omega)) ?_
   conv=>whnf
   refine⟨by omega,by omega,?_⟩
   conv=>whnf
   refine⟨_,b3,?_⟩
   conv=>whnf
   refine⟨by omega,by show(i:Int)<(M:Int);omega,?_⟩
   conv=>whnf
   refine⟨i64 (by omega) (by omega),?_⟩
   conv=>whnf
   refine⟨i+1,by omega,Weak.gen [some 0] rfl ⟨⟨_,rfl,rfl,rfl,rfl,rfl,fun j k hj hk=>regE ?_ (qp_clos j k)⟩,trivial⟩ ⟨.inl ⟨_,_,rfl,rfl,fun _ _ _ _=>rfl⟩,.inl ⟨_,_,rfl,rfl,fun _ _ _ _=>rfl⟩,⟨rfl,rfl⟩,⟨_,rfl,rfl,rfl⟩,⟨_,rfl,rfl⟩,⟨_,rfl,rfl⟩,trivial⟩,by omega⟩
   exact updG (sz:=4) (g:=qpF v i) (g':=qpF v (i+1)) (l:=nq (v i)) rfl hk (qp_next v i j)
 ·have h:=of_decide_eq_false h
  have g:=hT i (by omega)
  conv=>whnf
  refine .inr ⟨fun k j _ _=>qp_clos k j,?_⟩
  conv=>whnf
  refine⟨_,g,?_⟩
  conv=>whnf
  exact⟨rfl,Sub.refl _⟩
set_option maxHeartbeats 4000000 in
theorem qpSub_ok {n m:Nat} {q p:Nat->RawR} {L:Nat} {v:Nat->Rat} (hv:∀ i,i<max n m->Q.qx n (fun i=>(q i).val) i-Q.qx m (fun i=>(p i).val) i=v i) (hn:n≤1048576) (hm:m≤1048576) (hq:∀ i,i<n->(q i).Fit L) (hp:∀ i,i<m->(p i).Fit L) (h1L:1≤L) (hL:L+L+4≤LIM):FnOK Tryz.prog true 42 [.c (ql n q),.c (ql m p)] (.c (nql (Q.tq v (max n m)) v)):=by
 have h:=qpsub_ok hv hn hm hq hp h1L hL
 refine fn_ok (E:=E1) E1_ok Tryz.func42 rfl mixed (by kernel_rfl) (by kernel_rfl) ?_
 conv=>whnf
 refine⟨_,h,?_⟩
 conv=>whnf
 exact⟨rfl,Sub.refl _⟩
set_option maxHeartbeats 8000000 in
theorem merge_scale {n:Nat} {q:Nat->RawR} {z:Nat->Rat} {u:Nat->Cell} (hn:n≤1048576) (call:∀ a,a<n->FnOK Tryz.prog true 95 [.g (rr (q a)),.g zcells,.c (.xp 4 u)] (.g (nq (z a)))):FnOK Tryz.prog true 94 [.c (ql n q),.c .nil,.c (.cl 95 1 fun _ => .xp 4 u)] (.c (nql (Q.tq z n) z)):=by
 have h2:=qtrim_nql (v:=z) hn
 have eM:(if((0:Nat):Int) > ((n:Nat):Int)then((0:Nat):Int)else((n:Nat):Int))=(n:Nat):=by split <;> omega
 have eM2:(if((0:Nat):Int) > ((n:Nat):Int)then((0:Nat):Int)else((n:Nat):Int)).toNat=n:=by rw[eM];omega
 generalize Q.tq z n=N at *
 have hT:∀ i,i=n->FnOK Tryz.prog true 100 [.c (.row 4 n fun k j=>(qpF z i k).getD j .any)] (.c (nql N z)):=fun i e=>arg_ok h2 fun D w vs h=>by
  match vs,h with
  | [v1],⟨h1,_⟩=>exact⟨subRowG rfl (fun k j hk hj=>by rw[e];exact qp_all hk j) D w v1 h1,trivial⟩
 refine fn_ok (E:=E1) E1_ok Tryz.func94 rfl mixed (by kernel_rfl) (by kernel_rfl) ?_
 conv=>whnf
 refine⟨by rw[eM];omega,Int.le_refl _,by rw[eM];omega,by show(64:Int)*(if((0:Nat):Int) > ((n:Nat):Int)then((0:Nat):Int)else((n:Nat):Int))≤281474976710656;rw[eM];omega,?_⟩
 conv=>whnf
 refine loop_ints (fun i:Nat=>gst [(0,.c (ql n q)),(1,.c .nil),(2,.c (.cl 95 1 fun _ => .xp 4 u)),(7,.c (.gs 0 0)),(18,.c (.int .i64 n)),(19,.c (.int .i64 i))] [gqp n z i]) (fun i=>n-i) (fun i=>i≤n) 0 rfl (Weak.gen [some 0] rfl ⟨⟨_,rfl,rfl,rfl,eM2,rfl,fun k j hk hj=>?_⟩,trivial⟩ ⟨.inl ⟨_,_,rfl,rfl,fun _ _ _ _=>rfl⟩,⟨rfl,rfl⟩,⟨_,rfl,fun _ _=>⟨rfl,rfl⟩⟩,⟨_,rfl,rfl,rfl⟩,⟨_,rfl,by show((if((0:Nat):Int) > ((n:Nat):Int)then((0:Nat):Int)else((n:Nat):Int)).toNat:Int)=_;omega⟩,⟨_,rfl,rfl⟩,trivial⟩) (Nat.zero_le _) fun i hi=>?_
 ·exact regE (congrArg (fun l=>l.getD j .any) (qp_zero z k).symm) (qp_clos k j)
 have call:=call i
 conv=>whnf
 refine bcase (fun(h:decide ((i:Int)<n)=true)=>?_) fun(h:decide ((i:Int)<n)=false)=>?_
 ·have h:=of_decide_eq_true h
  have call:=call (by omega)
  conv=>whnf
  refine bpos (show decide ((i:Int)<n)=true from decide_eq_true (by omega)) ?_
  conv=>whnf
  refine⟨by omega,by omega,?_⟩
  conv=>whnf
  refine⟨_,call,?_⟩
  conv=>whnf
  refine⟨by omega,by show(i:Int)<(n:Int);omega,?_⟩
  conv=>whnf
  refine⟨i64 (by omega) (by omega),?_⟩
  conv=>whnf
  refine⟨i+1,by omega,Weak.gen [some 0] rfl ⟨⟨_,rfl,rfl,rfl,rfl,rfl,fun j k hj hk=>regE ?_ (qp_clos j k)⟩,trivial⟩ ⟨.inl ⟨_,_,rfl,rfl,fun _ _ _ _=>rfl⟩,⟨rfl,rfl⟩,⟨_,rfl,fun _ _=>⟨rfl,rfl⟩⟩,⟨_,rfl,rfl,rfl⟩,⟨_,rfl,rfl⟩,⟨_,rfl,rfl⟩,trivial⟩,by omega⟩
  exact updG (sz:=4) (g:=qpF z i) (g':=qpF z (i+1)) (l:=nq (z i)) rfl hk (qp_next z i j)
 ·have h:=of_decide_eq_false h
  have g:=hT i (by omega)
  conv=>whnf
  refine .inr ⟨fun k j _ _=>qp_clos k j,?_⟩
  conv=>whnf
  refine⟨_,g,?_⟩
  conv=>whnf
  exact⟨rfl,Sub.refl _⟩
end Rf
end Go.Proofs.YtkmbnldginonbaaGreat
/- Commutative rings of one's own, identities in them by reflection, sums. Plain: no program. -/
namespace Go.Proofs.YtkmbnldginonbaaGreat
class Crg (α : Type) extends Add α, Mul α, Neg α, _root_.Sub α, Zero α, One α where
 add_assoc:∀ a b c:α,a+b+c=a+(b+c)
 add_comm:∀ a b:α,a+b=b+a
 add_zero:∀ a:α,a+0=a
 add_neg:∀ a:α,a + -a=0
 sub_def:∀ a b:α,a-b=a + -b
 mul_assoc:∀ a b c:α,a*b*c=a*(b*c)
 mul_comm:∀ a b:α,a*b=b*a
 mul_one:∀ a:α,a*1=a
 mul_add:∀ a b c:α,a*(b+c)=a*b+a*c
namespace Crg
section
variable {α:Type} [Crg α]
theorem zero_add (a:α):0+a=a:=by rw[add_comm,add_zero]
theorem one_mul (a:α):1*a=a:=by rw[mul_comm,mul_one]
theorem neg_add (a:α) : -a+a=0:=by rw[add_comm,add_neg]
theorem add_mul (a b c:α):(a+b)*c=a*c+b*c:=by rw[mul_comm,mul_add,mul_comm c,mul_comm c]
theorem add_left_cancel {a b c:α} (h:a+b=a+c):b=c:=by
 have h:=congrArg (-a+·) h
 simp only[← add_assoc,neg_add,zero_add]at h
 exact h
theorem add_right_cancel {a b c:α} (h:b+a=c+a):b=c:=by
 rw[add_comm b,add_comm c]at h
 exact add_left_cancel h
theorem mul_zero (a:α):a*0=0:=by
 have h:a*0+a*0=a*0+0:=by rw[← mul_add,add_zero,add_zero]
 exact add_left_cancel h
theorem zero_mul (a:α):0*a=0:=by rw[mul_comm,mul_zero]
theorem neg_eq {a b:α} (h:a+b=0):b = -a:=add_left_cancel (h.trans (add_neg a).symm)
theorem neg_zero : -(0:α)=0:=(neg_eq (add_zero 0)).symm
theorem neg_neg (a:α) : -(-a)=a:=(neg_eq (neg_add a)).symm
theorem mul_neg (a b:α):a * -b = -(a*b):=neg_eq (by rw[← mul_add,add_neg,mul_zero])
theorem neg_mul (a b:α) : -a*b = -(a*b):=by rw[mul_comm,mul_neg,mul_comm]
theorem sub_zero (a:α):a-0=a:=by rw[sub_def,neg_zero,add_zero]
theorem sub_self (a:α):a-a=0:=by rw[sub_def,add_neg]
theorem sub_eq_zero {a b:α}:a-b=0↔a=b:=by
 rw[sub_def]
 refine⟨fun h=>?_,fun h=>by rw[h,add_neg]⟩
 rw[add_comm]at h
 have:=neg_eq h
 rw[neg_neg]at this
 exact this
theorem add_left_comm (a b c:α):a+(b+c)=b+(a+c):=by rw[← add_assoc,add_comm a,add_assoc]
theorem mul_left_comm (a b c:α):a*(b*c)=b*(a*c):=by rw[← mul_assoc,mul_comm a,mul_assoc]
def pw (a : α) : Nat → α
 | 0=>1
 | n+1=>pw a n*a
def sm (f : Nat → α) : Nat → α
 | 0=>0
 | n+1=>sm f n+f n
theorem sm_congr {f g : Nat → α} : ∀ {n : Nat}, (∀ i, i < n → f i = g i) → sm f n = sm g n
 | 0,_=>rfl
 | n+1,h=>by
  show sm f n+f n=sm g n+g n
  rw[sm_congr fun i hi=>h i (by omega),h n (by omega)]
theorem sm_zero {f:Nat->α} {n:Nat} (h:∀ i,i<n->f i=0):sm f n=0:=by
 induction n with
 | zero=>rfl
 | succ n ih =>
  show sm f n+f n=0
  rw[ih fun i hi=>h i (by omega),h n (by omega),add_zero]
theorem sm_add (f g : Nat → α) : ∀ n, sm (fun i => f i + g i) n = sm f n + sm g n
 | 0=>(add_zero _).symm
 | n+1=>by
  show sm (fun i=>f i+g i) n+(f n+g n)=sm f n+f n+(sm g n+g n)
  rw[sm_add f g n,add_assoc,add_assoc,add_left_comm (sm g n)]
theorem mul_sm (c : α) (f : Nat → α) : ∀ n, c * sm f n = sm (fun i => c * f i) n
 | 0=>mul_zero c
 | n+1=>by
  show c*(sm f n+f n)=_+_
  rw[mul_add,mul_sm c f n]
theorem sm_mul (c:α) (f:Nat->α) (n:Nat):sm f n*c=sm (fun i=>f i*c) n:=by
 rw[mul_comm,mul_sm]
 exact sm_congr fun i _=>mul_comm _ _
theorem sm_neg (f : Nat → α) : ∀ n, sm (fun i => -f i) n = -sm f n
 | 0=>neg_zero.symm
 | n+1=>by
  show sm (fun i => -f i) n + -f n = -(sm f n+f n)
  rw[sm_neg f n]
  refine neg_eq ?_
  rw[add_assoc,add_left_comm (f n),add_neg,add_zero,add_neg]
theorem sm_head (f : Nat → α) : ∀ n, sm f (n + 1) = f 0 + sm (fun i => f (i + 1)) n
 | 0=>by show 0+f 0=f 0+0;rw[zero_add,add_zero]
 | n+1=>by
  show sm f (n+1)+f (n+1)=f 0+(sm (fun i=>f (i+1)) n+f (n+1))
  rw[sm_head f n,add_assoc]
theorem sm_rev : ∀ (n : Nat) (f : Nat → α), sm f n = sm (fun i => f (n - 1 - i)) n
 | 0,_=>rfl
 | n+1,f=>by
  rw[sm_head f n,sm_rev n fun i=>f (i+1)]
  show f 0+_=sm (fun i=>f (n+1-1-i)) n+f (n+1-1-n)
  rw[show n+1-1-n=0 by omega,add_comm]
  congr 1
  refine sm_congr fun i hi=>?_
  rw[show n-1-i+1=n+1-1-i by omega]
theorem sm_more {f : Nat → α} {n : Nat} (h : ∀ i, n ≤ i → f i = 0) : ∀ {m : Nat}, n ≤ m → sm f m = sm f n
 | 0,hm=>by rw[Nat.le_zero.1 hm]
 | m+1,hm=>by
  rcases Nat.lt_or_ge m n with h1 | h1
  ·rw[show n=m+1 by omega]
  ·show sm f m+f m=_
   rw[h m h1,add_zero,sm_more h h1]
theorem sm_one {f:Nat->α} {n k:Nat} (hk:k<n) (h:∀ i,i<n->i≠k->f i=0):sm f n=f k:=by
 induction n with
 | zero=>omega
 | succ n ih =>
  show sm f n+f n=f k
  by_cases e:k=n
  ·subst e
   rw[sm_zero fun i hi=>h i (by omega) (by omega),zero_add]
  ·rw[ih (by omega) fun i hi=>h i (by omega),h n (by omega) (fun h=>e h.symm),add_zero]
theorem sm_swap (f : Nat → Nat → α) (m : Nat) : ∀ n, sm (fun i => sm (f i) m) n = sm (fun j => sm (fun i => f i j) n) m
 | 0=>by
  rw[sm_zero (f:=fun j=>sm (fun i=>f i j) 0) fun _ _=>rfl]
  rfl
 | n+1=>by
  show sm (fun i=>sm (f i) m) n+sm (f n) m=sm (fun j=>sm (fun i=>f i j) n+f n j) m
  rw[sm_swap f m n,sm_add]
theorem sm_tri (f : Nat → Nat → α) : ∀ n, sm (fun i => sm (fun j => f j (i - j)) (i + 1)) n = sm (fun j => sm (fun l => f j l) (n - j)) n
 | 0=>rfl
 | n+1=>by
  show sm (fun i=>sm (fun j=>f j (i-j)) (i+1)) n+sm (fun j=>f j (n-j)) (n+1)=sm (fun j=>sm (fun l=>f j l) (n+1-j)) n+sm (fun l=>f n l) (n+1-n)
  rw[sm_tri f n]
  have e:sm (fun j=>sm (fun l=>f j l) (n+1-j)) n=sm (fun j=>sm (fun l=>f j l) (n-j)) n+sm (fun j=>f j (n-j)) n:=by
   rw[← sm_add]
   refine sm_congr fun j hj=>?_
   rw[show n+1-j=n-j+1 by omega]
   rfl
  have e2:sm (fun l=>f n l) (n+1-n)=f n (n-n):=by
   rw[show n+1-n=1 by omega,Nat.sub_self]
   exact zero_add _
  rw[e,e2,add_assoc]
  rfl
end
/-! ### Identities -/
inductive RE where
 | v (i:Nat)
 | z
 | o
 | add (a b:RE)
 | mul (a b:RE)
 | neg (a:RE)
 | sub (a b:RE)
instance:Add RE:=⟨.add⟩
instance:Mul RE:=⟨.mul⟩
instance:Neg RE:=⟨.neg⟩
instance:_root_.Sub RE:=⟨.sub⟩
instance:OfNat RE 0:=⟨.z⟩
instance:OfNat RE 1:=⟨.o⟩
abbrev t0:RE := .v 0
abbrev t1:RE := .v 1
abbrev t2:RE := .v 2
abbrev t3:RE := .v 3
abbrev t4:RE := .v 4
abbrev t5:RE := .v 5
abbrev t6:RE := .v 6
abbrev t7:RE := .v 7
def insN (a : Nat) : List Nat → List Nat
 | []=>[a]
 | b :: l=>if Nat.ble a b then a :: b :: l else b :: insN a l
def mergeN (l m:List Nat):List Nat:=l.foldr insN m
def leN : List Nat → List Nat → Bool
 | [],_=>true
 | _ :: _,[]=>false
 | a :: l,b :: m=>if Nat.blt a b then true else if Nat.blt b a then false else leN l m
def insL (a : List Nat) : List (List Nat) → List (List Nat)
 | []=>[a]
 | b :: l=>if leN a b then a :: b :: l else b :: insL a l
def sortL (l:List (List Nat)):List (List Nat):=l.foldr insL []
def prodL (l m:List (List Nat)):List (List Nat):=l.foldr (fun x r=>m.map (mergeN x)++r) []
def RE.nf : RE → List (List Nat) × List (List Nat)
 | .v i=>([[i]],[])
 | .z=>([],[])
 | .o=>([[]],[])
 | .add a b=>(a.nf.1++b.nf.1,a.nf.2++b.nf.2)
 | .neg a=>(a.nf.2,a.nf.1)
 | .sub a b=>(a.nf.1++b.nf.2,a.nf.2++b.nf.1)
 | .mul a b=>(prodL a.nf.1 b.nf.1++prodL a.nf.2 b.nf.2,prodL a.nf.1 b.nf.2++prodL a.nf.2 b.nf.1)
def eqL : List (List Nat) → List (List Nat) → Bool
 | [],[]=>true
 | a :: l,b :: m=>leN a b&&leN b a&&eqL l m
 | _,_=>false
def RE.chk (a b:RE):Bool:=eqL (sortL (a.nf.1++b.nf.2)) (sortL (b.nf.1++a.nf.2))
section
variable {α:Type} [Crg α]
def RE.ev (ρ : List α) : RE → α
 | .v i=>ρ.getD i 0
 | .z=>0
 | .o=>1
 | .add a b=>a.ev ρ+b.ev ρ
 | .mul a b=>a.ev ρ*b.ev ρ
 | .neg a => -a.ev ρ
 | .sub a b=>a.ev ρ-b.ev ρ
def mon (ρ : List α) : List Nat → α
 | []=>1
 | i :: l=>ρ.getD i 0*mon ρ l
def tot (ρ : List α) : List (List Nat) → α
 | []=>0
 | a :: l=>mon ρ a+tot ρ l
theorem mon_ins (ρ : List α) (a : Nat) : ∀ l, mon ρ (insN a l) = ρ.getD a 0 * mon ρ l
 | []=>rfl
 | b :: l=>by
  unfold insN
  split
  ·rfl
  ·show ρ.getD b 0*mon ρ (insN a l)=_
   rw[mon_ins ρ a l,mul_left_comm]
   rfl
theorem mon_merge (ρ : List α) (m : List Nat) : ∀ l, mon ρ (mergeN l m) = mon ρ l * mon ρ m
 | []=>(one_mul _).symm
 | a :: l=>by
  show mon ρ (insN a (mergeN l m))=ρ.getD a 0*mon ρ l*mon ρ m
  rw[mon_ins,mon_merge ρ m l,mul_assoc]
theorem tot_append (ρ : List α) (m : List (List Nat)) : ∀ l, tot ρ (l ++ m) = tot ρ l + tot ρ m
 | []=>(zero_add _).symm
 | a :: l=>by
  show mon ρ a+tot ρ (l++m)=mon ρ a+tot ρ l+tot ρ m
  rw[tot_append ρ m l,add_assoc]
theorem tot_map (ρ : List α) (x : List Nat) : ∀ m, tot ρ (m.map (mergeN x)) = mon ρ x * tot ρ m
 | []=>(mul_zero _).symm
 | a :: m=>by
  show mon ρ (mergeN x a)+tot ρ (m.map (mergeN x))=mon ρ x*(mon ρ a+tot ρ m)
  rw[mon_merge,tot_map ρ x m,mul_add]
theorem tot_prod (ρ : List α) (m : List (List Nat)) : ∀ l, tot ρ (prodL l m) = tot ρ l * tot ρ m
 | []=>(zero_mul _).symm
 | a :: l=>by
  show tot ρ (m.map (mergeN a)++prodL l m)=(mon ρ a+tot ρ l)*tot ρ m
  rw[tot_append,tot_map,tot_prod ρ m l,add_mul]
theorem tot_ins (ρ : List α) (a : List Nat) : ∀ l, tot ρ (insL a l) = mon ρ a + tot ρ l
 | []=>rfl
 | b :: l=>by
  unfold insL
  split
  ·rfl
  ·show mon ρ b+tot ρ (insL a l)=_
   rw[tot_ins ρ a l,add_left_comm]
   rfl
theorem tot_sort (ρ : List α) : ∀ l, tot ρ (sortL l) = tot ρ l
 | []=>rfl
 | a :: l=>by
  show tot ρ (insL a (sortL l))=_
  rw[tot_ins,tot_sort ρ l]
  rfl
theorem leN_eq : ∀ {l m : List Nat}, leN l m = true → leN m l = true → l = m
 | [],[],_,_=>rfl
 | [],_ :: _,_,h=>by cases h
 | _ :: _,[],h,_=>by cases h
 | a :: l,b :: m,h,k=>by
  unfold leN at h k
  by_cases e1:Nat.blt a b=true
  ·rw[if_pos e1]at k
   rw[Nat.blt_eq]at e1
   rw[if_neg (by rw[Nat.blt_eq];omega)]at k
   cases k
  ·by_cases e2:Nat.blt b a=true
   ·rw[if_neg e1,if_pos e2]at h
    cases h
   ·rw[if_neg e1,if_neg e2]at h
    rw[if_neg e2,if_neg e1]at k
    rw[Nat.blt_eq]at e1 e2
    rw[leN_eq h k,show a=b by omega]
theorem eqL_eq : ∀ {l m : List (List Nat)}, eqL l m = true → l = m
 | [],[],_=>rfl
 | [],_ :: _,h=>by cases h
 | _ :: _,[],h=>by cases h
 | a :: l,b :: m,h=>by
  unfold eqL at h
  simp only[Bool.and_eq_true]at h
  rw[leN_eq h.1.1 h.1.2,eqL_eq h.2]
theorem RE.ev_nf (ρ : List α) : ∀ e : RE, e.ev ρ + tot ρ e.nf.2 = tot ρ e.nf.1
 | .v i=>by show ρ.getD i 0+0=ρ.getD i 0*1+0;rw[mul_one]
 | .z=>rfl |> fun h=>(add_zero (0:α)).trans h
 | .o=>rfl
 | .add a b=>by
  show a.ev ρ+b.ev ρ+tot ρ (a.nf.2++b.nf.2)=tot ρ (a.nf.1++b.nf.1)
  rw[tot_append,tot_append,← ev_nf ρ a,← ev_nf ρ b,add_assoc,add_assoc,add_left_comm (b.ev ρ)]
 | .neg a=>by
  show -a.ev ρ+tot ρ a.nf.1=tot ρ a.nf.2
  rw[← ev_nf ρ a,← add_assoc,neg_add,zero_add]
 | .sub a b=>by
  show a.ev ρ-b.ev ρ+tot ρ (a.nf.2++b.nf.1)=tot ρ (a.nf.1++b.nf.2)
  rw[tot_append,tot_append,← ev_nf ρ a,← ev_nf ρ b,sub_def,add_assoc,add_assoc]
  congr 1
  rw[add_left_comm (tot ρ a.nf.2),← add_assoc (-b.ev ρ),neg_add,zero_add]
 | .mul a b=>by
  show a.ev ρ*b.ev ρ+tot ρ (prodL a.nf.1 b.nf.2++prodL a.nf.2 b.nf.1)=tot ρ (prodL a.nf.1 b.nf.1++prodL a.nf.2 b.nf.2)
  rw[tot_append,tot_append,tot_prod,tot_prod,tot_prod,tot_prod,← ev_nf ρ a,← ev_nf ρ b]
  simp only[mul_add,add_mul]
  generalize a.ev ρ=x
  generalize b.ev ρ=y
  generalize tot ρ a.nf.2=u
  generalize tot ρ b.nf.2=w
  simp only[add_assoc]
  congr 1
  rw[add_left_comm (u*w),add_comm (u*w),← add_assoc,add_comm (x*w),add_assoc]
theorem RE.eq (ρ:List α) (a b:RE) (h:RE.chk a b=true):a.ev ρ=b.ev ρ:=by
 have h:=congrArg (tot ρ) (eqL_eq h)
 rw[tot_sort,tot_sort,tot_append,tot_append,← ev_nf ρ a,← ev_nf ρ b]at h
 rw[add_assoc,add_assoc,add_comm (tot ρ b.nf.2)]at h
 exact add_right_cancel h
end
end Crg
end Go.Proofs.YtkmbnldginonbaaGreat
/- Polynomials over a field: the ring, degrees, division, common divisors, irreducible ones. Plain: no program. -/
namespace Go.Proofs.YtkmbnldginonbaaGreat
open Crg
class Fld (K : Type) extends Crg K where
 inv:K->K
 mul_inv:∀ a:K,a≠0->a*inv a=1
 one_ne:(1:K)≠0
theorem Fld.domain {K:Type} [Fld K] {a b:K} (h:a*b=0):a=0∨b=0:=by
 by_cases e:a=0
 ·exact .inl e
 ·refine .inr ?_
  have:=congrArg (Fld.inv a*·) h
  simp only[mul_zero,← Crg.mul_assoc]at this
  rw[Crg.mul_comm (Fld.inv a),Fld.mul_inv a e,one_mul]at this
  exact this
structure Pol (K : Type) [Crg K] where
 f:Nat->K
 fin:∃ n,∀ j,n≤j->f j=0
namespace Pol
section
variable {K:Type} [Crg K]
theorem ext {a b:Pol K} (h:∀ i,a.f i=b.f i):a=b:=by
 cases a;cases b
 congr
 exact funext h
def cv (f g:Nat->K) (k:Nat):K:=sm (fun i=>f i*g (k-i)) (k+1)
theorem cv_comm (f g:Nat->K) (k:Nat):cv f g k=cv g f k:=by
 unfold cv
 rw[sm_rev]
 refine sm_congr fun i hi=>?_
 show f (k-i)*g (k-(k-i))=g i*f (k-i)
 rw[show k-(k-i)=i by omega,Crg.mul_comm]
theorem cv_add (f g h:Nat->K) (k:Nat):cv f (fun i=>g i+h i) k=cv f g k+cv f h k:=by
 unfold cv
 rw[← sm_add]
 exact sm_congr fun i _=>mul_add _ _ _
theorem cv_assoc (f g h:Nat->K) (k:Nat):cv (cv f g) h k=cv f (cv g h) k:=by
 unfold cv
 have e1:sm (fun i=>sm (fun i_1=>f i_1*g (i-i_1)) (i+1)*h (k-i)) (k+1)=sm (fun i=>sm (fun j=>f j*g (i-j)*h (k-(j+(i-j)))) (i+1)) (k+1):=by
  refine sm_congr fun i _=>?_
  rw[sm_mul]
  refine sm_congr fun j hj=>?_
  rw[show j+(i-j)=i by omega]
 rw[e1,sm_tri (fun j l=>f j*g l*h (k-(j+l)))]
 refine sm_congr fun j hj=>?_
 rw[mul_sm,show k+1-j=k-j+1 by omega]
 refine sm_congr fun l hl=>?_
 rw[Crg.mul_assoc,show k-(j+l)=k-j-l by omega]
theorem cv_fin {f g:Nat->K} {n m:Nat} (hf:∀ j,n≤j->f j=0) (hg:∀ j,m≤j->g j=0) (k:Nat) (hk:n+m-1≤k):cv f g k=0:=by
 refine sm_zero fun i hi=>?_
 rcases Nat.lt_or_ge i n with h | h
 ·rw[hg (k-i) (by omega),mul_zero]
 ·rw[hf i h,zero_mul]
instance : Crg (Pol K) where
 zero:=⟨fun _=>0,0,fun _ _=>rfl⟩
 one:=⟨fun i=>if i=0 then 1 else 0,1,fun j hj=>if_neg (by omega)⟩
 add a b:=⟨fun i=>a.f i+b.f i,by
  obtain⟨n,hn⟩:=a.fin
  obtain⟨m,hm⟩:=b.fin
  exact⟨max n m,fun j hj=>by rw[hn j (by omega),hm j (by omega),Crg.add_zero]⟩⟩
 mul a b:=⟨cv a.f b.f,by
  obtain⟨n,hn⟩:=a.fin
  obtain⟨m,hm⟩:=b.fin
  exact⟨n+m,fun j hj=>cv_fin hn hm j (by omega)⟩⟩
 neg a:=⟨fun i => -a.f i,by
  obtain⟨n,hn⟩:=a.fin
  exact⟨n,fun j hj=>by rw[hn j hj,neg_zero]⟩⟩
 sub a b:=⟨fun i=>a.f i-b.f i,by
  obtain⟨n,hn⟩:=a.fin
  obtain⟨m,hm⟩:=b.fin
  exact⟨max n m,fun j hj=>by rw[hn j (by omega),hm j (by omega),sub_self]⟩⟩
 add_assoc a b c:=ext fun i=>Crg.add_assoc _ _ _
 add_comm a b:=ext fun i=>Crg.add_comm _ _
 add_zero a:=ext fun i=>Crg.add_zero _
 add_neg a:=ext fun i=>Crg.add_neg _
 sub_def a b:=ext fun i=>Crg.sub_def _ _
 mul_assoc a b c:=ext fun i=>cv_assoc _ _ _ _
 mul_comm a b:=ext fun i=>cv_comm _ _ _
 mul_one a:=ext fun i=>by
  show cv a.f (fun i=>if i=0 then 1 else 0) i=a.f i
  unfold cv
  rw[sm_one (k:=i) (by omega) fun j hj hne=>by dsimp only;rw[if_neg (by omega),mul_zero]]
  dsimp only
  rw[if_pos (Nat.sub_self i),Crg.mul_one]
 mul_add a b c:=ext fun i=>cv_add _ _ _ _
theorem f_add (a b:Pol K) (i:Nat):(a+b).f i=a.f i+b.f i:=rfl
theorem f_sub (a b:Pol K) (i:Nat):(a-b).f i=a.f i-b.f i:=rfl
theorem f_one (i:Nat):(1:Pol K).f i=if i=0 then 1 else 0:=rfl
def mn (c:K) (k:Nat):Pol K:=⟨fun i=>if i=k then c else 0,k+1,fun j hj=>if_neg (by omega)⟩
abbrev C (c:K):Pol K:=mn c 0
theorem mn_mul (c:K) (k:Nat) (a:Pol K) (i:Nat):(mn c k*a).f i=if k≤i then c*a.f (i-k)else 0:=by
 show cv (fun i=>if i=k then c else 0) a.f i=_
 unfold cv
 split
 ·rw[sm_one (k:=k) (by omega) fun j hj hne=>by dsimp only;rw[if_neg hne,zero_mul]]
  dsimp only
  rw[if_pos rfl]
 ·exact sm_zero fun j hj=>by dsimp only;rw[if_neg (by omega),zero_mul]
theorem C_mul (c:K) (a:Pol K) (i:Nat):(C c*a).f i=c*a.f i:=by rw[mn_mul,if_pos (Nat.zero_le _)];rfl
open Classical in
theorem ex_len (a:Pol K):∃ n,(∀ j,n≤j->a.f j=0)/\∀ k,n=k+1->a.f k≠0:=by
 obtain⟨n,hn⟩:=a.fin
 induction n with
 | zero=>exact⟨0,hn,fun k h=>by omega⟩
 | succ n ih =>
  by_cases h:a.f n=0
  ·exact ih fun j hj=>by
    by_cases e:j=n
    ·rw[e,h]
    ·exact hn j (by omega)
  ·exact⟨n+1,hn,fun k hk=>by rw[show k=n by omega];exact h⟩
noncomputable def len (a:Pol K):Nat:=(ex_len a).choose
theorem len_out (a:Pol K):∀ j,a.len≤j->a.f j=0:=(ex_len a).choose_spec.1
theorem len_top (a:Pol K) {k:Nat} (h:a.len=k+1):a.f k≠0:=(ex_len a).choose_spec.2 k h
theorem len_le {a:Pol K} {n:Nat} (h:∀ j,n≤j->a.f j=0):a.len≤n:=by
 rcases Nat.lt_or_ge n a.len with h1 | h1
 ·exact absurd (h (a.len-1) (by omega)) (len_top a (by omega))
 ·exact h1
theorem len_eq {a:Pol K} {k:Nat} (h:∀ j,k+1≤j->a.f j=0) (ht:a.f k≠0):a.len=k+1:=by
 have h1:=len_le h
 rcases Nat.lt_or_ge k a.len with h2 | h2
 ·omega
 ·exact absurd (len_out a k h2) ht
theorem len_zero:(0:Pol K).len=0:=Nat.le_zero.1 (len_le fun _ _=>rfl)
theorem len_nil {a:Pol K} (h:a.len=0):a=0:=ext fun i=>len_out a i (by omega)
theorem len_pos {a:Pol K} (h:a≠0):0<a.len:=Nat.pos_of_ne_zero fun e=>h (len_nil e)
theorem top_mul {a b:Pol K} {k l:Nat} (ha:a.len≤k+1) (hb:b.len≤l+1):(a*b).f (k+l)=a.f k*b.f l:=by
 show cv a.f b.f (k+l)=_
 unfold cv
 rw[sm_one (k:=k) (by omega) fun j hj hne=>?_]
 ·rw[show k+l-k=l by omega]
 ·rcases Nat.lt_or_ge j k with h | h
  ·rw[len_out b (k+l-j) (by omega),mul_zero]
  ·rw[len_out a j (by omega),zero_mul]
noncomputable def lead (a:Pol K):K:=a.f (a.len-1)
theorem lead_ne {a:Pol K} (h:a≠0):a.lead≠0:=len_top a (by have:=len_pos h;omega)
def Monic (a:Pol K):Prop:=0<a.len/\a.lead=1
end
section
variable {K:Type} [Fld K]
theorem len_mul {a b:Pol K} (ha:a≠0) (hb:b≠0):(a*b).len+1=a.len+b.len:=by
 have h1:=len_pos ha
 have h2:=len_pos hb
 have e:=len_eq (a:=a*b) (k:=a.len-1+(b.len-1)) (fun j hj=>cv_fin (len_out a) (len_out b) j (by omega)) (by
  rw[top_mul (by omega) (by omega)]
  intro h
  rcases Fld.domain h with h | h
  ·exact lead_ne ha h
  ·exact lead_ne hb h)
 omega
theorem domain {a b:Pol K} (h:a*b=0):a=0∨b=0:=by
 by_cases ha:a=0
 ·exact .inl ha
 by_cases hb:b=0
 ·exact .inr hb
 have:=len_mul ha hb
 have:=len_pos ha
 have:=len_pos hb
 rw[h,len_zero]at *
 omega
theorem cancel {a b c:Pol K} (ha:a≠0) (h:a*b=a*c):b=c:=by
 have:a*(b-c)=0:=by
  rw[show a*(b-c)=a*b-a*c from RE.eq [a,b,c] (t0*(t1-t2)) (t0*t1-t0*t2) rfl,h,sub_self]
 exact sub_eq_zero.1 ((domain this).resolve_left ha)
theorem one_ne:(1:Pol K)≠0:=fun e=>Fld.one_ne (K:=K) (by
 have:=congrArg (fun a:Pol K=>a.f 0) e
 exact this)
structure Irr (P : Pol K) : Prop where
 two:2≤P.len
 irr:∀ a b,P=a*b->a.len=1∨b.len=1
end
end Pol
end Go.Proofs.YtkmbnldginonbaaGreat
/- The field of p elements; polynomials over it modulo an irreducible one: Fermat, Frobenius, the number of roots. Plain: no program. -/
namespace Go.Proofs.YtkmbnldginonbaaGreat
open Crg
class Prm (p : Int) : Prop where
 two:2≤p
 inv:∀ a:Int,a%p≠0->∃ b:Int,(a*b)%p=1
namespace Crg
section
variable {α:Type} [Crg α]
def nc : Nat → α
 | 0=>0
 | n+1=>nc n+1
theorem nc_add (m : Nat) : ∀ n, (nc (m + n) : α) = nc m + nc n
 | 0=>(add_zero _).symm
 | n+1=>by
  show nc (m+n)+1=nc m+(nc n+1)
  rw[nc_add m n,add_assoc]
end
end Crg
end Go.Proofs.YtkmbnldginonbaaGreat
/- Polynomials over the field of p elements modulo an irreducible one. Plain: no program. -/
namespace Go.Proofs.YtkmbnldginonbaaGreat
open Crg
namespace Pol
section
variable {K:Type} [Crg K]
def X:Pol K:=mn 1 1
theorem C_zero:(C 0:Pol K)=0:=ext fun i=>by
 show(if i=0 then(0:K)else 0)=0
 split <;> rfl
end
end Pol
section
variable {p:Int} [hp:Prm p]
end
section
variable {p:Int} [hp:Prm p] {α:Type} [Crg α]
end
section
variable {p:Int} [hp:Prm p]
open Pol
end
/-! ### Roots modulo an irreducible polynomial -/
section
variable {R:Type} [Crg R]
def hv (y : R) : List R → R
 | []=>0
 | c :: l=>c+y*hv y l
structure PrimeId (Z : R → Prop) : Prop where
 sub:∀ a b,Z a->Z b->Z (a-b)
 prime:∀ a b,Z (a*b)->Z a∨Z b
end
end Go.Proofs.YtkmbnldginonbaaGreat
/- Polynomials over the field of p elements by their digits; Fermat modulo an irreducible polynomial; which irreducible polynomials divide x^(p^d) - x. Plain: no program. -/
namespace Go.Proofs.YtkmbnldginonbaaGreat
open Crg Pol
section
variable {p:Int} [hp:Prm p]
end
/-! ### Remainders -/
namespace Pol
section
variable {K:Type} [Fld K]
end
end Pol
section
variable {p:Int} [hp:Prm p]
end
end Go.Proofs.YtkmbnldginonbaaGreat
/- The derivative; polynomials without square divisors; irreducible polynomials of each degree. Plain: no program. -/
namespace Go.Proofs.YtkmbnldginonbaaGreat
open Crg
namespace Pol
section
variable {K:Type} [Crg K]
end
section
variable {K:Type} [Fld K]
end
end Pol
open Pol
section
variable {p:Int} [hp:Prm p]
end
end Go.Proofs.YtkmbnldginonbaaGreat
/- Values of polynomials; reciprocity of irreducible polynomials over the field of p elements. Plain: no program. -/
namespace Go.Proofs.YtkmbnldginonbaaGreat
open Crg
structure Hm {A B : Type} [Crg A] [Crg B] (φ : A → B) : Prop where
 add:∀ a b,φ (a+b)=φ a+φ b
 mul:∀ a b,φ (a*b)=φ a*φ b
 one:φ 1=1
namespace Hm
variable {A B:Type} [Crg A] [Crg B] {φ:A->B}
theorem zero (h:Hm φ):φ 0=0:=by
 have:=h.add 0 0
 rw[add_zero]at this
 exact add_left_cancel (a:=φ 0) (by rw[add_zero];exact this.symm)
theorem neg (h:Hm φ) (a:A):φ (-a) = -φ a:=neg_eq (by rw[← h.add,add_neg,h.zero])
theorem sub (h:Hm φ) (a b:A):φ (a-b)=φ a-φ b:=by rw[sub_def,h.add,h.neg,← sub_def]
end Hm
namespace Pol
section
variable {A B:Type} [Crg A] [Crg B]
noncomputable def ev (φ:A->B) (y:B) (a:Pol A):B:=sm (fun i=>φ (a.f i)*pw y i) a.len
noncomputable def up (a:Pol A):Pol (Pol A):=ev (fun c=>C (C c)) X a
end
section
variable {R:Type} [Crg R]
end
end Pol
end Go.Proofs.YtkmbnldginonbaaGreat
/- Matrices over a commutative ring: products, powers, traces; companion matrices and Newton's identities. Plain: no program. -/
namespace Go.Proofs.YtkmbnldginonbaaGreat
open Crg Pol
namespace Mx
section
variable {R:Type} {n:Nat} {A B C:Nat->Nat->R}
def Eqn (n:Nat) (A B:Nat->Nat->R):Prop:=∀ i j,i<n->j<n->A i j=B i j
theorem Eqn.refl (A:Nat->Nat->R):Eqn n A A:=fun _ _ _ _=>rfl
theorem Eqn.symm (h:Eqn n A B):Eqn n B A:=fun i j hi hj=>(h i j hi hj).symm
theorem Eqn.trans (h:Eqn n A B) (k:Eqn n B C):Eqn n A C:=fun i j hi hj=>(h i j hi hj).trans (k i j hi hj)
end
section
variable {R:Type} [Crg R]
def mm (n:Nat) (A B:Nat->Nat->R) (i j:Nat):R:=sm (fun a=>A i a*B a j) n
def mI (i j:Nat):R:=if i=j then 1 else 0
def mpw (n : Nat) (A : Nat → Nat → R) : Nat → Nat → Nat → R
 | 0=>mI
 | k+1=>mm n A (mpw n A k)
def tr (n:Nat) (A:Nat->Nat->R):R:=sm (fun i=>A i i) n
variable {n:Nat} {A B C D:Nat->Nat->R}
theorem mm_assoc (n:Nat) (A B C:Nat->Nat->R) (i j:Nat):mm n (mm n A B) C i j=mm n A (mm n B C) i j:=by
 show sm (fun b=>sm (fun a=>A i a*B a b) n*C b j) n=sm (fun a=>A i a*sm (fun b=>B a b*C b j) n) n
 rw[sm_congr fun b _=>sm_mul (C b j) (fun a=>A i a*B a b) n,sm_congr fun a _=>mul_sm (A i a) (fun b=>B a b*C b j) n,sm_swap (fun b a=>A i a*B a b*C b j) n n]
 exact sm_congr fun a _=>sm_congr fun b _=>mul_assoc _ _ _
theorem mm_congr (h:Eqn n A C) (k:Eqn n B D):Eqn n (mm n A B) (mm n C D):=fun i j hi hj=>sm_congr fun a ha=>by rw[h i a hi ha,k a j ha hj]
theorem I_mm {i:Nat} (hi:i<n) (j:Nat):mm n mI A i j=A i j:=by
 show sm (fun a=>(if i=a then 1 else 0)*A a j) n=_
 rw[sm_one hi fun a _ ha=>by rw[if_neg fun e=>ha e.symm,zero_mul],if_pos rfl,one_mul]
theorem mm_I {j:Nat} (hj:j<n) (i:Nat):mm n A mI i j=A i j:=by
 show sm (fun a=>A i a*(if a=j then 1 else 0)) n=_
 rw[sm_one hj fun a _ ha=>by rw[if_neg ha,mul_zero],if_pos rfl,mul_one]
theorem tr_congr (h:Eqn n A B):tr n A=tr n B:=sm_congr fun i hi=>h i i hi hi
theorem tr_mm (n:Nat) (A B:Nat->Nat->R):tr n (mm n A B)=tr n (mm n B A):=by
 show sm (fun i=>sm (fun a=>A i a*B a i) n) n=sm (fun i=>sm (fun a=>B i a*A a i) n) n
 rw[sm_swap (fun i a=>A i a*B a i) n n]
 exact sm_congr fun a _=>sm_congr fun b _=>mul_comm _ _
theorem mm_sm (f:Nat->Nat->Nat->R) (m i j:Nat):mm n A (fun a b=>sm (fun t=>f t a b) m) i j=sm (fun t=>mm n A (f t) i j) m:=by
 show sm (fun a=>A i a*sm (fun t=>f t a j) m) n=_
 rw[sm_congr fun a _=>mul_sm (A i a) (fun t=>f t a j) m]
 exact sm_swap (fun a t=>A i a*f t a j) m n
theorem mm_sc (c:R) (i j:Nat):mm n A (fun a b=>c*B a b) i j=c*mm n A B i j:=by
 show sm (fun a=>A i a*(c*B a j)) n=c*sm (fun a=>A i a*B a j) n
 rw[mul_sm]
 exact sm_congr fun a _=>mul_left_comm _ _ _
theorem tr_sm (f:Nat->Nat->Nat->R) (m:Nat):tr n (fun a b=>sm (fun t=>f t a b) m)=sm (fun t=>tr n (f t)) m:=sm_swap (fun i t=>f t i i) m n
theorem tr_sc (c:R):tr n (fun a b=>c*A a b)=c*tr n A:=(mul_sm c (fun i=>A i i) n).symm
theorem nc_sm : ∀ n : Nat, sm (fun _ => (1 : R)) n = nc n
 | 0=>rfl
 | n+1=>by
  show sm (fun _=>(1:R)) n+1=nc n+1
  rw[nc_sm n]
theorem tr_I (n:Nat):tr n (mI:Nat->Nat->R)=nc n:=by
 rw[← nc_sm]
 exact sm_congr fun i _=>if_pos rfl
theorem mpw_link {T : Nat → Nat → R} (h : Eqn n (mm n A T) (mm n T B)) : ∀ k, Eqn n (mm n (mpw n A k) T) (mm n T (mpw n B k))
 | 0=>fun i j hi hj=>by rw[show mpw n A 0=mI from rfl,show mpw n B 0=mI from rfl,I_mm hi,mm_I hj]
 | k+1=>by
  have e1:Eqn n (mm n (mpw n A (k+1)) T) (mm n A (mm n T (mpw n B k))):=fun i j hi hj=>by
   show mm n (mm n A (mpw n A k)) T i j=_
   rw[mm_assoc]
   exact mm_congr (Eqn.refl A) (mpw_link h k) i j hi hj
  have e2:Eqn n (mm n A (mm n T (mpw n B k))) (mm n (mm n T B) (mpw n B k)):=fun i j hi hj=>by
   rw[← mm_assoc]
   exact mm_congr h (Eqn.refl _) i j hi hj
  exact(e1.trans e2).trans fun i j _ _=>mm_assoc n T B _ i j
theorem tr_link {T S:Nat->Nat->R} (h:Eqn n (mm n A T) (mm n T B)) (h1:Eqn n (mm n T S) mI) (h2:Eqn n (mm n S T) mI) (k:Nat):tr n (mpw n B k)=tr n (mpw n A k):=by
 have e1:Eqn n (mpw n B k) (mm n S (mm n T (mpw n B k))):=fun i j hi hj=>by
  rw[← mm_assoc,mm_congr h2 (Eqn.refl _) i j hi hj,I_mm hi]
 have e2:Eqn n (mm n S (mm n T (mpw n B k))) (mm n S (mm n (mpw n A k) T)):=mm_congr (Eqn.refl _) (mpw_link h k).symm
 rw[tr_congr (e1.trans e2),tr_mm]
 refine tr_congr fun i j hi hj=>?_
 rw[mm_assoc,mm_congr (Eqn.refl _) h1 i j hi hj,mm_I hj]
def cm (n:Nat) (c:Nat->R) (j i:Nat):R:=(if j=i+1 then 1 else 0)-(if i+1=n then c j else 0)
theorem cm_mm {c:Nat->R} {T:Nat->Nat->R} {j k:Nat} (hj:j<n):mm n (cm n c) T j k=(if 1≤j then T (j-1) k else 0)-c j*T (n-1) k:=by
 have e:∀ a,cm n c j a*T a k=(if j=a+1 then 1 else 0)*T a k + -((if a+1=n then c j else 0)*T a k):=fun a=>by
  show((if j=a+1 then 1 else 0)-(if a+1=n then c j else 0))*T a k=_
  rw[sub_def,add_mul,neg_mul]
 show sm (fun a=>cm n c j a*T a k) n=_
 rw[sm_congr fun a _=>e a,sm_add,sm_neg]
 have e2:sm (fun a=>(if a+1=n then c j else 0)*T a k) n=c j*T (n-1) k:=by
  rw[sm_one (k:=n-1) (by omega) fun a _ ha=>by rw[if_neg (by omega),zero_mul],if_pos (by omega)]
 have e1:sm (fun a=>(if j=a+1 then 1 else 0)*T a k) n=if 1≤j then T (j-1) k else 0:=by
  split
  ·rw[sm_one (k:=j-1) (by omega) fun a _ ha=>by rw[if_neg (by omega),zero_mul],if_pos (by omega),one_mul]
  ·exact sm_zero fun a _=>by rw[if_neg (by omega),zero_mul]
 rw[e1,e2,← sub_def]
def gr (n : Nat) (c : Nat → R) : Nat → Nat → Nat → R
 | 0=>mI
 | r+1=>fun j i=>mm n (cm n c) (gr n c r) j i+c (n-1-r)*mI j i
def uu (n:Nat) (c:Nat->R) (r j i:Nat):R:=if i+r<n then(if i≤j then c (n-r+(j-i))else 0)else(if i+r-n≤j/\j<i then -c (j-(i+r-n))else 0)
theorem gr_eq {c : Nat → R} (h1 : c n = 1) (h0 : ∀ m, n < m → c m = 0) : ∀ r, r ≤ n → Eqn n (gr n c r) (uu n c r)
 | 0,_=>fun j i hj hi=>by
  show(if j=i then 1 else 0)=uu n c 0 j i
  unfold uu
  rw[if_pos (show i+0<n by omega)]
  by_cases e:j=i
  ·rw[if_pos e,if_pos (show i≤j by omega),show n-0+(j-i)=n by omega,h1]
  ·rw[if_neg e]
   split
   ·rw[h0 _ (by omega)]
   ·rfl
 | r+1,hr=>fun j i hj hi=>by
  have ih:=gr_eq h1 h0 r (by omega)
  show mm n (cm n c) (gr n c r) j i+c (n-1-r)*mI j i=_
  rw[mm_congr (Eqn.refl (cm n c)) ih j i hj hi,cm_mm hj]
  have eI:c (n-1-r)*mI j i=if j=i then c (n-1-r)else 0:=by
   unfold mI
   split
   ·rw[mul_one]
   ·rw[mul_zero]
  rw[eI]
  unfold uu
  rcases Nat.lt_or_ge (i+(r+1)) n with h | h
  ·-- the column is not yet wrapped
   rw[if_pos (show i+r<n by omega),if_pos (show i+r<n by omega),if_pos (show i+(r+1)<n by omega),if_pos (show i≤n-1 by omega),h0 (n-r+(n-1-i)) (by omega),mul_zero,sub_zero]
   rcases Nat.lt_trichotomy j i with h3 | h3 | h3
   ·rw[if_neg (show ¬ j=i by omega),add_zero,if_neg (show ¬ i≤j by omega)]
    split
    ·rw[if_neg (by omega)]
    ·rfl
   ·rw[if_pos h3,if_pos (show i≤j by omega),show n-(r+1)+(j-i)=n-1-r by omega]
    split
    ·rw[if_neg (by omega),zero_add]
    ·rw[zero_add]
   ·rw[if_neg (show ¬ j=i by omega),add_zero,if_pos (show 1≤j by omega),if_pos (show i≤j-1 by omega),if_pos (show i≤j by omega),show n-r+(j-1-i)=n-(r+1)+(j-i)by omega]
  ·rw[if_neg (show ¬ i+(r+1)<n by omega)]
   by_cases hk:i+r<n
   ·-- the column that wraps now
    rw[if_pos hk,if_pos hk,if_pos (show i≤n-1 by omega),show n-r+(n-1-i)=n by omega,h1,mul_one,show i+(r+1)-n=0 by omega,Nat.sub_zero]
    rcases Nat.lt_trichotomy j i with h3 | h3 | h3
    ·rw[if_neg (show ¬ j=i by omega),add_zero,if_pos (show 0≤j/\j<i by omega)]
     split
     ·rw[if_neg (by omega),sub_def,zero_add]
     ·rw[sub_def,zero_add]
    ·rw[if_pos h3,if_neg (show ¬(0≤j/\j<i)by omega),show n-1-r=j by omega]
     split
     ·rw[if_neg (by omega),sub_def,zero_add,neg_add]
     ·rw[sub_def,zero_add,neg_add]
    ·rw[if_neg (show ¬ j=i by omega),add_zero,if_neg (show ¬(0≤j/\j<i)by omega),if_pos (show 1≤j by omega),if_pos (show i≤j-1 by omega),show n-r+(j-1-i)=j by omega,sub_self]
   ·rw[if_neg hk,if_neg hk,if_neg (show ¬(i+r-n≤n-1/\n-1<i)by omega),mul_zero,sub_zero]
    rcases Nat.lt_trichotomy j i with h3 | h3 | h3
    ·rw[if_neg (show ¬ j=i by omega),add_zero]
     by_cases h4:i+(r+1)-n≤j/\j<i
     ·rw[if_pos h4,if_pos (show 1≤j by omega),if_pos (show i+r-n≤j-1/\j-1<i by omega),show j-1-(i+r-n)=j-(i+(r+1)-n)by omega]
     ·rw[if_neg h4]
      split
      ·rw[if_neg (by omega)]
      ·rfl
    ·rw[if_pos h3,if_neg (show ¬(i+(r+1)-n≤j/\j<i)by omega),if_pos (show 1≤j by omega),if_pos (show i+r-n≤j-1/\j-1<i by omega),show j-1-(i+r-n)=n-1-r by omega,neg_add]
    ·rw[if_neg (show ¬ j=i by omega),add_zero,if_neg (show ¬(i+(r+1)-n≤j/\j<i)by omega),if_pos (show 1≤j by omega),if_neg (by omega)]
theorem gr_sum {c : Nat → R} (h1 : c n = 1) : ∀ r, r ≤ n → Eqn n (gr n c r) fun a b => sm (fun t => c (n - r + t) * mpw n (cm n c) t a b) (r + 1)
 | 0,_=>fun i j hi hj=>by
  show mI i j=0+c (n-0+0)*mI i j
  rw[Nat.sub_zero,Nat.add_zero,h1,zero_add,one_mul]
 | r+1,hr=>fun i j hi hj=>by
  show mm n (cm n c) (gr n c r) i j+c (n-1-r)*mI i j=sm (fun t=>c (n-(r+1)+t)*mpw n (cm n c) t i j) (r+1+1)
  rw[mm_congr (Eqn.refl (cm n c)) (gr_sum h1 r (by omega)) i j hi hj,mm_sm,sm_head (fun t=>c (n-(r+1)+t)*mpw n (cm n c) t i j),show n-(r+1)+0=n-1-r by omega,add_comm]
  refine congrArg (c (n-1-r)*mI i j+·) ?_
  refine sm_congr fun t ht=>?_
  rw[mm_sc,show n-(r+1)+(t+1)=n-r+t by omega]
  rfl
theorem newton_cm {c:Nat->R} (h1:c n=1) (h0:∀ m,n<m->c m=0) {r:Nat} (hr:r≤n):sm (fun t=>c (n-r+t)*tr n (mpw n (cm n c) t)) (r+1)=nc (n-r)*c (n-r):=by
 have e1:sm (fun t=>c (n-r+t)*tr n (mpw n (cm n c) t)) (r+1)=tr n (gr n c r):=by
  rw[tr_congr (gr_sum h1 r hr),tr_sm]
  exact sm_congr fun t _=>(tr_sc _).symm
 rw[e1,tr_congr (gr_eq h1 h0 r hr)]
 show sm (fun i=>uu n c r i i) n=_
 have e2:∀ i,i<n->uu n c r i i=if i<n-r then c (n-r)else 0:=fun i hi=>by
  unfold uu
  by_cases h:i+r<n
  ·rw[if_pos h,if_pos (Nat.le_refl i),if_pos (show i<n-r by omega),Nat.sub_self,Nat.add_zero]
  ·rw[if_neg h,if_neg (show ¬(i+r-n≤i/\i<i)by omega),if_neg (show ¬ i<n-r by omega)]
 rw[sm_congr e2]
 have e3:sm (fun i=>if i<n-r then c (n-r)else 0) n=sm (fun i=>if i<n-r then c (n-r)else 0) (n-r):=sm_more (fun i hi=>if_neg (by omega)) (by omega)
 rw[e3,sm_congr fun i hi=>if_pos hi,← nc_sm,sm_mul]
 exact sm_congr fun i _=>(one_mul _).symm
theorem root_cm {c:Nat->R} (h1:c n=1) (h0:∀ m,n<m->c m=0):Eqn n (fun a b=>sm (fun t=>c t*mpw n (cm n c) t a b) (n+1)) fun _ _=>0:=fun i j hi hj=>by
 have h:=gr_sum h1 n (Nat.le_refl n) i j hi hj
 rw[gr_eq h1 h0 n (Nat.le_refl n) i j hi hj]at h
 have e:uu n c n i j=0:=by
  unfold uu
  rw[if_neg (by omega),if_neg (by omega)]
 rw[e]at h
 show sm (fun t=>c t*mpw n (cm n c) t i j) (n+1)=0
 rw[h]
 exact sm_congr fun t _=>by rw[Nat.sub_self,Nat.zero_add]
end
end Mx
end Go.Proofs.YtkmbnldginonbaaGreat
/- Hessenberg matrices: the polynomials of the leading blocks; Newton's identities and the theorem of Cayley and Hamilton for them. Plain: no program. -/
namespace Go.Proofs.YtkmbnldginonbaaGreat
open Crg Pol
namespace Mx
section
variable {R:Type} [Crg R]
noncomputable def hps (W : Nat → Nat → R) : Nat → Nat → Pol R
 | 0=>fun _=>1
 | k+1=>fun i=>if i≤k then hps W k i else X*hps W k k-sm (fun i=>C (W i k)*hps W k i) (k+1)
noncomputable def hp (W:Nat->Nat->R) (k:Nat):Pol R:=hps W k k
variable {W:Nat->Nat->R} {n:Nat}
theorem hps_le (W : Nat → Nat → R) : ∀ {k i : Nat}, i ≤ k → hps W k i = hp W i
 | 0,i,h=>by
  obtain rfl:i=0:=by omega
  rfl
 | k+1,i,h=>by
  rcases Nat.lt_or_ge i (k+1)with h1 | h1
  ·show(if i≤k then hps W k i else _)=_
   rw[if_pos (by omega),hps_le W (by omega)]
  ·obtain rfl:i=k+1:=by omega
   rfl
theorem hp_succ (W:Nat->Nat->R) (k:Nat):hp W (k+1)=X*hp W k-sm (fun i=>C (W i k)*hp W i) (k+1):=by
 show(if k+1≤k then hps W k (k+1)else X*hps W k k-sm (fun i=>C (W i k)*hps W k i) (k+1))=_
 rw[if_neg (by omega)]
 show X*hp W k-_=_
 rw[sm_congr fun i hi=>by rw[hps_le W (show i≤k by omega)]]
theorem sm_f (f : Nat → Pol R) (j : Nat) : ∀ m, (sm f m).f j = sm (fun i => (f i).f j) m
 | 0=>rfl
 | m+1=>by
  show(sm f m+f m).f j=sm (fun i=>(f i).f j) m+(f m).f j
  rw[f_add,sm_f f j m]
theorem X_mul_at (a:Pol R) (j:Nat):(X*a).f j=if 1≤j then a.f (j-1)else 0:=by
 show(mn 1 1*a).f j=_
 rw[mn_mul]
 split
 ·rw[one_mul]
 ·rfl
theorem hp_at (W:Nat->Nat->R) (k j:Nat):(hp W (k+1)).f j=(if 1≤j then(hp W k).f (j-1)else 0)-sm (fun i=>W i k*(hp W i).f j) (k+1):=by
 rw[hp_succ,f_sub,X_mul_at,sm_f]
 rw[sm_congr fun i _=>C_mul (W i k) (hp W i) j]
theorem hp_deg (W:Nat->Nat->R):∀ k,(∀ j,k<j->(hp W k).f j=0)/\(hp W k).f k=1:=by
 have key:∀ m k,k≤m->(∀ j,k<j->(hp W k).f j=0)/\(hp W k).f k=1:=by
  intro m
  induction m with
  | zero =>
   intro k hk
   obtain rfl:k=0:=by omega
   exact⟨fun j hj=>(f_one j).trans (if_neg (by omega)),rfl⟩
  | succ m ih =>
   intro k hk
   rcases Nat.lt_or_ge k (m+1)with h | h
   ·exact ih k (by omega)
   ·obtain rfl:k=m+1:=by omega
    refine⟨fun j hj=>?_,?_⟩
    ·rw[hp_at,if_pos (by omega),(ih m (Nat.le_refl m)).1 _ (by omega),sm_zero fun i hi=>by rw[(ih i (by omega)).1 j (by omega),mul_zero],sub_self]
    ·rw[hp_at,if_pos (by omega),Nat.add_sub_cancel,(ih m (Nat.le_refl m)).2,sm_zero fun i hi=>by rw[(ih i (by omega)).1 _ (by omega),mul_zero],sub_zero]
 exact fun k=>key k k (Nat.le_refl k)
def um (W:Nat->Nat->R) (i k:Nat):R:=if i=k+1 then 1 else if i≤k then W i k else 0
theorem um_sum (f:Nat->R) {k:Nat} (hk:k<n):sm (fun a=>f a*um W a k) n=sm (fun a=>f a*W a k) (k+1)+(if k+1<n then f (k+1)else 0):=by
 have e0:sm (fun a=>f a*um W a k) (k+1)=sm (fun a=>f a*W a k) (k+1):=sm_congr fun a ha=>by
  unfold um
  rw[if_neg (by omega),if_pos (by omega)]
 split
 ·next h =>
  rw[sm_more (n:=k+2) (fun a ha=>by
   unfold um
   rw[if_neg (by omega),if_neg (by omega),mul_zero]) (by omega)]
  show sm (fun a=>f a*um W a k) (k+1)+f (k+1)*um W (k+1) k=_
  rw[e0,show um W (k+1) k=1 from if_pos rfl,mul_one]
 ·obtain rfl:n=k+1:=by omega
  rw[e0,add_zero]
noncomputable def tm (W:Nat->Nat->R) (j k:Nat):R:=(hp W k).f j
theorem tm_link (W:Nat->Nat->R) (n:Nat):Eqn n (mm n (cm n (hp W n).f) (tm W)) (mm n (tm W) (um W)):=fun j k hj hk=>by
 rw[cm_mm hj]
 show _=sm (fun a=>tm W j a*um W a k) n
 rw[um_sum (fun a=>tm W j a) hk]
 have e:(if 1≤j then tm W (j-1) k else 0)=tm W j (k+1)+sm (fun a=>tm W j a*W a k) (k+1):=by
  show _=(hp W (k+1)).f j+_
  rw[hp_at,sub_def,add_assoc,show sm (fun a=>tm W j a*W a k) (k+1)=sm (fun i=>W i k*(hp W i).f j) (k+1)from sm_congr fun i _=>mul_comm _ _,neg_add,add_zero]
  rfl
 rw[e]
 by_cases h:k+1<n
 ·rw[if_pos h,show tm W (n-1) k=0 from(hp_deg W k).1 _ (by omega),mul_zero,sub_zero,add_comm]
 ·obtain rfl:n=k+1:=by omega
  rw[if_neg h,add_zero,show tm W (k+1-1) k=1 from(hp_deg W k).2,mul_one]
  show tm W j (k+1)+_-tm W j (k+1)=_
  rw[sub_def,add_comm (tm W j (k+1)),add_assoc,add_neg,add_zero]
def sv (n:Nat) (W:Nat->Nat->R) (j k:Nat):R:=mpw n (um W) k j 0
theorem cm_e {c : Nat → R} : ∀ k, k < n → ∀ j, j < n → mpw n (cm n c) k j 0 = if j = k then 1 else 0
 | 0,_,j,_=>rfl
 | k+1,hk,j,hj=>by
  show mm n (cm n c) (mpw n (cm n c) k) j 0=_
  rw[cm_mm hj,cm_e k (by omega) (n-1) (by omega),if_neg (show ¬ n-1=k by omega),mul_zero,sub_zero]
  split
  ·rw[cm_e k (by omega) (j-1) (by omega)]
   by_cases e:j=k+1
   ·rw[if_pos (by omega),if_pos e]
   ·rw[if_neg (by omega),if_neg e]
  ·rw[if_neg (by omega)]
theorem tm_sv (W:Nat->Nat->R) (n:Nat):Eqn n (mm n (tm W) (sv n W)) mI:=fun j k hj hk=>by
 show mm n (tm W) (mpw n (um W) k) j 0=_
 rw[← mpw_link (tm_link W n) k j 0 hj (by omega)]
 show sm (fun a=>mpw n (cm n (hp W n).f) k j a*(hp W 0).f a) n=_
 rw[sm_one (k:=0) (by omega) fun a _ ha=>by rw[(hp_deg W 0).1 a (by omega),mul_zero],(hp_deg W 0).2,mul_one,cm_e k hk j hj]
 rfl
theorem sv_tm (W:Nat->Nat->R) (n:Nat):∀ k,k<n->∀ j,j<n->mm n (sv n W) (tm W) j k=mI j k:=by
 have key:∀ m k,k≤m->k<n->∀ j,j<n->mm n (sv n W) (tm W) j k=mI j k:=by
  intro m
  induction m with
  | zero =>
   intro k hk hn j hj
   obtain rfl:k=0:=by omega
   show sm (fun a=>sv n W j a*(hp W 0).f a) n=_
   rw[sm_one (k:=0) hn fun a _ ha=>by rw[(hp_deg W 0).1 a (by omega),mul_zero],(hp_deg W 0).2,mul_one]
   rfl
  | succ m ih =>
   intro k hk hn j hj
   rcases Nat.lt_or_ge k (m+1)with h | h
   ·exact ih k (by omega) hn j hj
   ·obtain rfl:k=m+1:=by omega
    -- the next polynomial: multiplied by x, less the sum
    have e1:mm n (sv n W) (tm W) j (m+1)=sm (fun a=>sv n W j a*(if 1≤a then tm W (a-1) m else 0)) n-sm (fun i=>W i m*mm n (sv n W) (tm W) j i) (m+1):=by
     have e2:∀ a,sv n W j a*tm W a (m+1)=sv n W j a*(if 1≤a then tm W (a-1) m else 0) + -(sm (fun i=>W i m*(sv n W j a*tm W a i)) (m+1)):=fun a=>by
      show sv n W j a*(hp W (m+1)).f a=_
      rw[hp_at,sub_def,mul_add,mul_neg,mul_sm]
      refine congrArg (_ + -·) (sm_congr fun i _=>?_)
      exact mul_left_comm _ _ _
     show sm (fun a=>sv n W j a*tm W a (m+1)) n=_
     rw[sm_congr fun a _=>e2 a,sm_add,sm_neg,← sub_def,sm_swap (fun a i=>W i m*(sv n W j a*tm W a i)) (m+1) n]
     refine congrArg (_-·) (sm_congr fun i _=>?_)
     exact(mul_sm _ _ _).symm
    have e3:sm (fun a=>sv n W j a*(if 1≤a then tm W (a-1) m else 0)) n=mm n (um W) (fun x y=>mm n (sv n W) (tm W) x y) j m:=by
     obtain⟨q,rfl⟩:∃ q,n=q+1:=⟨n-1,by omega⟩
     rw[sm_head,if_neg (by omega),mul_zero,zero_add]
     have e4:∀ a,sv (q+1) W j (a+1)*(if 1≤a+1 then tm W (a+1-1) m else 0)=mm (q+1) (um W) (sv (q+1) W) j a*tm W a m:=fun a=>by
      rw[if_pos (by omega),Nat.add_sub_cancel]
      rfl
     rw[sm_congr fun a _=>e4 a]
     show _=mm (q+1) (um W) (mm (q+1) (sv (q+1) W) (tm W)) j m
     rw[← mm_assoc]
     show _=sm (fun a=>mm (q+1) (um W) (sv (q+1) W) j a*tm W a m) q+mm (q+1) (um W) (sv (q+1) W) j q*tm W q m
     rw[show tm W q m=0 from(hp_deg W m).1 q (by omega),mul_zero,add_zero]
    have e5:mm n (um W) (fun x y=>mm n (sv n W) (tm W) x y) j m=um W j m:=by
     show sm (fun a=>um W j a*mm n (sv n W) (tm W) a m) n=_
     rw[sm_congr fun a ha=>by rw[ih m (Nat.le_refl m) (by omega) a ha]]
     exact mm_I (show m<n by omega) j
    have e6:sm (fun i=>W i m*mm n (sv n W) (tm W) j i) (m+1)=if j≤m then W j m else 0:=by
     rw[sm_congr fun i hi=>by rw[ih i (by omega) (by omega) j hj]]
     split
     ·rw[sm_one (k:=j) (by omega) fun i _ hi=>by rw[show(mI j i:R)=0 from if_neg fun e=>hi e.symm,mul_zero],show(mI j j:R)=1 from if_pos rfl,mul_one]
     ·exact sm_zero fun i hi=>by rw[show(mI j i:R)=0 from if_neg (by omega),mul_zero]
    rw[e1,e3,e5,e6]
    unfold um mI
    by_cases h1:j=m+1
    ·rw[if_pos h1,if_pos h1,if_neg (by omega),sub_zero]
    ·rw[if_neg h1,if_neg h1]
     exact sub_self _
 exact fun k=>key k k (Nat.le_refl k)
theorem newton_um (W:Nat->Nat->R) {n r:Nat} (hr:r≤n):sm (fun t=>(hp W n).f (n-r+t)*tr n (mpw n (um W) t)) (r+1)=nc (n-r)*(hp W n).f (n-r):=by
 rw[← newton_cm (hp_deg W n).2 (hp_deg W n).1 hr]
 refine sm_congr fun t _=>?_
 rw[tr_link (tm_link W n) (tm_sv W n) (fun i j hi hj=>sv_tm W n j hj i hi)]
theorem root_um (W:Nat->Nat->R) (n:Nat):Eqn n (fun a b=>sm (fun t=>(hp W n).f t*mpw n (um W) t a b) (n+1)) fun _ _=>0:=fun i j hi hj=>by
 have e1:Eqn n (mm n (tm W) fun a b=>sm (fun t=>(hp W n).f t*mpw n (um W) t a b) (n+1)) fun _ _=>0:=fun i j hi hj=>by
  rw[mm_sm]
  have e2:∀ t,mm n (tm W) (fun a b=>(hp W n).f t*mpw n (um W) t a b) i j=(hp W n).f t*mm n (mpw n (cm n (hp W n).f) t) (tm W) i j:=fun t=>by
   rw[mm_sc,mpw_link (tm_link W n) t i j hi hj]
  rw[sm_congr fun t _=>e2 t]
  show sm (fun t=>(hp W n).f t*sm (fun a=>mpw n (cm n (hp W n).f) t i a*tm W a j) n) (n+1)=0
  rw[sm_congr fun t _=>mul_sm _ _ _,sm_swap (fun t a=>(hp W n).f t*(mpw n (cm n (hp W n).f) t i a*tm W a j)) n (n+1)]
  refine sm_zero fun a ha=>?_
  rw[sm_congr fun t _=>(mul_assoc ((hp W n).f t) (mpw n (cm n (hp W n).f) t i a) (tm W a j)).symm,← sm_mul]
  have h:=root_cm (hp_deg W n).2 (hp_deg W n).1 i a hi ha
  dsimp only at h
  rw[h,zero_mul]
 have e3:=mm_congr (Eqn.refl (sv n W)) e1 i j hi hj
 rw[← mm_assoc,mm_congr (C:=mI) (fun a b ha hb=>sv_tm W n b hb a ha) (Eqn.refl _) i j hi hj,I_mm hi]at e3
 exact e3.trans (sm_zero fun a _=>mul_zero _)
end
end Mx
end Go.Proofs.YtkmbnldginonbaaGreat
