/- Hessenberg matrices over a field, any subdiagonal: through a polynomial parameter. Plain: no program. -/
import Derived.Test.YtkmbnldginonbaaGreatNw10
import Derived.Test.YtkmbnldginonbaaGreatNw5
import Derived.Test.YtkmbnldginonbaaGreatNw6
namespace Go.Proofs.YtkmbnldginonbaaGreat
open Crg Pol
namespace Mx
section
variable {R:Type} [Crg R]
def dd (H : Nat → Nat → R) (i : Nat) : Nat → R
 | 0=>1
 | k+1=>if i≤k then dd H i k*H (k+1) k else 1
theorem dd_self (H : Nat → Nat → R) : ∀ i, dd H i i = 1
 | 0=>rfl
 | i+1=>if_neg (by omega)
theorem dd_succ (H:Nat->Nat->R) {i k:Nat} (h:i≤k):dd H i (k+1)=dd H i k*H (k+1) k:=if_pos h
theorem dd_mul (H : Nat → Nat → R) {i : Nat} : ∀ {k : Nat}, i ≤ k → dd H 0 i * dd H i k = dd H 0 k
 | 0,h=>by
  obtain rfl:i=0:=by omega
  exact mul_one _
 | k+1,h=>by
  rcases Nat.lt_or_ge i (k+1)with h1 | h1
  ·rw[dd_succ H (show i≤k by omega),dd_succ H (Nat.zero_le k),← mul_assoc,dd_mul H (show i≤k by omega)]
  ·obtain rfl:i=k+1:=by omega
   rw[dd_self,mul_one]
def wd (H:Nat->Nat->R) (i k:Nat):R:=dd H i k*H i k
def dg (H:Nat->Nat->R) (i j:Nat):R:=if i=j then dd H 0 i else 0
variable {n:Nat} {H:Nat->Nat->R}
def Hess (n:Nat) (H:Nat->Nat->R):Prop:=∀ i k,i<n->k+1<i->H i k=0
theorem dg_link (h:Hess n H):Eqn n (mm n H (dg H)) (mm n (dg H) (um (wd H))):=fun i k hi hk=>by
 show sm (fun a=>H i a*(if a=k then dd H 0 a else 0)) n=sm (fun a=>(if i=a then dd H 0 i else 0)*um (wd H) a k) n
 rw[sm_one hk fun a _ ha=>by rw[if_neg ha,mul_zero],if_pos rfl,sm_one hi fun a _ ha=>by rw[if_neg fun e=>ha e.symm,zero_mul],if_pos rfl]
 unfold um wd
 by_cases h1:i=k+1
 ·subst h1
  rw[if_pos rfl,mul_one,dd_succ H (Nat.zero_le k),mul_comm]
 ·rw[if_neg h1]
  by_cases h2:i≤k
  ·rw[if_pos h2,← mul_assoc,dd_mul H h2,mul_comm]
  ·rw[if_neg h2,mul_zero,h i k hi (by omega),zero_mul]
theorem dg_pow (h:Hess n H) (t:Nat) {i k:Nat} (hi:i<n) (hk:k<n):mpw n H t i k*dd H 0 k=dd H 0 i*mpw n (um (wd H)) t i k:=by
 have e:=mpw_link (dg_link h) t i k hi hk
 change sm (fun a=>mpw n H t i a*(if a=k then dd H 0 a else 0)) n=sm (fun a=>(if i=a then dd H 0 i else 0)*mpw n (um (wd H)) t a k) n at e
 rwa [sm_one hk fun a _ ha=>by rw[if_neg ha,mul_zero],if_pos rfl,sm_one hi fun a _ ha=>by rw[if_neg fun e=>ha e.symm,zero_mul],if_pos rfl]at e
/-! Maps. -/
variable {S:Type} [Crg S] {φ:R->S}
theorem sm_map (h : Hm φ) (f : Nat → R) : ∀ m, φ (sm f m) = sm (fun i => φ (f i)) m
 | 0=>h.zero
 | m+1=>by
  show φ (sm f m+f m)=_
  rw[h.add,sm_map h f m]
  rfl
theorem nc_map (h : Hm φ) : ∀ m, φ (nc m) = nc m
 | 0=>h.zero
 | m+1=>by
  show φ (nc m+1)=nc m+1
  rw[h.add,nc_map h m,h.one]
theorem mpw_map (h : Hm φ) (n : Nat) (H : Nat → Nat → R) : ∀ t i j, φ (mpw n H t i j) = mpw n (fun a b => φ (H a b)) t i j
 | 0,i,j=>by
  show φ (if i=j then 1 else 0)=if i=j then 1 else 0
  split
  ·exact h.one
  ·exact h.zero
 | t+1,i,j=>by
  show φ (sm (fun a=>H i a*mpw n H t a j) n)=sm (fun a=>φ (H i a)*mpw n (fun a b=>φ (H a b)) t a j) n
  rw[sm_map h]
  exact sm_congr fun a _=>by rw[h.mul,mpw_map h n H t a j]
theorem tr_map (h:Hm φ) (n:Nat) (H:Nat->Nat->R) (t:Nat):φ (tr n (mpw n H t))=tr n (mpw n (fun a b=>φ (H a b)) t):=by
 show φ (sm (fun i=>mpw n H t i i) n)=_
 rw[sm_map h]
 exact sm_congr fun i _=>mpw_map h n H t i i
theorem dd_map (h : Hm φ) (H : Nat → Nat → R) (i : Nat) : ∀ k, φ (dd H i k) = dd (fun a b => φ (H a b)) i k
 | 0=>h.one
 | k+1=>by
  show φ (if i≤k then dd H i k*H (k+1) k else 1)=if i≤k then dd (fun a b=>φ (H a b)) i k*φ (H (k+1) k)else 1
  split
  ·rw[h.mul,dd_map h H i k]
  ·exact h.one
theorem hp_map (h:Hm φ) (W:Nat->Nat->R) (k j:Nat):φ ((hp W k).f j)=(hp (fun a b=>φ (W a b)) k).f j:=by
 have key:∀ m k,k≤m->∀ j,φ ((hp W k).f j)=(hp (fun a b=>φ (W a b)) k).f j:=by
  intro m
  induction m with
  | zero =>
   intro k hk j
   obtain rfl:k=0:=by omega
   show φ ((1:Pol R).f j)=(1:Pol S).f j
   rw[f_one,f_one]
   split
   ·exact h.one
   ·exact h.zero
  | succ m ih =>
   intro k hk j
   rcases Nat.lt_or_ge k (m+1)with h1 | h1
   ·exact ih k (by omega) j
   ·obtain rfl:k=m+1:=by omega
    rw[hp_at,hp_at,h.sub,sm_map h]
    have e1:φ (if 1≤j then(hp W m).f (j-1)else 0)=if 1≤j then(hp (fun a b=>φ (W a b)) m).f (j-1)else 0:=by
     split
     ·exact ih m (Nat.le_refl m) _
     ·exact h.zero
    rw[e1,sm_congr fun i hi=>by rw[h.mul,ih i (by omega) j]]
 exact key k k (Nat.le_refl k) j
end
section
variable {K:Type} [Fld K] {n:Nat} {H:Nat->Nat->K}
theorem at0_hm : Hm (fun a : Pol K => a.f 0) where
 add _ _:=rfl
 mul a b:=by
  show 0+a.f 0*b.f (0-0)=_
  rw[zero_add]
 one:=rfl
noncomputable def ht (H:Nat->Nat->K) (i k:Nat):Pol K:=C (H i k)+(if i=k+1 then X else 0)
theorem ht_at (H:Nat->Nat->K):(fun i k=>(ht H i k).f 0)=H:=by
 funext i k
 show(C (H i k):Pol K).f 0+(if i=k+1 then X else 0:Pol K).f 0=_
 have e:(if i=k+1 then X else 0:Pol K).f 0=0:=by
  split
  ·show(if(0:Nat)=1 then(1:K)else 0)=0
   exact if_neg (by decide)
  ·rfl
 rw[e,add_zero]
 show(if(0:Nat)=0 then H i k else 0)=H i k
 exact if_pos rfl
theorem ht_hess (h:Hess n H):Hess n (ht H):=fun i k hi hk=>by
 show C (H i k)+(if i=k+1 then X else 0)=0
 rw[h i k hi hk,if_neg (by omega),C_zero,add_zero]
theorem ht_ne (H : Nat → Nat → K) : ∀ k, dd (ht H) 0 k ≠ 0
 | 0=>Pol.one_ne
 | k+1=>fun e=>by
  rw[dd_succ _ (Nat.zero_le k)]at e
  rcases Pol.domain e with e | e
  ·exact ht_ne H k e
  ·have e1:(ht H (k+1) k).f 1=0:=by rw[e];rfl
   change (C (H (k+1) k):Pol K).f 1+(if k+1=k+1 then X else 0:Pol K).f 1=0 at e1
   have e2:(C (H (k+1) k):Pol K).f 1=0:=by
    show(if(1:Nat)=0 then H (k+1) k else 0)=0
    exact if_neg (by decide)
   rw[if_pos rfl,e2,zero_add]at e1
   exact Fld.one_ne (K:=K) e1
theorem wd_at (H:Nat->Nat->K):(fun i k=>(wd (ht H) i k).f 0)=wd H:=by
 funext i k
 show(dd (ht H) i k*ht H i k).f 0=dd H i k*H i k
 rw[at0_hm.mul,dd_map (φ:=fun a:Pol K=>a.f 0) at0_hm (ht H) i k,ht_at,congrFun (congrFun (ht_at H) i) k]
theorem tr_um (h:Hess n H) (t:Nat):tr n (mpw n (um (wd (ht H))) t)=tr n (mpw n (ht H) t):=sm_congr fun i hi=>by
 have e:=dg_pow (ht_hess h) t hi hi
 rw[mul_comm]at e
 exact(Pol.cancel (ht_ne H i) e).symm
theorem newton_hess (h:Hess n H) {r:Nat} (hr:r≤n):sm (fun t=>(hp (wd H) n).f (n-r+t)*tr n (mpw n H t)) (r+1)=nc (n-r)*(hp (wd H) n).f (n-r):=by
 have e:=congrArg (fun a:Pol K=>a.f 0) (newton_um (wd (ht H)) hr)
 rw[sm_map (φ:=fun a:Pol K=>a.f 0) at0_hm,at0_hm.mul,nc_map (φ:=fun a:Pol K=>a.f 0) at0_hm,hp_map (φ:=fun a:Pol K=>a.f 0) at0_hm,wd_at]at e
 rw[← e]
 refine sm_congr fun t _=>?_
 rw[tr_um h,at0_hm.mul,hp_map (φ:=fun a:Pol K=>a.f 0) at0_hm,wd_at,tr_map (φ:=fun a:Pol K=>a.f 0) at0_hm,ht_at]
theorem root_hess (h:Hess n H):Eqn n (fun a b=>sm (fun t=>(hp (wd H) n).f t*mpw n H t a b) (n+1)) fun _ _=>0:=fun i k hi hk=>by
 have e:=root_um (wd (ht H)) n i k hi hk
 dsimp only at e
 have e1:sm (fun t=>(hp (wd (ht H)) n).f t*mpw n (ht H) t i k) (n+1)*dd (ht H) 0 k=0:=by
  rw[sm_mul,sm_congr fun t _=>by rw[mul_assoc,dg_pow (ht_hess h) t hi hk,mul_left_comm],← mul_sm,e,mul_zero]
 have e2:=(Pol.domain e1).resolve_right (ht_ne H k)
 have e3:=congrArg (fun a:Pol K=>a.f 0) e2
 rw[sm_map (φ:=fun a:Pol K=>a.f 0) at0_hm]at e3
 show sm (fun t=>(hp (wd H) n).f t*mpw n H t i k) (n+1)=0
 refine Eq.trans (sm_congr fun t _=>?_) e3
 rw[at0_hm.mul,hp_map (φ:=fun a:Pol K=>a.f 0) at0_hm,wd_at,mpw_map (φ:=fun a:Pol K=>a.f 0) at0_hm,ht_at]
end
end Mx
end Go.Proofs.YtkmbnldginonbaaGreat
/- Similar matrices: exchanges and additions of rows with columns; the rational numbers as a field; the method of Faddeev and LeVerrier. Plain: no program. -/
namespace Go.Proofs.YtkmbnldginonbaaGreat
open Crg Pol
namespace Mx
section
variable {R:Type} [Crg R] {n:Nat} {A B D:Nat->Nat->R}
def Sim (n:Nat) (A B:Nat->Nat->R):Prop:=∃ E F,Eqn n (mm n E F) mI/\Eqn n (mm n F E) mI/\Eqn n (mm n A E) (mm n E B)
theorem Sim.of_eq (h:Eqn n A B):Sim n A B:=⟨mI,mI,fun _ j _ hj=>mm_I hj _,fun _ j _ hj=>mm_I hj _,fun i j hi hj=>by rw[mm_I hj,I_mm hi];exact h i j hi hj⟩
theorem Sim.trans (h:Sim n A B) (k:Sim n B D):Sim n A D:=by
 obtain⟨E,F,h1,h2,h3⟩:=h
 obtain⟨G,J,k1,k2,k3⟩:=k
 refine⟨mm n E G,mm n J F,fun i j hi hj=>?_,fun i j hi hj=>?_,fun i j hi hj=>?_⟩
 ·rw[mm_assoc,mm_congr (Eqn.refl E) (D:=F) (fun a b ha hb=>by rw[← mm_assoc,mm_congr k1 (Eqn.refl F) a b ha hb,I_mm ha]) i j hi hj,h1 i j hi hj]
 ·rw[mm_assoc,mm_congr (Eqn.refl J) (D:=G) (fun a b ha hb=>by rw[← mm_assoc,mm_congr h2 (Eqn.refl G) a b ha hb,I_mm ha]) i j hi hj,k2 i j hi hj]
 ·rw[← mm_assoc,mm_congr h3 (Eqn.refl G) i j hi hj,mm_assoc,mm_congr (Eqn.refl E) k3 i j hi hj,mm_assoc]
theorem Sim.tr (h:Sim n A B) (k:Nat):tr n (mpw n B k)=tr n (mpw n A k):=by
 obtain⟨E,F,h1,h2,h3⟩:=h
 exact tr_link h3 h1 h2 k
theorem Sim.root (h:Sim n A B) {c:Nat->R} {m:Nat} (hr:Eqn n (fun a b=>sm (fun t=>c t*mpw n B t a b) m) fun _ _=>0):Eqn n (fun a b=>sm (fun t=>c t*mpw n A t a b) m) fun _ _=>0:=by
 obtain⟨E,F,h1,h2,h3⟩:=h
 have e1:Eqn n (mm n (fun a b=>sm (fun t=>c t*mpw n A t a b) m) E) fun _ _=>0:=fun i j hi hj=>by
  have e2:mm n (fun a b=>sm (fun t=>c t*mpw n A t a b) m) E i j=mm n E (fun a b=>sm (fun t=>c t*mpw n B t a b) m) i j:=by
   rw[mm_sm]
   show sm (fun a=>sm (fun t=>c t*mpw n A t i a) m*E a j) n=_
   rw[sm_congr fun a _=>sm_mul (E a j) (fun t=>c t*mpw n A t i a) m,sm_swap (fun a t=>c t*mpw n A t i a*E a j) m n]
   refine sm_congr fun t _=>?_
   rw[mm_sc,← mpw_link h3 t i j hi hj]
   show _=c t*sm (fun a=>mpw n A t i a*E a j) n
   rw[mul_sm]
   exact sm_congr fun a _=>mul_assoc _ _ _
  rw[e2]
  refine(mm_congr (Eqn.refl E) hr i j hi hj).trans ?_
  exact sm_zero fun a _=>mul_zero _
 intro i j hi hj
 have e3:=mm_congr e1 (Eqn.refl F) i j hi hj
 rw[mm_assoc,mm_congr (Eqn.refl _) h1 i j hi hj,mm_I hj]at e3
 refine e3.trans (sm_zero fun a _=>zero_mul _)
def xch (s:Nat->Nat) (A:Nat->Nat->R) (i j:Nat):R:=A (s i) (s j)
theorem Sim.xch {s:Nat->Nat} (h1:∀ i,i<n->s i<n) (h2:∀ i,i<n->s (s i)=i) (A:Nat->Nat->R):Sim n A (xch s A):=by
 have e1:∀(B:Nat->Nat->R) (i j:Nat),i<n->j<n->mm n (fun a b=>if a=s b then 1 else 0) B i j=B (s i) j:=fun B i j hi _=>by
  show sm (fun a=>(if i=s a then 1 else 0)*B a j) n=_
  rw[sm_one (k:=s i) (h1 i hi) fun a ha hne=>by rw[if_neg fun e=>hne (by rw[e,h2 a ha]),zero_mul],if_pos (h2 i hi).symm,one_mul]
 have e2:∀(B:Nat->Nat->R) (i j:Nat),i<n->j<n->mm n B (fun a b=>if a=s b then 1 else 0) i j=B i (s j):=fun B i j _ hj=>by
  show sm (fun a=>B i a*(if a=s j then 1 else 0)) n=_
  rw[sm_one (k:=s j) (h1 j hj) fun a _ hne=>by rw[if_neg hne,mul_zero],if_pos rfl,mul_one]
 have e3:Eqn n (mm n (fun a b=>if a=s b then(1:R)else 0) (fun a b=>if a=s b then 1 else 0)) mI:=fun i j hi hj=>by
  rw[e1 _ i j hi hj]
  show(if s i=s j then 1 else 0)=if i=j then 1 else 0
  by_cases e:i=j
  ·rw[e,if_pos rfl,if_pos rfl]
  ·rw[if_neg e,if_neg fun h=>e (by rw[← h2 i hi,h,h2 j hj])]
 refine⟨_,_,e3,e3,fun i j hi hj=>?_⟩
 rw[e2 _ i j hi hj,e1 _ i j hi hj]
 show A i (s j)=A (s (s i)) (s j)
 rw[h2 i hi]
def rca (u:R) (i m:Nat) (A:Nat->Nat->R) (a b:Nat):R:=(if a=i then A a b-u*A m b else A a b)+(if b=m then u*(if a=i then A a i-u*A m i else A a i)else 0)
theorem Sim.add {i m:Nat} (hi:i<n) (hm:m<n) (hne:i≠m) (u:R) (A:Nat->Nat->R):Sim n A (rca u i m A):=by
 have el:∀(u:R) (B:Nat->Nat->R) (a b:Nat),a<n->b<n->mm n (fun a b=>mI a b+(if a=i/\b=m then u else 0)) B a b=B a b+(if a=i then u*B m b else 0):=fun u B a b ha hb=>by
  have e:∀ c,(mI a c+(if a=i/\c=m then u else 0))*B c b=mI a c*B c b+(if a=i/\c=m then u else 0)*B c b:=fun c=>add_mul _ _ _
  show sm (fun c=>(mI a c+(if a=i/\c=m then u else 0))*B c b) n=_
  rw[sm_congr fun c _=>e c,sm_add]
  refine congr (congrArg HAdd.hAdd (I_mm ha b)) ?_
  split
  ·next h=>rw[sm_one hm fun c _ hc=>by rw[if_neg fun e=>hc e.2,zero_mul],if_pos ⟨h,rfl⟩]
  ·next h=>exact sm_zero fun c _=>by rw[if_neg fun e=>h e.1,zero_mul]
 have er:∀(u:R) (B:Nat->Nat->R) (a b:Nat),a<n->b<n->mm n B (fun a b=>mI a b+(if a=i/\b=m then u else 0)) a b=B a b+(if b=m then B a i*u else 0):=fun u B a b ha hb=>by
  have e:∀ c,B a c*(mI c b+(if c=i/\b=m then u else 0))=B a c*mI c b+B a c*(if c=i/\b=m then u else 0):=fun c=>mul_add _ _ _
  show sm (fun c=>B a c*(mI c b+(if c=i/\b=m then u else 0))) n=_
  rw[sm_congr fun c _=>e c,sm_add]
  refine congr (congrArg HAdd.hAdd (mm_I hb a)) ?_
  split
  ·next h=>rw[sm_one hi fun c _ hc=>by rw[if_neg fun e=>hc e.1,mul_zero],if_pos ⟨rfl,h⟩]
  ·next h=>exact sm_zero fun c _=>by rw[if_neg fun e=>h e.2,mul_zero]
 have ei:∀ u v:R,u+v=0->Eqn n (mm n (fun a b=>mI a b+(if a=i/\b=m then u else 0)) (fun a b=>mI a b+(if a=i/\b=m then v else 0))) mI:=fun u v huv a b ha hb=>by
  rw[el _ _ a b ha hb]
  have e1:(mI m b+(if m=i/\b=m then v else 0):R)=mI m b:=by rw[if_neg fun e=>hne e.1.symm,add_zero]
  rw[e1,add_assoc]
  have e2:(if a=i/\b=m then v else 0)+(if a=i then u*mI m b else 0)=(0:R):=by
   by_cases h1:a=i
   ·rw[if_pos h1]
    by_cases h2:b=m
    ·rw[if_pos ⟨h1,h2⟩,show(mI m b:R)=1 from if_pos h2.symm,mul_one,add_comm,huv]
    ·rw[if_neg fun e=>h2 e.2,show(mI m b:R)=0 from if_neg fun e=>h2 e.symm,mul_zero,add_zero]
   ·rw[if_neg h1,if_neg fun e=>h1 e.1,add_zero]
  rw[e2,add_zero]
 refine⟨_,_,ei u (-u) (add_neg u),ei (-u) u (neg_add u),fun a b ha hb=>?_⟩
 rw[er _ _ a b ha hb,el _ _ a b ha hb]
 unfold rca
 rw[if_neg (show ¬ m=i from fun e=>hne e.symm)]
 by_cases h1:a=i
 ·rw[if_pos h1,if_pos h1,if_pos h1,h1,if_neg (show ¬ m=i from fun e=>hne e.symm)]
  by_cases h2:b=m
  ·rw[if_pos h2,if_pos h2,if_pos h2]
   exact RE.eq [A i b,A i i,u,A m b,A m i] (t0+t1*t2) (t0-t2*t3+t2*(t1-t2*t4)+t2*(t3+t2*t4)) rfl
  ·rw[if_neg h2,if_neg h2,if_neg h2]
   exact RE.eq [A i b,u,A m b] (t0+0) (t0-t1*t2+0+t1*(t2+0)) rfl
 ·rw[if_neg h1,if_neg h1,if_neg h1,add_zero]
  split
  ·rw[mul_comm]
  ·rfl
end
end Mx
instance : Fld Rat where
 add_assoc:=Rat.add_assoc
 add_comm:=Rat.add_comm
 add_zero:=Rat.add_zero
 add_neg:=Rat.add_neg_cancel
 sub_def:=Rat.sub_eq_add_neg
 mul_assoc:=Rat.mul_assoc
 mul_comm:=Rat.mul_comm
 mul_one:=Rat.mul_one
 mul_add:=Rat.mul_add
 inv:=Rat.inv
 mul_inv:=fun a h=>Rat.mul_inv_cancel a h
 one_ne:=by decide
theorem nc_rat : ∀ m : Nat, (nc m : Rat) = (m : Rat)
 | 0=>rfl
 | m+1=>by
  show nc m+1=((m+1:Nat):Rat)
  rw[nc_rat m]
  exact(Rat.natCast_add m 1).symm
end Go.Proofs.YtkmbnldginonbaaGreat
/- The method of Faddeev and LeVerrier; power sums. Plain: no program. -/
namespace Go.Proofs.YtkmbnldginonbaaGreat
open Crg Pol
namespace Mx
section
variable {R:Type} [Crg R] {n:Nat} {A:Nat->Nat->R} {c:Nat->R}
theorem mpw_add (A:Nat->Nat->R) (a b:Nat):Eqn n (mm n (mpw n A a) (mpw n A b)) (mpw n A (a+b)):=by
 induction a with
 | zero =>
  intro i j hi hj
  rw[Nat.zero_add]
  exact I_mm hi j
 | succ a ih =>
  intro i j hi hj
  rw[show a+1+b=a+b+1 by omega]
  show mm n (mm n A (mpw n A a)) (mpw n A b) i j=mm n A (mpw n A (a+b)) i j
  rw[mm_assoc]
  exact mm_congr (Eqn.refl A) ih i j hi hj
theorem dd_left (H:Nat->Nat->R) {i k:Nat} (h:i<k):dd H i k=dd H (i+1) k*H (i+1) i:=by
 induction k with
 | zero=>omega
 | succ k ih =>
  rw[dd_succ H (show i≤k by omega)]
  rcases Nat.lt_or_ge i k with h1 | h1
  ·rw[ih h1,dd_succ H (show i+1≤k by omega),mul_assoc,mul_comm (H (i+1) i),← mul_assoc]
  ·obtain rfl:i=k:=by omega
   rw[dd_self,dd_self]
structure Newt (n : Nat) (A : Nat → Nat → R) (c : Nat → R) : Prop where
 top:c n=1
 out:∀ m,n<m->c m=0
 id:∀ r,r≤n->sm (fun t=>c (n-r+t)*tr n (mpw n A t)) (r+1)=nc (n-r)*c (n-r)
 root:Eqn n (fun a b=>sm (fun t=>c t*mpw n A t a b) (n+1)) fun _ _=>0
theorem psum (h:Newt n A c) {k:Nat} (hk:1≤k):tr n (mpw n A k) = -(sm (fun i=>c (n-(i+1))*tr n (mpw n A (k-(i+1)))) (min (k-1) n))-(if k≤n then nc k*c (n-k)else 0):=by
 by_cases hn:k≤n
 ·rw[if_pos hn,show min (k-1) n=k-1 by omega]
  obtain⟨q,rfl⟩:∃ q,k=q+1:=⟨k-1,by omega⟩
  have e:=h.id (q+1) hn
  have e1:sm (fun t=>c (n-(q+1)+t)*tr n (mpw n A t)) (q+1+1)=c (n-(q+1))*nc n+sm (fun i=>c (n-(i+1))*tr n (mpw n A (q+1-(i+1)))) q+tr n (mpw n A (q+1)):=by
   show sm (fun t=>c (n-(q+1)+t)*tr n (mpw n A t)) (q+1)+c (n-(q+1)+(q+1))*tr n (mpw n A (q+1))=_
   rw[show n-(q+1)+(q+1)=n by omega,h.top,one_mul,sm_head,Nat.add_zero,show tr n (mpw n A 0)=nc n from tr_I n,sm_rev q (fun i=>c (n-(q+1)+(i+1))*tr n (mpw n A (i+1)))]
   refine congrArg (fun z=>c (n-(q+1))*nc n+z+tr n (mpw n A (q+1))) (sm_congr fun i hi=>?_)
   rw[show n-(q+1)+(q-1-i+1)=n-(i+1)by omega,show q-1-i+1=q+1-(i+1)by omega]
  have e4:(nc n:R)=nc (n-(q+1))+nc (q+1):=by rw[← nc_add];congr 1;omega
  rw[e1,e4]at e
  rw[Nat.add_sub_cancel]
  generalize sm (fun i=>c (n-(i+1))*tr n (mpw n A (q+1-(i+1)))) q=Z at *
  generalize tr n (mpw n A (q+1))=T at *
  generalize c (n-(q+1))=x at *
  generalize (nc (n-(q+1)):R)=a at *
  have e5:T=x*(a+nc (q+1))+Z+T-a*x+(-Z-nc (q+1)*x):=RE.eq [T,x,a,nc (q+1),Z] t0 (t1*(t2+t3)+t4+t0-t2*t1+(-t4-t3*t1)) rfl
  rw[e,sub_self,zero_add]at e5
  exact e5
 ·rw[if_neg hn,show min (k-1) n=n by omega,sub_zero]
  have e:tr n (mm n (mpw n A (k-n)) fun a b=>sm (fun t=>c t*mpw n A t a b) (n+1))=0:=by
   have e1:=mm_congr (Eqn.refl (mpw n A (k-n))) h.root
   rw[tr_congr e1]
   exact sm_zero fun i _=>sm_zero fun a _=>mul_zero _
  have e2:tr n (mm n (mpw n A (k-n)) fun a b=>sm (fun t=>c t*mpw n A t a b) (n+1))=sm (fun t=>c t*tr n (mpw n A (k-n+t))) (n+1):=by
   have e3:Eqn n (mm n (mpw n A (k-n)) fun a b=>sm (fun t=>c t*mpw n A t a b) (n+1)) fun a b=>sm (fun t=>c t*mpw n A (k-n+t) a b) (n+1):=fun i j hi hj=>by
    rw[mm_sm]
    exact sm_congr fun t _=>by rw[mm_sc,mpw_add A (k-n) t i j hi hj]
   rw[tr_congr e3,tr_sm]
   exact sm_congr fun t _=>tr_sc _
  rw[e2]at e
  change sm (fun t=>c t*tr n (mpw n A (k-n+t))) n+c n*tr n (mpw n A (k-n+n))=0 at e
  rw[h.top,one_mul,show k-n+n=k by omega,sm_rev n (fun t=>c t*tr n (mpw n A (k-n+t)))]at e
  have e6:sm (fun i=>c (n-1-i)*tr n (mpw n A (k-n+(n-1-i)))) n=sm (fun i=>c (n-(i+1))*tr n (mpw n A (k-(i+1)))) n:=sm_congr fun i hi=>by
   rw[show n-1-i=n-(i+1)by omega,show k-n+(n-(i+1))=k-(i+1)by omega]
  rw[e6]at e
  exact neg_eq e
end
section
variable {K:Type} [Fld K] {n:Nat} {A H:Nat->Nat->K}
theorem Newt.of_hess (hs : Sim n A H) (hh : Hess n H) : Newt n A (hp (wd H) n).f where
 top:=(hp_deg (wd H) n).2
 out:=(hp_deg (wd H) n).1
 id r hr:=by
  rw[← newton_hess hh hr]
  exact sm_congr fun t _=>by rw[hs.tr]
 root:=hs.root (root_hess hh)
end
end Mx
end Go.Proofs.YtkmbnldginonbaaGreat
/- The reduction to Hessenberg form, step by step. Plain: no program. -/
namespace Go.Proofs.YtkmbnldginonbaaGreat
open Crg Pol
namespace Mx
def pvf (A : Nat → Nat → Rat) (c : Nat) : Nat → Nat → Nat
 | 0,a=>a
 | k+1,a=>if A a c=0 then pvf A c k (a+1)else a
def pv (n:Nat) (A:Nat->Nat->Rat) (m:Nat):Nat:=pvf A (m-1) (n-m) m
theorem pvf_spec (A : Nat → Nat → Rat) (c : Nat) : ∀ k a, a ≤ pvf A c k a ∧ pvf A c k a ≤ a + k ∧ (∀ b, a ≤ b → b < pvf A c k a → A b c = 0) ∧ (pvf A c k a < a + k → A (pvf A c k a) c ≠ 0)
 | 0,a=>⟨Nat.le_refl a,Nat.le_refl a,fun b h1 h2=>absurd (show b<a from h2) (by omega),fun h=>absurd (show a<a+0 from h) (by omega)⟩
 | k+1,a=>by
  show a≤(if A a c=0 then pvf A c k (a+1)else a)/\(if A a c=0 then pvf A c k (a+1)else a)≤a+(k+1)/\(∀ b,a≤b->b<(if A a c=0 then pvf A c k (a+1)else a)->A b c=0)/\((if A a c=0 then pvf A c k (a+1)else a)<a+(k+1)->A (if A a c=0 then pvf A c k (a+1)else a) c≠0)
  by_cases h:A a c=0
  ·rw[if_pos h]
   obtain⟨h1,h2,h3,h4⟩:=pvf_spec A c k (a+1)
   refine⟨by omega,by omega,fun b hb hb2=>?_,fun hlt=>h4 (by omega)⟩
   rcases Nat.lt_or_ge a b with h5 | h5
   ·exact h3 b h5 hb2
   ·rw[show b=a by omega]
    exact h
  ·rw[if_neg h]
   exact⟨Nat.le_refl a,by omega,fun b h1 h2=>absurd h2 (by omega),fun _=>h⟩
theorem pvf_next {A:Nat->Nat->Rat} {c k a:Nat} (h:A a c=0):pvf A c (k+1) a=pvf A c k (a+1):=if_pos h
theorem pvf_stop {A:Nat->Nat->Rat} {c k a:Nat} (h:A a c≠0):pvf A c (k+1) a=a:=if_neg h
def sw (i j a:Nat):Nat:=if a=i then j else if a=j then i else a
theorem sw_sw (i j a:Nat):sw i j (sw i j a)=a:=by
 unfold sw
 by_cases h1:a=i
 ·rw[if_pos h1]
  by_cases h2:j=i
  ·rw[if_pos h2];omega
  ·rw[if_neg h2,if_pos rfl];omega
 ·rw[if_neg h1]
  by_cases h2:a=j
  ·rw[if_pos h2,if_pos rfl];omega
  ·rw[if_neg h2,if_neg h1,if_neg h2]
theorem sw_lt {i j a n:Nat} (hi:i<n) (hj:j<n) (ha:a<n):sw i j a<n:=by
 unfold sw
 split
 ·exact hj
 ·split
  ·exact hi
  ·exact ha
def ra (u:Rat) (i m:Nat) (A:Nat->Nat->Rat) (a b:Nat):Rat:=if a=i then A a b-u*A m b else A a b
def ca (u:Rat) (i m:Nat) (A:Nat->Nat->Rat) (a b:Nat):Rat:=if b=m then A a b+u*A a i else A a b
theorem ca_ra (u:Rat) (i m:Nat) (A:Nat->Nat->Rat):ca u i m (ra u i m A)=rca u i m A:=by
 funext a b
 unfold ca rca
 by_cases h:b=m
 ·rw[if_pos h,if_pos h]
  show ra u i m A a b+u*ra u i m A a i=_
  unfold ra
  rfl
 ·rw[if_neg h,if_neg h]
  show ra u i m A a b=_
  exact(Crg.add_zero (ra u i m A a b)).symm
def el1 (m i:Nat) (A:Nat->Nat->Rat):Nat->Nat->Rat:=if A i (m-1)=0 then A else ca (A i (m-1) / A m (m-1)) i m (ra (A i (m-1) / A m (m-1)) i m A)
def el (m : Nat) (A : Nat → Nat → Rat) : Nat → Nat → Nat → Rat
 | 0=>A
 | t+1=>el1 m (m+1+t) (el m A t)
def stp (n m:Nat) (A:Nat->Nat->Rat):Nat->Nat->Rat:=if pv n A m=n then A else el m (xch (sw (pv n A m) m) A) (n-1-m)
def hs (n : Nat) (A : Nat → Nat → Rat) : Nat → Nat → Nat → Rat
 | 0=>A
 | m+1=>if m=0 then A else stp n m (hs n A m)
def Zc (n m:Nat) (A:Nat->Nat->Rat):Prop:=∀ c i,c+1<m->c+1<i->i<n->A i c=0
structure ElI (n m t : Nat) (A0 A : Nat → Nat → Rat) : Prop where
 sim:Sim n A0 A
 z:Zc n m A
 p:A m (m-1)≠0
 c:∀ i,m<i->i≤m+t->i<n->A i (m-1)=0
theorem ElI.step {n m t:Nat} {A0 A:Nat->Nat->Rat} (h:ElI n m t A0 A) (hm:1≤m) (ht:m+1+t<n):ElI n m (t+1) A0 (el1 m (m+1+t) A):=by
 unfold el1
 by_cases h0:A (m+1+t) (m-1)=0
 ·rw[if_pos h0]
  refine⟨h.sim,h.z,h.p,fun i h1 h2 h3=>?_⟩
  rcases Nat.lt_or_ge i (m+1+t)with h4 | h4
  ·exact h.c i h1 (by omega) h3
  ·rw[show i=m+1+t by omega]
   exact h0
 ·rw[if_neg h0]
  generalize hu:A (m+1+t) (m-1) / A m (m-1)=u
  have hmu:u*A m (m-1)=A (m+1+t) (m-1):=by
   rw[← hu]
   exact Rat.div_mul_cancel h.p
  have hlow:∀ a c,c<m->ca u (m+1+t) m (ra u (m+1+t) m A) a c=if a=m+1+t then A a c-u*A m c else A a c:=fun a c hc=>if_neg (by omega)
  refine⟨h.sim.trans (by rw[ca_ra];exact Sim.add ht (by omega) (by omega) u A),fun c i h1 h2 h3=>?_,?_,fun i h1 h2 h3=>?_⟩
  ·rw[hlow i c (by omega)]
   split
   ·rw[h.z c i h1 h2 h3,h.z c m h1 (by omega) (by omega),Rat.mul_zero,Rat.sub_self]
   ·exact h.z c i h1 h2 h3
  ·rw[hlow m (m-1) (by omega),if_neg (by omega)]
   exact h.p
  ·rw[hlow i (m-1) (by omega)]
   split
   ·next e=>rw[hmu,e,Rat.sub_self]
   ·exact h.c i h1 (by omega) h3
theorem el_all {n m : Nat} {A0 A : Nat → Nat → Rat} (hm : 1 ≤ m) (h : ElI n m 0 A0 A) : ∀ t, m + t < n → ElI n m t A0 (el m A t)
 | 0,_=>h
 | t+1,ht=>(el_all hm h t (by omega)).step hm (by omega)
theorem pv_spec (n:Nat) (A:Nat->Nat->Rat) {m:Nat} (hm:m≤n):m≤pv n A m/\pv n A m≤n/\(∀ b,m≤b->b<pv n A m->A b (m-1)=0)/\(pv n A m<n->A (pv n A m) (m-1)≠0):=by
 obtain⟨h1,h2,h3,h4⟩:=pvf_spec A (m-1) (n-m) m
 exact⟨h1,by show pvf A (m-1) (n-m) m≤n;omega,h3,fun h=>h4 (by show pvf A (m-1) (n-m) m<_;have h:pvf A (m-1) (n-m) m<n:=h;omega)⟩
theorem stp_ok {n m:Nat} {A0 A:Nat->Nat->Rat} (h1:1≤m) (hm:m+1<n) (hs:Sim n A0 A) (hz:Zc n m A):Sim n A0 (stp n m A)/\Zc n (m+1) (stp n m A):=by
 obtain⟨p1,p2,p3,p4⟩:=pv_spec n A (show m≤n by omega)
 unfold stp
 by_cases e:pv n A m=n
 ·rw[if_pos e]
  refine⟨hs,fun c i h2 h3 h4=>?_⟩
  rcases Nat.lt_or_ge (c+1) m with h5 | h5
  ·exact hz c i h5 h3 h4
  ·rw[show c=m-1 by omega]
   exact p3 i (by omega) (by omega)
 ·rw[if_neg e]
  have hlt:pv n A m<n:=by omega
  have hsw:∀ a,a<m->sw (pv n A m) m a=a:=fun a ha=>by
   unfold sw
   rw[if_neg (by omega),if_neg (by omega)]
  have hsm:sw (pv n A m) m m=pv n A m:=by
   unfold sw
   split
   ·omega
   ·rw[if_pos rfl]
  have hge:∀ a,m≤a->m≤sw (pv n A m) m a:=fun a ha=>by
   unfold sw
   split
   ·exact Nat.le_refl m
   ·split
    ·exact p1
    ·exact ha
  have h0:ElI n m 0 A0 (xch (sw (pv n A m) m) A):=by
   refine⟨hs.trans (Sim.xch (fun i hi=>sw_lt hlt (by omega) hi) (fun i _=>sw_sw _ _ i) A),fun c i h2 h3 h4=>?_,?_,fun i h2 h3 _=>absurd h2 (by omega)⟩
   ·show A (sw (pv n A m) m i) (sw (pv n A m) m c)=0
    rw[hsw c (by omega)]
    rcases Nat.lt_or_ge i m with h5 | h5
    ·rw[hsw i h5]
     exact hz c i h2 h3 h4
    ·have:=hge i h5
     exact hz c _ h2 (by omega) (sw_lt hlt (by omega) h4)
   ·show A (sw (pv n A m) m m) (sw (pv n A m) m (m-1))≠0
    rw[hsw (m-1) (by omega),hsm]
    exact p4 hlt
  have hE:=el_all h1 h0 (n-1-m) (by omega)
  refine⟨hE.sim,fun c i h2 h3 h4=>?_⟩
  rcases Nat.lt_or_ge (c+1) m with h5 | h5
  ·exact hE.z c i h5 h3 h4
  ·rw[show c=m-1 by omega]
   exact hE.c i (by omega) (by omega) h4
theorem hs_ok (n : Nat) (A : Nat → Nat → Rat) : ∀ m, m + 1 ≤ n → Sim n A (hs n A m) ∧ Zc n m (hs n A m)
 | 0,_=>⟨Sim.of_eq (Eqn.refl A),fun c i h=>absurd h (by omega)⟩
 | m+1,hm=>by
  show Sim n A (if m=0 then A else stp n m (hs n A m))/\Zc n (m+1) (if m=0 then A else stp n m (hs n A m))
  by_cases e:m=0
  ·rw[if_pos e]
   exact⟨Sim.of_eq (Eqn.refl A),fun c i h=>absurd h (by omega)⟩
  ·rw[if_neg e]
   obtain⟨h1,h2⟩:=hs_ok n A m (by omega)
   exact stp_ok (by omega) (by omega) h1 h2
def hsn (n:Nat) (A:Nat->Nat->Rat):Nat->Nat->Rat:=hs n A (n-1)
theorem hsn_ok (n:Nat) (A:Nat->Nat->Rat):Sim n A (hsn n A)/\Hess n (hsn n A):=by
 by_cases h:n=0
 ·exact⟨by rw[show hsn n A=A by unfold hsn;rw[h];rfl];exact Sim.of_eq (Eqn.refl A),fun i k hi=>absurd hi (by omega)⟩
 ·obtain⟨h1,h2⟩:=hs_ok n A (n-1) (by omega)
  exact⟨h1,fun i k hi hk=>h2 k i (by omega) hk hi⟩
theorem newt_hsn (n:Nat) (A:Nat->Nat->Rat):Newt n A (hp (wd (hsn n A)) n).f:=Newt.of_hess (hsn_ok n A).1 (hsn_ok n A).2
end Mx
end Go.Proofs.YtkmbnldginonbaaGreat
/- Sizes of fractions; the program's operations on normalized ones. -/
namespace Go.Proofs.YtkmbnldginonbaaGreat
open Go.RowKit
namespace Mx
theorem q_add {x y:Rat} {L L':Nat} (hx:qlen x≤L) (hy:qlen y≤L') (h1:1≤L+L'):qlen (x+y)≤L+L'+1:=by
 have e:x+y=ratio (x.num*y.den+y.num*x.den) ((x.den:Int)*(y.den:Int)):=by
  rw[← ratio_add (by have:=x.den_nz;omega) (by have:=y.den_nz;omega),ratio_num_den,ratio_num_den]
 rw[e]
 unfold qlen at hx hy
 have a1:=zlen_mul x.num y.den
 have a2:=zlen_mul y.num x.den
 have a3:=zlen_add (x.num*y.den) (y.num*x.den)
 have a4:=zlen_mul (x.den:Int) (y.den:Int)
 exact qlen_ratio (by omega) (by omega) (by omega)
theorem q_neg (x:Rat):qlen (-x)=qlen x:=by unfold qlen;simp[zlen_neg]
theorem q_sub {x y:Rat} {L L':Nat} (hx:qlen x≤L) (hy:qlen y≤L') (h1:1≤L+L'):qlen (x-y)≤L+L'+1:=by
 rw[Rat.sub_eq_add_neg]
 exact q_add hx (by rw[q_neg];exact hy) h1
theorem q_mul {x y:Rat} {L L':Nat} (hx:qlen x≤L) (hy:qlen y≤L') (h1:1≤L+L'):qlen (x*y)≤L+L':=by
 have e:x*y=ratio (x.num*y.num) ((x.den:Int)*(y.den:Int)):=by
  rw[← ratio_mul,ratio_num_den,ratio_num_den]
 rw[e]
 unfold qlen at hx hy
 have a1:=zlen_mul x.num y.num
 have a2:=zlen_mul (x.den:Int) (y.den:Int)
 exact qlen_ratio (by omega) (by omega) h1
theorem q_div {x y:Rat} {L L':Nat} (hx:qlen x≤L) (hy:qlen y≤L') (h1:1≤L+L'):qlen (x / y)≤L+L':=by
 have e:x / y=ratio (x.num*y.den) ((x.den:Int)*y.num):=by
  rw[← ratio_div,ratio_num_den,ratio_num_den]
 rw[e]
 unfold qlen at hx hy
 have a1:=zlen_mul x.num y.den
 have a2:=zlen_mul (x.den:Int) y.num
 exact qlen_ratio (by omega) (by omega) h1
def Bq (n L:Nat) (A:Nat->Nat->Rat):Prop:=∀ i j,i<n->j<n->qlen (A i j)≤L
theorem ra_bq {n L L':Nat} {A:Nat->Nat->Rat} {u:Rat} {i m:Nat} (h:Bq n L A) (hu:qlen u≤L') (hm:m<n) (h1:1≤L):Bq n (L+(L'+L)+1) (ra u i m A):=fun a b ha hb=>by
 unfold ra
 split
 ·exact q_sub (h a b ha hb) (q_mul hu (h m b hm hb) (by omega)) (by omega)
 ·exact Nat.le_trans (h a b ha hb) (by omega)
theorem ca_bq {n L L':Nat} {A:Nat->Nat->Rat} {u:Rat} {i m:Nat} (h:Bq n L A) (hu:qlen u≤L') (hi:i<n) (h1:1≤L):Bq n (L+(L'+L)+1) (ca u i m A):=fun a b ha hb=>by
 unfold ca
 split
 ·exact q_add (h a b ha hb) (q_mul hu (h a i ha hi) (by omega)) (by omega)
 ·exact Nat.le_trans (h a b ha hb) (by omega)
theorem el1_bq {n L:Nat} {A:Nat->Nat->Rat} {m i:Nat} (h:Bq n L A) (hm:m<n) (hi:i<n) (h1:1≤L):Bq n (16*L) (el1 m i A):=by
 unfold el1
 split
 ·exact fun a b ha hb=>Nat.le_trans (h a b ha hb) (by omega)
 ·have hu:=q_div (h i (m-1) hi (by omega)) (h m (m-1) hm (by omega)) (by omega)
  have h2:=ra_bq (i:=i) h hu hm h1
  have h3:=ca_bq (m:=m) h2 hu hi (by omega)
  exact fun a b ha hb=>Nat.le_trans (h3 a b ha hb) (by omega)
theorem el_bq {n L : Nat} {A : Nat → Nat → Rat} {m : Nat} (h : Bq n L A) (h1 : 1 ≤ L) : ∀ t, m + t < n → Bq n (16 ^ t * L) (el m A t)
 | 0,_=>fun a b ha hb=>by rw[Nat.pow_zero,Nat.one_mul];exact h a b ha hb
 | t+1,ht=>by
  have hp:1≤16^t:=Nat.pow_pos (by omega)
  have h2:1≤16^t*L:=Nat.mul_le_mul hp h1
  have:=el1_bq (m:=m) (i:=m+1+t) (el_bq (m:=m) h h1 t (by omega)) (by omega) (by omega) h2
  rw[Nat.pow_succ,Nat.mul_right_comm,Nat.mul_comm _ 16]
  exact this
theorem xch_bq {n L:Nat} {A:Nat->Nat->Rat} {s:Nat->Nat} (h:Bq n L A) (hs:∀ a,a<n->s a<n):Bq n L (xch s A):=fun a b ha hb=>h _ _ (hs a ha) (hs b hb)
theorem stp_bq {n L:Nat} {A:Nat->Nat->Rat} {m:Nat} (h:Bq n L A) (h1:1≤L) (hm:m+1<n):Bq n (16^(n-1-m)*L) (stp n m A):=by
 obtain⟨p1,p2,p3,p4⟩:=pv_spec n A (show m≤n by omega)
 unfold stp
 split
 ·exact fun a b ha hb=>Nat.le_trans (h a b ha hb) (by
   have hp:1≤16^(n-1-m):=Nat.pow_pos (by omega)
   have:=Nat.mul_le_mul hp (Nat.le_refl L)
   omega)
 ·exact el_bq (xch_bq h fun a ha=>sw_lt (by omega) (by omega) ha) h1 _ (by omega)
def be (n : Nat) : Nat → Nat
 | 0=>0
 | m+1=>if m=0 then 0 else be n m+(n-1-m)
theorem hs_bq {n L : Nat} {A : Nat → Nat → Rat} (h : Bq n L A) (h1 : 1 ≤ L) : ∀ m, m + 1 ≤ n → Bq n (16 ^ be n m * L) (hs n A m)
 | 0,_=>fun a b ha hb=>by rw[show be n 0=0 from rfl,Nat.pow_zero,Nat.one_mul];exact h a b ha hb
 | m+1,hm=>by
  show Bq n (16^(if m=0 then 0 else be n m+(n-1-m))*L) (if m=0 then A else stp n m (hs n A m))
  by_cases e:m=0
  ·rw[if_pos e,if_pos e,Nat.pow_zero,Nat.one_mul]
   exact h
  ·rw[if_neg e,if_neg e]
   have hp:1≤16^be n m:=Nat.pow_pos (by omega)
   have h2:1≤16^be n m*L:=Nat.mul_le_mul hp h1
   have:=stp_bq (m:=m) (hs_bq h h1 m (by omega)) h2 (by omega)
   rw[Nat.pow_add,Nat.mul_comm (16^be n m),Nat.mul_assoc]
   exact this
/-! The program's operations. -/
theorem qsub_n {x y z:Rat} {L L':Nat} (hx:qlen x≤L) (hy:qlen y≤L') (h0:1≤L') (hL:L+L'+4≤LIM) (e:x-y=z):FnOK Tryz.prog true 50 [.g (nq x),.g (nq y)] (.g (nq z)):=by
 subst e
 have:=qsub_ok (q:=ofR x) (p:=ofR y) (ofR_fit hx) (ofR_fit hy) h0 hL
 rwa [ofR_val,ofR_val]at this
theorem qadd_n {x y z:Rat} {L L':Nat} (hx:qlen x≤L) (hy:qlen y≤L') (hL:L+L'+4≤LIM) (e:x+y=z):FnOK Tryz.prog true 93 [.g (nq x),.g (nq y)] (.g (nq z)):=by
 subst e
 have:=qadd_ok (q:=ofR x) (p:=ofR y) (ofR_fit hx) (ofR_fit hy) hL
 rwa [ofR_val,ofR_val]at this
theorem qmul_n {x y z:Rat} {L L':Nat} (hx:qlen x≤L) (hy:qlen y≤L') (hL:L+L'+3≤LIM) (e:x*y=z):FnOK Tryz.prog true 46 [.g (nq x),.g (nq y)] (.g (nq z)):=by
 subst e
 have:=qmul_ok (q:=ofR x) (p:=ofR y) (ofR_fit hx) (ofR_fit hy) hL
 rwa [ofR_val,ofR_val]at this
theorem qquo_n {x y z:Rat} {L L':Nat} (hx:qlen x≤L) (hy:qlen y≤L') (hL:L+L'+4≤LIM) (h0:y≠0) (e:x / y=z):FnOK Tryz.prog true 59 [.g (nq x),.g (nq y)] (.t2 (.g (nq z)) (.c (.int .i64 0))):=by
 subst e
 have:=qquo_ok (q:=ofR x) (p:=ofR y) (ofR_fit hx) (ofR_fit hy) hL (by rw[ofR_val];exact h0)
 rwa [ofR_val,ofR_val]at this
end Mx
end Go.Proofs.YtkmbnldginonbaaGreat
/- The polynomials of the leading blocks, summed up from the right. Plain: no program. -/
namespace Go.Proofs.YtkmbnldginonbaaGreat
open Crg Pol
namespace Mx
section
variable {R:Type} [Crg R]
noncomputable def nx (W:Nat->Nat->R) (k i j:Nat):R:=(if 1≤j then(hp W k).f (j-1)else 0)-sm (fun a=>W (i+a) k*(hp W (i+a)).f j) (k+1-i)
theorem nx_first (W:Nat->Nat->R) (k j:Nat):nx W k k j=(if 1≤j then(hp W k).f (j-1)else 0)-W k k*(hp W k).f j:=by
 unfold nx
 rw[show k+1-k=1 by omega]
 show _-(0+W (k+0) k*(hp W (k+0)).f j)=_
 rw[zero_add,Nat.add_zero]
theorem nx_next (W:Nat->Nat->R) {k i:Nat} (h:i<k) (j:Nat):nx W k i j=nx W k (i+1) j-W i k*(hp W i).f j:=by
 unfold nx
 rw[show k+1-i=k+1-(i+1)+1 by omega,sm_head,Nat.add_zero]
 have e:sm (fun a=>W (i+(a+1)) k*(hp W (i+(a+1))).f j) (k+1-(i+1))=sm (fun a=>W (i+1+a) k*(hp W (i+1+a)).f j) (k+1-(i+1)):=sm_congr fun a _=>by rw[show i+(a+1)=i+1+a by omega]
 rw[e]
 generalize sm (fun a=>W (i+1+a) k*(hp W (i+1+a)).f j) (k+1-(i+1))=Z
 generalize (if 1≤j then(hp W k).f (j-1)else 0)=Y
 exact RE.eq [Y,W i k,(hp W i).f j,Z] (t0-(t1*t2+t3)) (t0-t3-t1*t2) rfl
theorem nx_last (W:Nat->Nat->R) (k j:Nat):nx W k 0 j=(hp W (k+1)).f j:=by
 rw[hp_at]
 unfold nx
 refine congrArg (fun z:R=>(if 1≤j then(hp W k).f (j-1)else 0)-z) ?_
 rw[Nat.sub_zero]
 exact sm_congr fun a _=>by rw[Nat.zero_add]
theorem nx_break (W:Nat->Nat->R) {k i:Nat} (h:∀ a,a≤i->W a k=0) (hi:i≤k) (j:Nat):nx W k (i+1) j=(hp W (k+1)).f j:=by
 rw[← nx_last]
 have key:∀ t,t≤i+1->nx W k (i+1) j=nx W k (i+1-t) j:=by
  intro t
  induction t with
  | zero=>intro _;rfl
  | succ t ih =>
   intro ht
   rw[ih (by omega),show i+1-t=i+1-(t+1)+1 by omega]
   rcases Nat.lt_or_ge (i+1-(t+1)) k with h1 | h1
   ·rw[nx_next W h1,h _ (by omega),zero_mul,sub_zero]
   ·-- the first step
    obtain rfl:t=0:=by omega
    obtain rfl:i=k:=by omega
    rw[show i+1-(0+1)=i by omega,nx_first,h i (Nat.le_refl i),zero_mul,sub_zero]
    unfold nx
    rw[show i+1-(i+1)=0 by omega]
    exact sub_zero _
 have:=key (i+1) (Nat.le_refl _)
 rwa [Nat.sub_self]at this
theorem nx_deg (W:Nat->Nat->R) {k i:Nat}:(∀ j,k+1<j->nx W k i j=0)/\nx W k i (k+1)=1:=by
 refine⟨fun j hj=>?_,?_⟩
 ·unfold nx
  rw[if_pos (by omega),(hp_deg W k).1 _ (by omega),sm_zero fun a ha=>by rw[(hp_deg W (i+a)).1 j (by omega),mul_zero],sub_zero]
 ·unfold nx
  rw[if_pos (by omega),Nat.add_sub_cancel,(hp_deg W k).2,sm_zero fun a ha=>by rw[(hp_deg W (i+a)).1 _ (by omega),mul_zero],sub_zero]
theorem wd_zero (H:Nat->Nat->R) {i k:Nat} (h:dd H i k=0) (hi:i≤k):∀ a,a≤i->wd H a k=0:=by
 have key:∀ t,t≤i->dd H (i-t) k=0:=by
  intro t
  induction t with
  | zero=>intro _;exact h
  | succ t ih =>
   intro ht
   rw[dd_left H (show i-(t+1)<k by omega),show i-(t+1)+1=i-t by omega,ih (by omega),zero_mul]
 intro a ha
 unfold wd
 have:=key (i-a) (by omega)
 rw[show i-(i-a)=a by omega]at this
 rw[this,zero_mul]
end
end Mx
end Go.Proofs.YtkmbnldginonbaaGreat
/- Sizes of the polynomials of the leading blocks of a Hessenberg matrix. -/
namespace Go.Proofs.YtkmbnldginonbaaGreat
open Go.RowKit Crg Pol
namespace Mx
theorem q_zero:qlen 0≤1:=by decide
theorem q_one:qlen 1≤1:=by decide
theorem dd_bq {n K : Nat} {H : Nat → Nat → Rat} (h : Bq n K H) (i : Nat) : ∀ k, i ≤ k → k < n → qlen (dd H i k) ≤ (k - i) * K + 1
 | 0,hi,_=>by
  rw[Nat.zero_sub,Nat.zero_mul]
  exact q_one
 | k+1,hi,hk=>by
  rcases Nat.lt_or_ge i (k+1)with h1 | h1
  ·rw[dd_succ H (show i≤k by omega)]
   refine Nat.le_trans (q_mul (dd_bq h i k (by omega) (by omega)) (h (k+1) k hk (by omega)) (by omega)) ?_
   rw[show k+1-i=k-i+1 by omega,Nat.add_mul,Nat.one_mul]
   omega
  ·rw[show i=k+1 by omega,dd_self,Nat.sub_self,Nat.zero_mul]
   exact q_one
theorem wd_bq {n K:Nat} {H:Nat->Nat->Rat} (h:Bq n K H) (hn:n≤5) (hK:1≤K) {i k:Nat} (hi:i≤k) (hk:k<n):qlen (wd H i k)≤6*K:=by
 have h1:=q_mul (dd_bq h i k hi hk) (h i k (by omega) hk) (by omega)
 have h2:(k-i)*K≤4*K:=Nat.mul_le_mul_right K (by omega)
 exact Nat.le_trans h1 (by omega)
theorem dd_b5 {n K:Nat} {H:Nat->Nat->Rat} (h:Bq n K H) (hn:n≤5) (hK:1≤K) {i k:Nat} (hi:i≤k) (hk:k<n):qlen (dd H i k)≤5*K:=by
 have h1:=dd_bq h i k hi hk
 have h2:(k-i)*K≤4*K:=Nat.mul_le_mul_right K (by omega)
 omega
def PB (K k:Nat):Nat:=8*3^k*K
def ck (k i:Nat):Nat:=20*3^k-4*3^i+7*(k+1-i)
theorem ck_step {k i:Nat} (h:i<k):ck k i=ck k (i+1)+8*3^i+7:=by
 have h1:3^(i+1)≤3^k:=Nat.pow_le_pow_right (by omega) h
 unfold ck
 rw[Nat.pow_succ]at h1 ⊢
 omega
theorem ck_top (k:Nat):ck k k=16*3^k+7:=by
 unfold ck
 omega
theorem ck_le {k i:Nat} (hk:k≤4) (hi:i≤k):ck k i≤24*3^k:=by
 have h1:1≤3^i:=Nat.pow_pos (by omega)
 unfold ck
 rcases(show k=0∨k=1∨k=2∨k=3∨k=4 by omega)with rfl | rfl | rfl | rfl | rfl
 ·omega
 ·omega
 ·omega
 ·omega
 ·omega
theorem nx_bq {n K : Nat} {H : Nat → Nat → Rat} (h : Bq n K H) (hn : n ≤ 5) (hK : 1 ≤ K) {k : Nat} (hk : k < n) (hP : ∀ a, a ≤ k → ∀ j, qlen ((hp (wd H) a).f j) ≤ PB K a) : ∀ t, t ≤ k → ∀ j, qlen (nx (wd H) k (k - t) j) ≤ ck k (k - t) * K
 | 0,_,j=>by
  have h3:1≤3^k:=Nat.pow_pos (by omega)
  have hPk:8≤PB K k:=Nat.le_trans (by decide) (Nat.mul_le_mul (Nat.mul_le_mul_left 8 h3) hK)
  rw[Nat.sub_zero,nx_first,ck_top]
  have h1:qlen (if 1≤j then(hp (wd H) k).f (j-1)else 0)≤PB K k:=by
   split
   ·exact hP k (Nat.le_refl k) _
   ·exact Nat.le_trans q_zero (by omega)
  have h2:=q_sub h1 (q_mul (wd_bq h hn hK (Nat.le_refl k) hk) (hP k (Nat.le_refl k) j) (by omega)) (by omega)
  refine Nat.le_trans h2 ?_
  unfold PB at *
  rw[Nat.add_mul,show 16*3^k*K=8*3^k*K+8*3^k*K by rw[← Nat.add_mul];congr 1;omega]
  omega
 | t+1,ht,j=>by
  have ih:=nx_bq h hn hK hk hP t (by omega) j
  rw[show k-t=k-(t+1)+1 by omega]at ih
  rw[nx_next (wd H) (show k-(t+1)<k by omega),ck_step (show k-(t+1)<k by omega)]
  have hik:k-(t+1)<k:=by omega
  generalize k-(t+1)=i at *
  have h2:=q_sub ih (q_mul (wd_bq h hn hK (show i≤k by omega) hk) (hP i (by omega) j) (by omega)) (by omega)
  refine Nat.le_trans h2 ?_
  unfold PB
  rw[Nat.add_mul,Nat.add_mul]
  omega
theorem hp_bq {n K:Nat} {H:Nat->Nat->Rat} (h:Bq n K H) (hn:n≤5) (hK:1≤K):∀ k,k≤n->∀ j,qlen ((hp (wd H) k).f j)≤PB K k:=by
 have key:∀ m k,k≤m->k≤n->∀ j,qlen ((hp (wd H) k).f j)≤PB K k:=by
  intro m
  induction m with
  | zero =>
   intro k hk _ j
   obtain rfl:k=0:=by omega
   show qlen ((1:Pol Rat).f j)≤8*1*K
   rw[f_one]
   split
   ·exact Nat.le_trans q_one (by omega)
   ·exact Nat.le_trans q_zero (by omega)
  | succ m ih =>
   intro k hk hkn j
   rcases Nat.lt_or_ge k (m+1)with h1 | h1
   ·exact ih k (by omega) hkn j
   ·obtain rfl:k=m+1:=by omega
    have h2:=nx_bq h hn hK (show m<n by omega) (fun a ha=>ih a ha (by omega)) m (Nat.le_refl m) j
    rw[Nat.sub_self,nx_last]at h2
    refine Nat.le_trans h2 ?_
    unfold PB
    rw[show 8*3^(m+1)=24*3^m by rw[Nat.pow_succ];omega]
    exact Nat.mul_le_mul_right K (ck_le (by omega) (by omega))
 exact fun k=>key k k (Nat.le_refl k)
end Mx
end Go.Proofs.YtkmbnldginonbaaGreat
/- A call that is handed all blocks of its caller's and may exchange all but the first m of them. -/
namespace Go.Proofs.YtkmbnldginonbaaGreat
open Go.RowKit
def FnT (P:Program) (r:Bool) (f:FuncId) (m:Nat) (bl:List Blk) (args:List V) (X:V) (bl':List Blk):Prop :=
 hasBody P f=true/\∀(D0:Nat->Prop) (w0:Base) (ρ:List Loc) (w:World) (vs:List Value),Sat D0 w0 r ρ bl w->VRels (Dof D0 ρ bl) w ρ args vs ->
  Calls P f vs.toArray w fun e w'=>∃ v ρ',e = .returned v/\Sat D0 w0 r ρ' bl' w'/\LocsLe (ρ.take m) ρ'/\VRel (Dof D0 ρ' bl') w' ρ' X v
theorem fnt_okS {E : Env} (hE : EnvOK E) {f : FuncId} {fn : Func} {c : Code} {args : List V} {X : V} {bl post : List Blk} (hf : E.P.funcs[f]? = some fn) (hb : fn.body = some c) (hbd : hasBody E.P f = true)
  (h:Swp E fn.ntmps c ⟨frame0 args,bl⟩ (retS E fn.results.toList X E.m0 post)):FnT E.P E.r f E.m0 bl args X post:=by
 refine⟨hbd,?_⟩
 intro D w0 ρ w vs hs0 hargs
 refine calls_of_wp hf hb ?_
 let C:Ctx:=⟨D,w0,E.r,fn.ntmps,ρ.take E.m0⟩
 have hlen:=hargs.length
 have hle:LocsLe (ρ.take E.m0) ρ:=fun i l hl=>by
  rw[List.getElem?_take]at hl
  split at hl
  ·exact⟨l,hl,fun _=>rfl,Nat.le_refl _⟩
  ·cases hl
 have hrel:Rel C ⟨frame0 args,bl⟩ { tmps:=vs.toArray++Array.replicate (fn.ntmps-vs.toArray.size) undef,defers:=[] } w:=by
  refine⟨ρ,hs0,⟨by simp[C];omega,hle⟩,rfl,fun t=>?_⟩
  have h2:=hargs.get t
  show VRel (Dof D ρ bl) w ρ (args.getD t (.c .any)) _
  rcases Nat.lt_or_ge t vs.length with hlt | hge
  ·have:(vs.toArray++Array.replicate (fn.ntmps-vs.toArray.size) undef).getD t undef=vs.getD t undef:=by
    rw[Array.getD_eq_getD_getElem?,Array.getElem?_append_left (by simpa using hlt)]
    simp[List.getD]
   rw[this];exact h2
  ·rw[show args.getD t (V.c .any) = .c .any by rw[List.getD,List.getElem?_eq_none (by omega)];rfl]
   trivial
 refine wp_mono (h.run C _ _ rfl (by show(ρ.take E.m0).length≤E.m0;rw[List.length_take];omega) rfl hrel) ?_
 rintro e a w' ⟨σ,hr,hk⟩
 have fin:retS E fn.results.toList X E.m0 post .ret σ->a.defers=[]/\∃ v,(results fn a.tmps).run E.P w' = .ok v w'/\∃ u ρ',Ending.returned v = .returned u/\Sat D w0 E.r ρ' post w'/\LocsLe (ρ.take E.m0) ρ'/\VRel (Dof D ρ' post) w' ρ' X u:=by
  intro hk
  obtain⟨ρ1,hs,hN,hdf,hfr⟩:=hr
  refine⟨hdf,?_⟩
  simp only[retS]at hk
  split at hk
  ·rename_i v hv
   obtain⟨x,hx,hxr⟩:=ret_run hE hs hfr hv
   have hrel':Rel ⟨D,w0,E.r,0,ρ.take E.m0⟩ ⟨asg [(0,v)],σ.bl⟩ ⟨#[x],[]⟩ w':=by
    refine⟨ρ1,hs,⟨Nat.zero_le _,hN.2⟩,rfl,fun t=>?_⟩
    show VRel _ _ _ (if t=0 then v else .c .any) _
    split
    ·rename_i e;subst e;exact hxr
    ·trivial
   obtain⟨ρ2,hs2,hN2,_,hf2⟩:=hk ⟨D,w0,E.r,0,ρ.take E.m0⟩ _ _ (by show(ρ.take E.m0).length≤E.m0;rw[List.length_take];omega) hrel'
   exact⟨x,hx,x,ρ2,rfl,hs2,hN2.2,hf2 0⟩
  ·exact hk.elim
 cases e with
 | normal=>exact fin hk
 | ret=>exact fin hk
 | exit i=>exact hk.elim
 | goto l=>exact hk.elim
 | panic ch=>exact hk.elim
 | outgrown=>exact hk.elim
def OpGoT (E:Env) (m:Nat) (o:Oper) (σ σ':St):Prop:=∀ {C:Ctx} {a:Act} {w:World} {next:Act->World->Prop} {Q:Exit->Act->World->Prop},C.r=E.r->C.ρ0.length≤m->dstOK C.N o.dst->Rel C σ a w->(∀ a' w',Rel C σ' a' w'->next a' w')->o.wp E.P a w next Q
theorem aops_app2 {E : Env} (hE : EnvOK E) {C : Ctx} (hC : C.r = E.r) {ops : Array Oper} {Q : Exit → Act → World → Prop} {K : St → Prop} {l2 : List Oper} (hQ : ∀ σ a w, K σ → Rel C σ a w → wpList E.P ops Q l2 a w) :
  ∀(l:List Oper) (σ:St) (a:Act) (w:World),(∀ o∈l,dstOK C.N o.dst)->aops E ops l σ K->Rel C σ a w->wpList E.P ops Q (l++l2) a w
 | [],σ,a,w,_,h,hr=>hQ σ a w h hr
 | o :: rest,σ,a,w,hd,h,hr=>by
  have ih:=fun σ a w=>aops_app2 (ops:=ops) hE hC hQ rest σ a w (fun o ho=>hd o (by simp[ho]))
  rw[List.cons_append]
  unfold wpList
  simp only[aops]at h
  split at h
  ·rename_i hg
   rw[if_pos (by simp[Region.wanted,hg])]
   exact .inl (aop_sound hE hC h (hd o (by simp)) hr fun σ' a' w' hk hrel=>ih σ' a' w' hk hrel)
  ·rename_i g want hg
   split at h
   ·rename_i d b hgv
    have h:=cs_iff.1 h
    rw[gw_true,gw_false]at h
    obtain⟨hy,hv,hlt,htm⟩:=guard_val (a:=a) (w:=w) hgv (by obtain⟨ρ,hs,hN,hdf,hf⟩:=hr;exact fun d _=>⟨_,ρ,hf d⟩)
    have hwt:Region.wanted o (yielded ops a.tmps)=(b == want):=by
     unfold Region.wanted
     rw[hg]
     simp only[hy]
     rfl
    rw[hwt]
    by_cases e:b=want
    ·rw[if_pos (by simp[e])]
     refine .inl (aop_sound hE hC (h.1 e) (hd o (by simp)) (put_same hr fun D ρ=>?_) fun σ' a' w' hk hrel=>ih σ' a' w' hk hrel)
     rw[hv,e];rfl
    ·have e':b=!want:=by cases b <;> cases want <;> simp_all
     rw[if_neg (by simpa using e)]
     have h2:Rel C (σ.put (some d) (.c (.bool !want))) a w:=put_same hr fun D ρ=>by rw[hv,e'];rfl
     obtain⟨ρ,hs,hN,hdf,hf⟩:=h2
     exact ih _ _ _ (h.2 e') (Rel.put hs hN hdf hf (hd o (by simp)) rfl)
   ·split at h
    ·rename_i hgu
     have hy:=guard_un (a:=a) (w:=w) hgu (by obtain⟨ρ,hs,hN,hdf,hf⟩:=hr;exact fun d _=>⟨_,ρ,hf d⟩)
     have hwt:Region.wanted o (yielded ops a.tmps)=false:=by
      unfold Region.wanted
      rw[hg]
      simp only[hy]
      rfl
     rw[hwt,if_neg (by simp)]
     obtain⟨ρ,hs,hN,hdf,hf⟩:=hr
     exact ih _ _ _ h (Rel.put hs hN hdf hf (hd o (by simp)) rfl)
    ·exact h.elim
theorem OpGoT.call0 {E : Env} {m : Nat} {o : Oper} {σ : St} {g : Operand} {args : Array Operand} {ts : Array TypeId} (hx : o.op = .call { callee := .value g, args, argTypes := ts }) {f : FuncId} {cs : List Cell} (hg : calleeX σ g = some (f, cs)) (hst : ∀ B ∈ σ.bl, B.st = 0 ∨ 2 ≤ B.st) {X : V} {bl' : List Blk}
  (hS:FnT E.P E.r f m σ.bl ((args.toList.map fun x=>σ.ev x)++cs.map V.c) X bl') (hlt:∀ t,(σ.tm t).lt m=true):OpGoT E m o σ (St.put ⟨σ.tm,bl'⟩ o.dst X):=by
 intro C a w next Q hC hm hd hr hn
 obtain⟨ρ0,hs0,hN,hdf,hf0⟩:=hr
 have hev:∀ x,VRel (Dof C.D0 ρ0 σ.bl) w ρ0 (σ.ev x) (a.eval x):=fun x=>ev_rel hf0 x
 obtain⟨caps,hca,hcr⟩:=calleeX_eval hg (hev g)
 have s3:=hs0.rebase hst
 have hv2:VRels (Dof C.D0 ρ0 σ.bl) w ρ0 ((args.toList.map fun x=>σ.ev x)++cs.map V.c) (args.toList.map a.eval++caps.toList) :=
  (VRels.map args.toList fun x _=>hev x).append (VRels.cells (by simpa using hcr))
 rw[← hC]at hS
 unfold Oper.wp
 rw[exec_callc hx hca hS.1,Oper.upon_enter]
 have:=hS.2 _ _ _ _ _ s3 hv2
 rw[show(args.toList.map a.eval++caps.toList).toArray=args.map a.eval++caps by
  rw[← Array.toList_map,← Array.toList_append,Array.toArray_toList]]at this
 refine this.mono ?_
 rintro e w' ⟨v,ρ',rfl,q1,q2,q3⟩
 obtain⟨b1,b2,b3⟩:=hs0.unbase q1
 refine hn _ _ ?_
 have hf1:∀ t,VRel (Dof C.D0 ρ' bl') w' ρ' (σ.tm t) (a.tmps.getD t undef):=fun t =>
  ((hf0 t).take (hlt t)).step b2 b3 q2
 exact Rel.put (σ:=⟨σ.tm,bl'⟩) b1 ⟨hN.1,(hN.2.take hm).trans q2⟩ hdf hf1 hd q3
theorem swp_goT {E : Env} (hE : EnvOK E) {N id : Nat} {ops : Array Oper} {pre post : List Oper} {o : Oper} (hl : ops.toList = pre ++ o :: post) (hg : o.guard = none) (hdst : (ops.toList.all (dstB N)) = true) {σ : St} {R : Exit → St → Prop}
  (h:aops E ops pre σ fun τ=>∃ m τ',E.m0≤m/\OpGoT E m o τ τ'/\aops E ops post τ' (R .normal)):Swp E N (.region id ops false) σ R:=by
 refine⟨fun C a w h1 h2 h3 hr=>?_⟩
 have hdo:∀ o'∈ops.toList,dstOK C.N o'.dst:=by
  intro o' ho d hd'
  have:=List.all_eq_true.1 hdst o' ho
  unfold dstB at this
  rw[hd']at this
  rw[h3]
  simpa using this
 refine wp_region_list ?_
 rw[hl]at hdo ⊢
 refine aops_app2 hE h1 (fun τ a w hk hrel=>?_) pre σ a w (fun o' ho=>hdo o' (by simp[ho])) h hr
 obtain⟨m,τ',hm,hgo,hrest⟩:=hk
 unfold wpList
 rw[if_pos (by simp[Region.wanted,hg])]
 refine .inl (hgo h1 (Nat.le_trans h2 hm) (hdo o (by simp)) hrel fun a' w' hrel'=>?_)
 exact aops_sound hE h1 (fun σ a w hk hrel=>⟨σ,hrel,hk⟩) post _ a' w' (fun o' ho=>hdo o' (by simp[ho])) hrest hrel'
theorem Weak.genT0 {tm:Nat->V} {bl:List Blk} {tl:List (Nat × V)} {xs:List Gx} (pre:List Blk) (hp0:pre=[]) (hpre:bl.take pre.length=pre) (hst2:pre.all (fun B=>Nat.ble 2 B.st)=true) (ks:List (Option Nat)) (hi:injK ks=true) (hb:srcsG pre.length bl ks ks xs) (hl:allP tl fun p=>regV pre.length bl ks (tm p.1) p.2):(h0:ks[0]? = some (some 0))->(hu:∃ B,bl[0]? = some B/\B.u=0/\B.st≤1)->Weak 1 ⟨tm,bl⟩ ⟨asg tl,pre++xs.map gb⟩:=by
 rintro h0 ⟨B0,hB0,hu0,hst0⟩ C a w hm0 ⟨ρ,hs,hN,hdf,hf⟩
 obtain⟨hlen,hget⟩:=srcsG_get hb
 have hlb:bl.length=ρ.length:=hs.len.symm
 have hq:pre.length≤ρ.length:=by
  have:=congrArg List.length hpre
  rw[List.length_take]at this
  omega
 have hql:(ρ.take pre.length).length=pre.length:=by rw[List.length_take];omega
 have get:∀(j:Nat) (l:Loc) (B:Blk),(ρ.take pre.length++ks.map (locK ρ))[j]? = some l->(pre++xs.map gb)[j]? = some B->2≤B.st∨pre.length≤j/\((∃(k:Nat) (lk:Loc) (Bk:Blk),ks[j-pre.length]? = some (some k)/\ρ[k]? = some lk/\bl[k]? = some Bk/\l={ lk with u:=0 }/\B.t=Bk.t/\B.sz=Bk.sz/\B.n=Bk.n/\Bk.st=0/\B.st=0/\B.u=0/\∀ i j,i<B.n->j<B.sz->regC pre.length bl ks (B.f i j) fun y=>Bk.f i j=y)∨(l=⟨0,none,0,0⟩/\B.n=0/\B.u=0)):=by
  intro j l B e1 e2
  rcases Nat.lt_or_ge j pre.length with hj | hj
  ·left
   rw[List.getElem?_append_left hj]at e2
   exact Nat.le_of_ble_eq_true (List.all_eq_true.1 hst2 B (List.mem_of_getElem? e2))
  right
  refine⟨hj,?_⟩
  rw[List.getElem?_append_right (by omega),hql,List.getElem?_map]at e1
  rw[List.getElem?_append_right hj,List.getElem?_map]at e2
  cases hx:xs[j-pre.length]? with
  | none=>rw[hx]at e2;cases e2
  | some x =>
   rw[hx]at e2
   simp at e2
   obtain⟨k,hk,hsrc⟩:=hget _ x hx
   rw[hk]at e1
   simp at e1
   subst e1 e2
   cases k with
   | none=>exact .inr ⟨rfl,hsrc,rfl⟩
   | some k =>
    obtain⟨Bk,q1,q2,q3,q4,q5,q6⟩:=hsrc
    have hkl:k<ρ.length:=by rw[hs.len];exact(List.getElem?_eq_some_iff.1 q1).1
    refine .inl ⟨k,ρ[k],Bk,hk,List.getElem?_eq_getElem hkl,q1,?_,q2.symm,q3.symm,q4.symm,q5,rfl,rfl,q6⟩
    simp[locK,List.getD,List.getElem?_eq_getElem hkl]
 have hD:∀ b,Dof C.D0 (ρ.take pre.length++ks.map (locK ρ)) (pre++xs.map gb) b->Dof C.D0 ρ bl b:=by
  rintro b (hx | ⟨j,l,B,e1,e2,e3,e4⟩)
  ·exact .inl hx
  ·rcases get j l B e1 e2 with q0 | ⟨_,⟨k,lk,Bk,q1,q2,q3,q4,q5,q6,q7,q8,q9,q10⟩ | ⟨q1,q2⟩⟩
   ·omega
   ·subst q4
    exact .inr ⟨k,lk,Bk,q2,q3,q8,e4⟩
   ·subst q1;cases e4
 have at_j:∀ j k,pre.length.ble j=true->ks[j-pre.length]? = some k->(ρ.take pre.length++ks.map (locK ρ))[j]? = some (locK ρ k):=fun j k h1 h2=>by
  have:=Nat.le_of_ble_eq_true h1
  rw[List.getElem?_append_right (by omega),hql,List.getElem?_map,h2];rfl
 have out:∀(k:Nat) (l:Loc) (B:Blk) (b:Nat),ρ[k]? = some l->bl[k]? = some B->B.st≤1->l.b=some b->pre.length.ble k=true->(ks.any fun x=>x == some k)=false->¬ Dof C.D0 (ρ.take pre.length++ks.map (locK ρ)) (pre++xs.map gb) b:=by
  rintro k l B b p1 p2 p3 p4 p5 p6 (hx | ⟨j,l',B',e1,e2,e3,e4⟩)
  ·have h1:=hs.own p1 p2 p3 p4
   have h2:=hs.d0 b hx
   rcases h1 with h1 | h1
   ·have:=h2.1
    have h3:C.w0.heap.size≤b:=h1
    omega
   ·exact h2.2 h1
  ·rcases get j l' B' e1 e2 with q0 | ⟨_,⟨k',lk,Bk,q1,q2,q3,q4,q5,q6,q7,q8,q9,q10⟩ | ⟨q1,q2⟩⟩
   ·omega
   ·subst q4
    have:=hs.dist k k' l lk B Bk b p1 q2 p2 q3 p3 (by omega) p4 e4
    subst this
    have:=List.any_eq_false.1 p6 (some k) (List.mem_of_getElem? q1)
    simp at this
   ·subst q1;cases e4
 refine⟨ρ.take pre.length++ks.map (locK ρ),⟨hs.below,hs.d0,by rw[List.length_append,hql];simp[hlen],fun j l B e1 e2 hst=>?_,fun i j li lj Bi Bj b e1 e2 e3 e4 e5 e6 e7 e8=>?_,fun hr b o d hb=>hs.noU hr b o d (hD b hb)⟩,⟨hN.1,fun k l h=>?_⟩,hdf,fun t=>?_⟩
 ·rcases get j l B e1 e2 with q0 | ⟨_,⟨k,lk,Bk,q1,q2,q3,q4,q5,q6,q7,q8,q9,q10,q11⟩ | ⟨q1,q2,q3⟩⟩
  ·omega
  ·subst q4
   refine⟨q10.symm,?_⟩
   rcases(hs.at_ k lk Bk q2 q3 (by omega)).2 with⟨g1,g2,g3⟩ | ⟨b,cap,cs,g2,g3,g4,g5,g6,g7,g8,g9⟩
   ·exact .inl ⟨q7.trans g1,g2,g3⟩
   ·refine .inr ⟨b,cap,cs,g2,g3,by rw[q7];exact g4,by rw[q5];exact g5,by rw[q6];exact g6,by rw[q7];exact g7,g8,fun x y hx hy=>?_⟩
    obtain⟨u,hu,hur⟩:=g9 x y (by omega) (by omega)
    refine⟨u,by rw[q6];exact hu,?_⟩
    rw[if_pos q8]at hur
    rw[if_pos q9]
    exact regC_rel hs hD at_j out (q11 x y hx hy) fun z hz=>by subst hz;exact hur
  ·subst q1
   exact⟨q3.symm,.inl ⟨q2,rfl,rfl⟩⟩
 ·rcases get i li Bi e1 e3 with q0 | ⟨hi1,⟨k,lk,Bk,q1,q2,q3,q4,q5,q6,q7,q8,q9,q10⟩ | ⟨q1,q2⟩⟩
  ·omega
  ·rcases get j lj Bj e2 e4 with p0 | ⟨hj1,⟨k',lk',Bk',p1,p2,p3,p4,p5,p6,p7,p8,p9,p10⟩ | ⟨p1,p2⟩⟩
   ·omega
   ·subst q4 p4
    have:=hs.dist k k' lk lk' Bk Bk' b q2 p2 q3 p3 (by omega) (by omega) e7 e8
    subst this
    have:=injK_eq hi q1 p1
    omega
   ·subst p1;cases e8
  ·subst q1;cases e7
 ·obtain⟨l',h1,h2⟩:=hN.2 k l h
  have hk:k<1:=Nat.lt_of_lt_of_le (List.getElem?_eq_some_iff.1 h).1 hm0
  obtain rfl:k=0:=by omega
  subst hp0
  refine⟨l',?_,h2⟩
  have hu:=(hs.at_ 0 l' B0 h1 hB0 hst0).1
  show([]++ks.map (locK ρ))[0]? = some l'
  rw[List.nil_append,List.getElem?_map,h0]
  show some { ρ.getD 0 ⟨0,none,0,0⟩with u:=0 }=some l'
  rw[List.getD_eq_getElem?_getD,h1]
  show some { l' with u:=0 }=some l'
  cases l'
  simp only[Option.some.injEq,Loc.mk.injEq,and_true]
  simp_all
 ·rcases asg_mem tl t with e | e
  ·show VRel _ _ _ (asg tl t) _
   rw[e];trivial
  ·have e1:=allP_mem hl _ e
   have e2:VRel (Dof C.D0 ρ bl) w ρ (tm t) (a.tmps.getD t undef):=hf t
   show VRel _ _ _ (asg tl t) _
   generalize asg tl t=y at e1 ⊢
   have e1:regV pre.length bl ks (tm t) y:=e1
   have fin:∀ y:V,tm t=y/\y.clos=true->VRel (Dof C.D0 (ρ.take pre.length++ks.map (locK ρ)) (pre++xs.map gb)) w (ρ.take pre.length++ks.map (locK ρ)) y (a.tmps.getD t undef):=fun y h=>by
    rw[h.1]at e2
    exact(e2.clos h.2).step (Ext.refl _ _) (fun b _ hb=>hD b hb) (LocsLe.refl _)
   match y,e1 with
   | .c y,e1 =>
    exact regC_rel hs hD at_j out e1 fun x hx=>by
     have hx:tm t = .c x:=hx
     rw[hx]at e2
     exact e2
   | .g l,e1 =>
    rcases e1 with⟨h1,h2⟩ | ⟨l',h1,h2⟩
    ·exact fin _ ⟨h1,h2⟩
    ·rw[h1]at e2
     obtain⟨vs,h3,h4⟩:=e2
     exact⟨vs,h3,regL_rel hs hD at_j out h2 h4⟩
   | .t2 ..,e1=>exact fin _ e1
   | .t3 ..,e1=>exact fin _ e1
   | .t4 ..,e1=>exact fin _ e1
   | .un,e1=>exact fin _ e1
theorem Weak.genT {tm:Nat->V} {bl:List Blk} {tl:List (Nat × V)} {xs:List Gx} (ks:List (Option Nat)) (hi:injK ks=true) (h0:ks[0]? = some (some 0)) (hu:∃ B,bl[0]? = some B/\B.u=0/\B.st≤1) (hb:srcsG 0 bl ks ks xs) (hl:allP tl fun p=>regV 0 bl ks (tm p.1) p.2):Weak 1 ⟨tm,bl⟩ (gst tl xs) :=
 Weak.genT0 [] rfl rfl rfl ks hi hb hl h0 hu
theorem swp_cond {E:Env} {N:Nat} {c:Operand} {x y:Code} {σ:St} {R:Exit->St->Prop} {b:Bool} (hb:σ.ev c = .c (.bool b)) (h1:b=true->Swp E N x σ R) (h2:b=false->Swp E N y σ R):Swp E N (.cond c x y) σ R:=⟨fun C a w g1 g2 g3 hr=>by
 have he:a.eval c = .bool b:=by
  obtain⟨ρ,hs,hN,hdf,hf⟩:=hr
  have:=ev_rel hf c
  rw[hb]at this
  exact this
 exact wp_cond_split he (fun e=>(h1 e).run C a w g1 g2 g3 hr) (fun e=>(h2 e).run C a w g1 g2 g3 hr)⟩
theorem swp_mid {E:Env} {N:Nat} {x y:Code} {σ:St} {R:Exit->St->Prop} {α:Type} (S:α->St) (I:α->Prop) (h1:Swp E N x σ (seqR (fun σ'=>∃ a,I a/\Weak E.m0 σ' (S a)) R)) (h2:∀ a,I a->Swp E N y (S a) R):Swp E N (.seq x y) σ R:=by
 refine⟨fun C a w g1 g2 g3 hr=>?_⟩
 refine wp_seq (wp_mono (h1.run C a w g1 g2 g3 hr) ?_)
 rintro e a' w' ⟨σ',hrel,hk⟩
 cases e with
 | normal =>
  obtain⟨p,hp,hw⟩:=hk
  exact(h2 p hp).run C a' w' g1 g2 g3 (hw C a' w' g2 hrel)
 | _=>exact⟨σ',hrel,hk⟩
theorem Swp.mono {E:Env} {N:Nat} {x:Code} {σ:St} {R R':Exit->St->Prop} (h:Swp E N x σ R) (k:∀ e τ,R e τ->R' e τ):Swp E N x σ R':=by
 refine⟨fun C a w g1 g2 g3 hr=>wp_mono (h.run C a w g1 g2 g3 hr) ?_⟩
 rintro e a' w' ⟨σ',hrel,hk⟩
 exact⟨σ',hrel,k e σ' hk⟩
theorem swp_mid2 {E:Env} {N:Nat} {x y z:Code} {σ:St} {R:Exit->St->Prop} {α:Type} (S:α->St) (I:α->Prop) (h1:Swp E N x σ (seqR (fun σ1=>Swp E N y σ1 (seqR (fun σ'=>∃ a,I a/\Weak E.m0 σ' (S a)) R)) R)) (h2:∀ a,I a->Swp E N z (S a) R):Swp E N (.seq x (.seq y z)) σ R :=
 swp_seqS (h1.mono fun e τ h=>by
  cases e with
  | normal=>exact swp_mid S I h h2
  | _=>exact h)
theorem OpGoT.weak {E:Env} {m:Nat} {o:Oper} {σ σ1 σ':St} (h:Weak m σ σ1) (k:OpGoT E m o σ1 σ'):OpGoT E m o σ σ':=fun hC hm hd hr hn=>k hC hm hd (h _ _ _ hm hr) hn
theorem swp_weak {E:Env} {N:Nat} {c:Code} {σ σ2:St} {R:Exit->St->Prop} (hw:Weak E.m0 σ σ2) (h:Swp E N c σ2 R):Swp E N c σ R:=⟨fun C a w h1 h2 h3 hr=>h.run C a w h1 h2 h3 (hw C a w h2 hr)⟩
end Go.Proofs.YtkmbnldginonbaaGreat
/- A grid of rows of fractions that are written: what is told of it. -/
namespace Go.Proofs.YtkmbnldginonbaaGreat
open Go.RowKit
namespace Mx
abbrev gq (n:Nat) (v:Nat->Rat):Gx:=⟨38,4,n,qlF fun j=>ofR (v j)⟩
abbrev gG (n:Nat) (g:Nat->Nat):Gx:=⟨22,1,n,fun i _ => .gs (g i+1) 0⟩
abbrev idn (i:Nat):Nat:=i
theorem cells0 {Q:Nat->Nat->Prop}:∀ i j,i<0->j<1->Q i j:=fun i j hi hj=>by
 obtain rfl:j=0:=by omega
 omega
theorem cells1 {Q:Nat->Nat->Prop} (h0:Q 0 0):∀ i j,i<1->j<1->Q i j:=fun i j hi hj=>by
 obtain rfl:j=0:=by omega
 match i,hi with
 | 0,_=>exact h0
 | _+1,h=>exact absurd h (by omega)
theorem cells2 {Q:Nat->Nat->Prop} (h0:Q 0 0) (h1:Q 1 0):∀ i j,i<2->j<1->Q i j:=fun i j hi hj=>by
 obtain rfl:j=0:=by omega
 match i,hi with
 | 0,_=>exact h0
 | 1,_=>exact h1
 | _+2,h=>exact absurd h (by omega)
theorem cells3 {Q:Nat->Nat->Prop} (h0:Q 0 0) (h1:Q 1 0) (h2:Q 2 0):∀ i j,i<3->j<1->Q i j:=fun i j hi hj=>by
 obtain rfl:j=0:=by omega
 match i,hi with
 | 0,_=>exact h0
 | 1,_=>exact h1
 | 2,_=>exact h2
 | _+3,h=>exact absurd h (by omega)
theorem cells4 {Q:Nat->Nat->Prop} (h0:Q 0 0) (h1:Q 1 0) (h2:Q 2 0) (h3:Q 3 0):∀ i j,i<4->j<1->Q i j:=fun i j hi hj=>by
 obtain rfl:j=0:=by omega
 match i,hi with
 | 0,_=>exact h0
 | 1,_=>exact h1
 | 2,_=>exact h2
 | 3,_=>exact h3
 | _+4,h=>exact absurd h (by omega)
theorem cells5 {Q:Nat->Nat->Prop} (h0:Q 0 0) (h1:Q 1 0) (h2:Q 2 0) (h3:Q 3 0) (h4:Q 4 0):∀ i j,i<5->j<1->Q i j:=fun i j hi hj=>by
 obtain rfl:j=0:=by omega
 match i,hi with
 | 0,_=>exact h0
 | 1,_=>exact h1
 | 2,_=>exact h2
 | 3,_=>exact h3
 | 4,_=>exact h4
 | _+5,h=>exact absurd h (by omega)
theorem q_clos (v:Nat->Rat) (i j:Nat):(qlF (fun j=>ofR (v j)) i j).clos=true:=by
 match j with
 | 0=>rfl
 | 1=>rfl
 | 2=>rfl
 | 3=>rfl
 | j+4=>rfl
theorem row_keep {q:Nat} {bl:List Blk} {ks:List (Option Nat)} {v w:Nat->Rat} {i j:Nat} (h:w i=v i):regC q bl ks (qlF (fun j=>ofR (w j)) i j) fun y=>qlF (fun j=>ofR (v j)) i j=y:=regE (congrArg (fun x=>(rr (ofR x)).getD j .any) h.symm) (q_clos w i j)
theorem row_upd {q:Nat} {bl:List Blk} {ks:List (Option Nat)} {v w:Nat->Rat} {k i j:Nat} {x:Rat} (hj:j<4) (h:(if i=k then x else v i)=w i):regC q bl ks (qlF (fun j=>ofR (w j)) i j) fun y=>updF (qlF fun j=>ofR (v j)) k 0 (nq x) i j=y:=regE (updG (sz:=4) (g:=fun i=>nq (v i)) (g':=fun i=>nq (w i)) rfl hj (by rw[← h];split <;> rfl)) (q_clos w i j)
theorem row_upd2 {q:Nat} {bl:List Blk} {ks:List (Option Nat)} {v w:Nat->Rat} {k l i j:Nat} {x y:Rat} (hj:j<4) (h:(if i=l then y else if i=k then x else v i)=w i):regC q bl ks (qlF (fun j=>ofR (w j)) i j) fun z=>updF (updF (qlF fun j=>ofR (v j)) k 0 (nq x)) l 0 (nq y) i j=z:=by
 refine regE ?_ (q_clos w i j)
 have e:∀ a b,b<4->updF (qlF fun j=>ofR (v j)) k 0 (nq x) a b=qlF (fun a=>ofR (if a=k then x else v a)) a b:=fun a b hb=>updG (sz:=4) (g:=fun i=>nq (v i)) (g':=fun i=>nq (if i=k then x else v i)) rfl hb (by split <;> rfl)
 have e2:updF (updF (qlF fun j=>ofR (v j)) k 0 (nq x)) l 0 (nq y) i j=updF (qlF fun a=>ofR (if a=k then x else v a)) l 0 (nq y) i j:=by
  unfold updF at *
  split
  ·rfl
  ·exact e i j hj
 rw[e2]
 exact updG (sz:=4) (g:=fun i=>nq (if i=k then x else v i)) (g':=fun i=>nq (w i)) rfl hj (by rw[← h];split <;> rfl)
theorem rk {q k n:Nat} {bl:List Blk} {ks:List (Option Nat)} {v w:Nat->Rat} (h:bl[k]? = some ⟨38,4,n,0,0,qlF fun j=>ofR (v j)⟩) (e:∀ x,x<n->w x=v x):srcG q bl ks (gq n w) (some k):=⟨_,h,rfl,rfl,rfl,rfl,fun x _ hx _=>row_keep (e x hx)⟩
theorem rs {q k n:Nat} {bl:List Blk} {ks:List (Option Nat)} {v:Nat->Rat} (h:bl[k]? = some ⟨38,4,n,0,0,qlF fun j=>ofR (v j)⟩):srcG q bl ks (gq n v) (some k):=rk h fun _ _=>rfl
theorem ru {q k n i:Nat} {bl:List Blk} {ks:List (Option Nat)} {v w:Nat->Rat} {z:Rat} (h:bl[k]? = some ⟨38,4,n,0,0,updF (qlF fun j=>ofR (v j)) i 0 (nq z)⟩) (e:∀ x,(if x=i then z else v x)=w x):srcG q bl ks (gq n w) (some k):=⟨_,h,rfl,rfl,rfl,rfl,fun x _ _ hy=>row_upd hy (e x)⟩
theorem ixl {i:Int} {m:Nat} (e:decide (i<(m:Int))=true):i<(m:Int):=of_decide_eq_true e
theorem rgl {n:Int} (h:(decide (-9223372036854775808≤n)&&decide (n<9223372036854775808))=true):inR .i64 n:=by
 rw[Bool.and_eq_true]at h
 exact i64_range (of_decide_eq_true h.1) (of_decide_eq_true h.2)
theorem so {N:Nat} {c:Code} {σ:St} {R:Exit->St->Prop} (h:awp E1m c σ R) (hc:codeB N c=true:=by kernel_rfl):Swp E1m N c σ R:=swp_of E1m_ok mixed hc h
theorem sq {N:Nat} {x y:Code} {σ:St} {R:Exit->St->Prop} (h:awp E1m x σ (seqR (fun σ'=>∃ σ2,Weak E1m.m0 σ' σ2/\Swp E1m N y σ2 R) R)) (hc:codeB N x=true:=by kernel_rfl):Swp E1m N (.seq x y) σ R:=swp_seq E1m_ok mixed hc h
theorem gk3 {b1 b2 b3:Blk} {r:List Blk} {t:List (Option Nat)} (h:([b1,b2,b3].all fun b=>b.u == 0&&b.st == 0)=true):srcG 0 (gb (gG 3 idn) :: b1 :: b2 :: b3 :: r) (some 0 :: some 1 :: some 2 :: some 3 :: t) (gG 3 idn) (some 0):=by
 simp only[List.all_cons,List.all_nil,Bool.and_true,Bool.and_eq_true,beq_iff_eq]at h
 obtain⟨⟨u1,s1⟩,⟨u2,s2⟩,⟨u3,s3⟩⟩:=h
 exact⟨_,rfl,rfl,rfl,rfl,rfl,cells3 ⟨b1,rfl,by rw[u1],s1⟩ ⟨b2,rfl,by rw[u2],s2⟩ ⟨b3,rfl,by rw[u3],s3⟩⟩
theorem gk4 {b1 b2 b3 b4:Blk} {r:List Blk} {t:List (Option Nat)} (h:([b1,b2,b3,b4].all fun b=>b.u == 0&&b.st == 0)=true):srcG 0 (gb (gG 4 idn) :: b1 :: b2 :: b3 :: b4 :: r) (some 0 :: some 1 :: some 2 :: some 3 :: some 4 :: t) (gG 4 idn) (some 0):=by
 simp only[List.all_cons,List.all_nil,Bool.and_true,Bool.and_eq_true,beq_iff_eq]at h
 obtain⟨⟨u1,s1⟩,⟨u2,s2⟩,⟨u3,s3⟩,⟨u4,s4⟩⟩:=h
 exact⟨_,rfl,rfl,rfl,rfl,rfl,cells4 ⟨b1,rfl,by rw[u1],s1⟩ ⟨b2,rfl,by rw[u2],s2⟩ ⟨b3,rfl,by rw[u3],s3⟩ ⟨b4,rfl,by rw[u4],s4⟩⟩
theorem gk5 {b1 b2 b3 b4 b5:Blk} {r:List Blk} {t:List (Option Nat)} (h:([b1,b2,b3,b4,b5].all fun b=>b.u == 0&&b.st == 0)=true):srcG 0 (gb (gG 5 idn) :: b1 :: b2 :: b3 :: b4 :: b5 :: r) (some 0 :: some 1 :: some 2 :: some 3 :: some 4 :: some 5 :: t) (gG 5 idn) (some 0):=by
 simp only[List.all_cons,List.all_nil,Bool.and_true,Bool.and_eq_true,beq_iff_eq]at h
 obtain⟨⟨u1,s1⟩,⟨u2,s2⟩,⟨u3,s3⟩,⟨u4,s4⟩,⟨u5,s5⟩⟩:=h
 exact⟨_,rfl,rfl,rfl,rfl,rfl,cells5 ⟨b1,rfl,by rw[u1],s1⟩ ⟨b2,rfl,by rw[u2],s2⟩ ⟨b3,rfl,by rw[u3],s3⟩ ⟨b4,rfl,by rw[u4],s4⟩ ⟨b5,rfl,by rw[u5],s5⟩⟩
end Mx
end Go.Proofs.YtkmbnldginonbaaGreat
