/- Hessenberg matrices: the polynomials of the leading blocks; Newton's identities and the theorem of Cayley and Hamilton for them. Plain: no program. -/
import Derived.Test.YtkmbnldginonbaaGreatHm9
import Derived.Test.YtkmbnldginonbaaGreatHm4
namespace Go.Proofs.YtkmbnldginonbaaGreat
open Crg Pol
namespace Mx
section
variable {R:Type} [Crg R]
noncomputable def hps (W : Nat → Nat → R) : Nat → Nat → Pol R
 | 0=>fun _=>1
 | k+1=>fun i=>if i≤k then hps W k i else X*hps W k k-sm (fun i=>C (W i k)*hps W k i) (k+1)
noncomputable def hp (W:Nat->Nat->R) (k:Nat):Pol R:=hps W k k
variable {W:Nat->Nat->R} {n:Nat}
theorem hps_le (W : Nat → Nat → R) : ∀ {k i : Nat}, i ≤ k → hps W k i = hp W i
 | 0,i,h=>by
  obtain rfl:i=0:=by omega
  rfl
 | k+1,i,h=>by
  rcases Nat.lt_or_ge i (k+1)with h1 | h1
  ·show(if i≤k then hps W k i else _)=_
   rw[if_pos (by omega),hps_le W (by omega)]
  ·obtain rfl:i=k+1:=by omega
   rfl
theorem hp_succ (W:Nat->Nat->R) (k:Nat):hp W (k+1)=X*hp W k-sm (fun i=>C (W i k)*hp W i) (k+1):=by
 show(if k+1≤k then hps W k (k+1)else X*hps W k k-sm (fun i=>C (W i k)*hps W k i) (k+1))=_
 rw[if_neg (by omega)]
 show X*hp W k-_=_
 rw[sm_congr fun i hi=>by rw[hps_le W (show i≤k by omega)]]
theorem sm_f (f : Nat → Pol R) (j : Nat) : ∀ m, (sm f m).f j = sm (fun i => (f i).f j) m
 | 0=>rfl
 | m+1=>by
  show(sm f m+f m).f j=sm (fun i=>(f i).f j) m+(f m).f j
  rw[f_add,sm_f f j m]
theorem X_mul_at (a:Pol R) (j:Nat):(X*a).f j=if 1≤j then a.f (j-1)else 0:=by
 show(mn 1 1*a).f j=_
 rw[mn_mul]
 split
 ·rw[one_mul]
 ·rfl
theorem hp_at (W:Nat->Nat->R) (k j:Nat):(hp W (k+1)).f j=(if 1≤j then(hp W k).f (j-1)else 0)-sm (fun i=>W i k*(hp W i).f j) (k+1):=by
 rw[hp_succ,f_sub,X_mul_at,sm_f]
 rw[sm_congr fun i _=>C_mul (W i k) (hp W i) j]
theorem hp_deg (W:Nat->Nat->R):∀ k,(∀ j,k<j->(hp W k).f j=0)/\(hp W k).f k=1:=by
 have key:∀ m k,k≤m->(∀ j,k<j->(hp W k).f j=0)/\(hp W k).f k=1:=by
  intro m
  induction m with
  | zero =>
   intro k hk
   obtain rfl:k=0:=by omega
   exact⟨fun j hj=>(f_one j).trans (if_neg (by omega)),rfl⟩
  | succ m ih =>
   intro k hk
   rcases Nat.lt_or_ge k (m+1)with h | h
   ·exact ih k (by omega)
   ·obtain rfl:k=m+1:=by omega
    refine⟨fun j hj=>?_,?_⟩
    ·rw[hp_at,if_pos (by omega),(ih m (Nat.le_refl m)).1 _ (by omega),sm_zero fun i hi=>by rw[(ih i (by omega)).1 j (by omega),mul_zero],sub_self]
    ·rw[hp_at,if_pos (by omega),Nat.add_sub_cancel,(ih m (Nat.le_refl m)).2,sm_zero fun i hi=>by rw[(ih i (by omega)).1 _ (by omega),mul_zero],sub_zero]
 exact fun k=>key k k (Nat.le_refl k)
def um (W:Nat->Nat->R) (i k:Nat):R:=if i=k+1 then 1 else if i≤k then W i k else 0
theorem um_sum (f:Nat->R) {k:Nat} (hk:k<n):sm (fun a=>f a*um W a k) n=sm (fun a=>f a*W a k) (k+1)+(if k+1<n then f (k+1)else 0):=by
 have e0:sm (fun a=>f a*um W a k) (k+1)=sm (fun a=>f a*W a k) (k+1):=sm_congr fun a ha=>by
  unfold um
  rw[if_neg (by omega),if_pos (by omega)]
 split
 ·next h =>
  rw[sm_more (n:=k+2) (fun a ha=>by
   unfold um
   rw[if_neg (by omega),if_neg (by omega),mul_zero]) (by omega)]
  show sm (fun a=>f a*um W a k) (k+1)+f (k+1)*um W (k+1) k=_
  rw[e0,show um W (k+1) k=1 from if_pos rfl,mul_one]
 ·obtain rfl:n=k+1:=by omega
  rw[e0,add_zero]
noncomputable def tm (W:Nat->Nat->R) (j k:Nat):R:=(hp W k).f j
theorem tm_link (W:Nat->Nat->R) (n:Nat):Eqn n (mm n (cm n (hp W n).f) (tm W)) (mm n (tm W) (um W)):=fun j k hj hk=>by
 rw[cm_mm hj]
 show _=sm (fun a=>tm W j a*um W a k) n
 rw[um_sum (fun a=>tm W j a) hk]
 have e:(if 1≤j then tm W (j-1) k else 0)=tm W j (k+1)+sm (fun a=>tm W j a*W a k) (k+1):=by
  show _=(hp W (k+1)).f j+_
  rw[hp_at,sub_def,add_assoc,show sm (fun a=>tm W j a*W a k) (k+1)=sm (fun i=>W i k*(hp W i).f j) (k+1)from sm_congr fun i _=>mul_comm _ _,neg_add,add_zero]
  rfl
 rw[e]
 by_cases h:k+1<n
 ·rw[if_pos h,show tm W (n-1) k=0 from(hp_deg W k).1 _ (by omega),mul_zero,sub_zero,add_comm]
 ·obtain rfl:n=k+1:=by omega
  rw[if_neg h,add_zero,show tm W (k+1-1) k=1 from(hp_deg W k).2,mul_one]
  show tm W j (k+1)+_-tm W j (k+1)=_
  rw[sub_def,add_comm (tm W j (k+1)),add_assoc,add_neg,add_zero]
def sv (n:Nat) (W:Nat->Nat->R) (j k:Nat):R:=mpw n (um W) k j 0
theorem cm_e {c : Nat → R} : ∀ k, k < n → ∀ j, j < n → mpw n (cm n c) k j 0 = if j = k then 1 else 0
 | 0,_,j,_=>rfl
 | k+1,hk,j,hj=>by
  show mm n (cm n c) (mpw n (cm n c) k) j 0=_
  rw[cm_mm hj,cm_e k (by omega) (n-1) (by omega),if_neg (show ¬ n-1=k by omega),mul_zero,sub_zero]
  split
  ·rw[cm_e k (by omega) (j-1) (by omega)]
   by_cases e:j=k+1
   ·rw[if_pos (by omega),if_pos e]
   ·rw[if_neg (by omega),if_neg e]
  ·rw[if_neg (by omega)]
theorem tm_sv (W:Nat->Nat->R) (n:Nat):Eqn n (mm n (tm W) (sv n W)) mI:=fun j k hj hk=>by
 show mm n (tm W) (mpw n (um W) k) j 0=_
 rw[← mpw_link (tm_link W n) k j 0 hj (by omega)]
 show sm (fun a=>mpw n (cm n (hp W n).f) k j a*(hp W 0).f a) n=_
 rw[sm_one (k:=0) (by omega) fun a _ ha=>by rw[(hp_deg W 0).1 a (by omega),mul_zero],(hp_deg W 0).2,mul_one,cm_e k hk j hj]
 rfl
theorem sv_tm (W:Nat->Nat->R) (n:Nat):∀ k,k<n->∀ j,j<n->mm n (sv n W) (tm W) j k=mI j k:=by
 have key:∀ m k,k≤m->k<n->∀ j,j<n->mm n (sv n W) (tm W) j k=mI j k:=by
  intro m
  induction m with
  | zero =>
   intro k hk hn j hj
   obtain rfl:k=0:=by omega
   show sm (fun a=>sv n W j a*(hp W 0).f a) n=_
   rw[sm_one (k:=0) hn fun a _ ha=>by rw[(hp_deg W 0).1 a (by omega),mul_zero],(hp_deg W 0).2,mul_one]
   rfl
  | succ m ih =>
   intro k hk hn j hj
   rcases Nat.lt_or_ge k (m+1)with h | h
   ·exact ih k (by omega) hn j hj
   ·obtain rfl:k=m+1:=by omega
    -- the next polynomial: multiplied by x, less the sum
    have e1:mm n (sv n W) (tm W) j (m+1)=sm (fun a=>sv n W j a*(if 1≤a then tm W (a-1) m else 0)) n-sm (fun i=>W i m*mm n (sv n W) (tm W) j i) (m+1):=by
     have e2:∀ a,sv n W j a*tm W a (m+1)=sv n W j a*(if 1≤a then tm W (a-1) m else 0) + -(sm (fun i=>W i m*(sv n W j a*tm W a i)) (m+1)):=fun a=>by
      show sv n W j a*(hp W (m+1)).f a=_
      rw[hp_at,sub_def,mul_add,mul_neg,mul_sm]
      refine congrArg (_ + -·) (sm_congr fun i _=>?_)
      exact mul_left_comm _ _ _
     show sm (fun a=>sv n W j a*tm W a (m+1)) n=_
     rw[sm_congr fun a _=>e2 a,sm_add,sm_neg,← sub_def,sm_swap (fun a i=>W i m*(sv n W j a*tm W a i)) (m+1) n]
     refine congrArg (_-·) (sm_congr fun i _=>?_)
     exact(mul_sm _ _ _).symm
    have e3:sm (fun a=>sv n W j a*(if 1≤a then tm W (a-1) m else 0)) n=mm n (um W) (fun x y=>mm n (sv n W) (tm W) x y) j m:=by
     obtain⟨q,rfl⟩:∃ q,n=q+1:=⟨n-1,by omega⟩
     rw[sm_head,if_neg (by omega),mul_zero,zero_add]
     have e4:∀ a,sv (q+1) W j (a+1)*(if 1≤a+1 then tm W (a+1-1) m else 0)=mm (q+1) (um W) (sv (q+1) W) j a*tm W a m:=fun a=>by
      rw[if_pos (by omega),Nat.add_sub_cancel]
      rfl
     rw[sm_congr fun a _=>e4 a]
     show _=mm (q+1) (um W) (mm (q+1) (sv (q+1) W) (tm W)) j m
     rw[← mm_assoc]
     show _=sm (fun a=>mm (q+1) (um W) (sv (q+1) W) j a*tm W a m) q+mm (q+1) (um W) (sv (q+1) W) j q*tm W q m
     rw[show tm W q m=0 from(hp_deg W m).1 q (by omega),mul_zero,add_zero]
    have e5:mm n (um W) (fun x y=>mm n (sv n W) (tm W) x y) j m=um W j m:=by
     show sm (fun a=>um W j a*mm n (sv n W) (tm W) a m) n=_
     rw[sm_congr fun a ha=>by rw[ih m (Nat.le_refl m) (by omega) a ha]]
     exact mm_I (show m<n by omega) j
    have e6:sm (fun i=>W i m*mm n (sv n W) (tm W) j i) (m+1)=if j≤m then W j m else 0:=by
     rw[sm_congr fun i hi=>by rw[ih i (by omega) (by omega) j hj]]
     split
     ·rw[sm_one (k:=j) (by omega) fun i _ hi=>by rw[show(mI j i:R)=0 from if_neg fun e=>hi e.symm,mul_zero],show(mI j j:R)=1 from if_pos rfl,mul_one]
     ·exact sm_zero fun i hi=>by rw[show(mI j i:R)=0 from if_neg (by omega),mul_zero]
    rw[e1,e3,e5,e6]
    unfold um mI
    by_cases h1:j=m+1
    ·rw[if_pos h1,if_pos h1,if_neg (by omega),sub_zero]
    ·rw[if_neg h1,if_neg h1]
     exact sub_self _
 exact fun k=>key k k (Nat.le_refl k)
theorem newton_um (W:Nat->Nat->R) {n r:Nat} (hr:r≤n):sm (fun t=>(hp W n).f (n-r+t)*tr n (mpw n (um W) t)) (r+1)=nc (n-r)*(hp W n).f (n-r):=by
 rw[← newton_cm (hp_deg W n).2 (hp_deg W n).1 hr]
 refine sm_congr fun t _=>?_
 rw[tr_link (tm_link W n) (tm_sv W n) (fun i j hi hj=>sv_tm W n j hj i hi)]
theorem root_um (W:Nat->Nat->R) (n:Nat):Eqn n (fun a b=>sm (fun t=>(hp W n).f t*mpw n (um W) t a b) (n+1)) fun _ _=>0:=fun i j hi hj=>by
 have e1:Eqn n (mm n (tm W) fun a b=>sm (fun t=>(hp W n).f t*mpw n (um W) t a b) (n+1)) fun _ _=>0:=fun i j hi hj=>by
  rw[mm_sm]
  have e2:∀ t,mm n (tm W) (fun a b=>(hp W n).f t*mpw n (um W) t a b) i j=(hp W n).f t*mm n (mpw n (cm n (hp W n).f) t) (tm W) i j:=fun t=>by
   rw[mm_sc,mpw_link (tm_link W n) t i j hi hj]
  rw[sm_congr fun t _=>e2 t]
  show sm (fun t=>(hp W n).f t*sm (fun a=>mpw n (cm n (hp W n).f) t i a*tm W a j) n) (n+1)=0
  rw[sm_congr fun t _=>mul_sm _ _ _,sm_swap (fun t a=>(hp W n).f t*(mpw n (cm n (hp W n).f) t i a*tm W a j)) n (n+1)]
  refine sm_zero fun a ha=>?_
  rw[sm_congr fun t _=>(mul_assoc ((hp W n).f t) (mpw n (cm n (hp W n).f) t i a) (tm W a j)).symm,← sm_mul]
  have h:=root_cm (hp_deg W n).2 (hp_deg W n).1 i a hi ha
  dsimp only at h
  rw[h,zero_mul]
 have e3:=mm_congr (Eqn.refl (sv n W)) e1 i j hi hj
 rw[← mm_assoc,mm_congr (C:=mI) (fun a b ha hb=>sv_tm W n b hb a ha) (Eqn.refl _) i j hi hj,I_mm hi]at e3
 exact e3.trans (sm_zero fun a _=>mul_zero _)
end
end Mx
end Go.Proofs.YtkmbnldginonbaaGreat
/- Hessenberg matrices over a field, any subdiagonal: through a polynomial parameter. Plain: no program. -/
namespace Go.Proofs.YtkmbnldginonbaaGreat
open Crg Pol
namespace Mx
section
variable {R:Type} [Crg R]
def dd (H : Nat → Nat → R) (i : Nat) : Nat → R
 | 0=>1
 | k+1=>if i≤k then dd H i k*H (k+1) k else 1
theorem dd_self (H : Nat → Nat → R) : ∀ i, dd H i i = 1
 | 0=>rfl
 | i+1=>if_neg (by omega)
theorem dd_succ (H:Nat->Nat->R) {i k:Nat} (h:i≤k):dd H i (k+1)=dd H i k*H (k+1) k:=if_pos h
theorem dd_mul (H : Nat → Nat → R) {i : Nat} : ∀ {k : Nat}, i ≤ k → dd H 0 i * dd H i k = dd H 0 k
 | 0,h=>by
  obtain rfl:i=0:=by omega
  exact mul_one _
 | k+1,h=>by
  rcases Nat.lt_or_ge i (k+1)with h1 | h1
  ·rw[dd_succ H (show i≤k by omega),dd_succ H (Nat.zero_le k),← mul_assoc,dd_mul H (show i≤k by omega)]
  ·obtain rfl:i=k+1:=by omega
   rw[dd_self,mul_one]
def wd (H:Nat->Nat->R) (i k:Nat):R:=dd H i k*H i k
def dg (H:Nat->Nat->R) (i j:Nat):R:=if i=j then dd H 0 i else 0
variable {n:Nat} {H:Nat->Nat->R}
def Hess (n:Nat) (H:Nat->Nat->R):Prop:=∀ i k,i<n->k+1<i->H i k=0
theorem dg_link (h:Hess n H):Eqn n (mm n H (dg H)) (mm n (dg H) (um (wd H))):=fun i k hi hk=>by
 show sm (fun a=>H i a*(if a=k then dd H 0 a else 0)) n=sm (fun a=>(if i=a then dd H 0 i else 0)*um (wd H) a k) n
 rw[sm_one hk fun a _ ha=>by rw[if_neg ha,mul_zero],if_pos rfl,sm_one hi fun a _ ha=>by rw[if_neg fun e=>ha e.symm,zero_mul],if_pos rfl]
 unfold um wd
 by_cases h1:i=k+1
 ·subst h1
  rw[if_pos rfl,mul_one,dd_succ H (Nat.zero_le k),mul_comm]
 ·rw[if_neg h1]
  by_cases h2:i≤k
  ·rw[if_pos h2,← mul_assoc,dd_mul H h2,mul_comm]
  ·rw[if_neg h2,mul_zero,h i k hi (by omega),zero_mul]
theorem dg_pow (h:Hess n H) (t:Nat) {i k:Nat} (hi:i<n) (hk:k<n):mpw n H t i k*dd H 0 k=dd H 0 i*mpw n (um (wd H)) t i k:=by
 have e:=mpw_link (dg_link h) t i k hi hk
 change sm (fun a=>mpw n H t i a*(if a=k then dd H 0 a else 0)) n=sm (fun a=>(if i=a then dd H 0 i else 0)*mpw n (um (wd H)) t a k) n at e
 rwa [sm_one hk fun a _ ha=>by rw[if_neg ha,mul_zero],if_pos rfl,sm_one hi fun a _ ha=>by rw[if_neg fun e=>ha e.symm,zero_mul],if_pos rfl]at e
/-! Maps. -/
variable {S:Type} [Crg S] {φ:R->S}
theorem sm_map (h : Hm φ) (f : Nat → R) : ∀ m, φ (sm f m) = sm (fun i => φ (f i)) m
 | 0=>h.zero
 | m+1=>by
  show φ (sm f m+f m)=_
  rw[h.add,sm_map h f m]
  rfl
theorem nc_map (h : Hm φ) : ∀ m, φ (nc m) = nc m
 | 0=>h.zero
 | m+1=>by
  show φ (nc m+1)=nc m+1
  rw[h.add,nc_map h m,h.one]
theorem mpw_map (h : Hm φ) (n : Nat) (H : Nat → Nat → R) : ∀ t i j, φ (mpw n H t i j) = mpw n (fun a b => φ (H a b)) t i j
 | 0,i,j=>by
  show φ (if i=j then 1 else 0)=if i=j then 1 else 0
  split
  ·exact h.one
  ·exact h.zero
 | t+1,i,j=>by
  show φ (sm (fun a=>H i a*mpw n H t a j) n)=sm (fun a=>φ (H i a)*mpw n (fun a b=>φ (H a b)) t a j) n
  rw[sm_map h]
  exact sm_congr fun a _=>by rw[h.mul,mpw_map h n H t a j]
theorem tr_map (h:Hm φ) (n:Nat) (H:Nat->Nat->R) (t:Nat):φ (tr n (mpw n H t))=tr n (mpw n (fun a b=>φ (H a b)) t):=by
 show φ (sm (fun i=>mpw n H t i i) n)=_
 rw[sm_map h]
 exact sm_congr fun i _=>mpw_map h n H t i i
theorem dd_map (h : Hm φ) (H : Nat → Nat → R) (i : Nat) : ∀ k, φ (dd H i k) = dd (fun a b => φ (H a b)) i k
 | 0=>h.one
 | k+1=>by
  show φ (if i≤k then dd H i k*H (k+1) k else 1)=if i≤k then dd (fun a b=>φ (H a b)) i k*φ (H (k+1) k)else 1
  split
  ·rw[h.mul,dd_map h H i k]
  ·exact h.one
theorem hp_map (h:Hm φ) (W:Nat->Nat->R) (k j:Nat):φ ((hp W k).f j)=(hp (fun a b=>φ (W a b)) k).f j:=by
 have key:∀ m k,k≤m->∀ j,φ ((hp W k).f j)=(hp (fun a b=>φ (W a b)) k).f j:=by
  intro m
  induction m with
  | zero =>
   intro k hk j
   obtain rfl:k=0:=by omega
   show φ ((1:Pol R).f j)=(1:Pol S).f j
   rw[f_one,f_one]
   split
   ·exact h.one
   ·exact h.zero
  | succ m ih =>
   intro k hk j
   rcases Nat.lt_or_ge k (m+1)with h1 | h1
   ·exact ih k (by omega) j
   ·obtain rfl:k=m+1:=by omega
    rw[hp_at,hp_at,h.sub,sm_map h]
    have e1:φ (if 1≤j then(hp W m).f (j-1)else 0)=if 1≤j then(hp (fun a b=>φ (W a b)) m).f (j-1)else 0:=by
     split
     ·exact ih m (Nat.le_refl m) _
     ·exact h.zero
    rw[e1,sm_congr fun i hi=>by rw[h.mul,ih i (by omega) j]]
 exact key k k (Nat.le_refl k) j
end
section
variable {K:Type} [Fld K] {n:Nat} {H:Nat->Nat->K}
theorem at0_hm : Hm (fun a : Pol K => a.f 0) where
 add _ _:=rfl
 mul a b:=by
  show 0+a.f 0*b.f (0-0)=_
  rw[zero_add]
 one:=rfl
noncomputable def ht (H:Nat->Nat->K) (i k:Nat):Pol K:=C (H i k)+(if i=k+1 then X else 0)
theorem ht_at (H:Nat->Nat->K):(fun i k=>(ht H i k).f 0)=H:=by
 funext i k
 show(C (H i k):Pol K).f 0+(if i=k+1 then X else 0:Pol K).f 0=_
 have e:(if i=k+1 then X else 0:Pol K).f 0=0:=by
  split
  ·show(if(0:Nat)=1 then(1:K)else 0)=0
   exact if_neg (by decide)
  ·rfl
 rw[e,add_zero]
 show(if(0:Nat)=0 then H i k else 0)=H i k
 exact if_pos rfl
theorem ht_hess (h:Hess n H):Hess n (ht H):=fun i k hi hk=>by
 show C (H i k)+(if i=k+1 then X else 0)=0
 rw[h i k hi hk,if_neg (by omega),C_zero,add_zero]
theorem ht_ne (H : Nat → Nat → K) : ∀ k, dd (ht H) 0 k ≠ 0
 | 0=>Pol.one_ne
 | k+1=>fun e=>by
  rw[dd_succ _ (Nat.zero_le k)]at e
  rcases Pol.domain e with e | e
  ·exact ht_ne H k e
  ·have e1:(ht H (k+1) k).f 1=0:=by rw[e];rfl
   change (C (H (k+1) k):Pol K).f 1+(if k+1=k+1 then X else 0:Pol K).f 1=0 at e1
   have e2:(C (H (k+1) k):Pol K).f 1=0:=by
    show(if(1:Nat)=0 then H (k+1) k else 0)=0
    exact if_neg (by decide)
   rw[if_pos rfl,e2,zero_add]at e1
   exact Fld.one_ne (K:=K) e1
theorem wd_at (H:Nat->Nat->K):(fun i k=>(wd (ht H) i k).f 0)=wd H:=by
 funext i k
 show(dd (ht H) i k*ht H i k).f 0=dd H i k*H i k
 rw[at0_hm.mul,dd_map (φ:=fun a:Pol K=>a.f 0) at0_hm (ht H) i k,ht_at,congrFun (congrFun (ht_at H) i) k]
theorem tr_um (h:Hess n H) (t:Nat):tr n (mpw n (um (wd (ht H))) t)=tr n (mpw n (ht H) t):=sm_congr fun i hi=>by
 have e:=dg_pow (ht_hess h) t hi hi
 rw[mul_comm]at e
 exact(Pol.cancel (ht_ne H i) e).symm
theorem newton_hess (h:Hess n H) {r:Nat} (hr:r≤n):sm (fun t=>(hp (wd H) n).f (n-r+t)*tr n (mpw n H t)) (r+1)=nc (n-r)*(hp (wd H) n).f (n-r):=by
 have e:=congrArg (fun a:Pol K=>a.f 0) (newton_um (wd (ht H)) hr)
 rw[sm_map (φ:=fun a:Pol K=>a.f 0) at0_hm,at0_hm.mul,nc_map (φ:=fun a:Pol K=>a.f 0) at0_hm,hp_map (φ:=fun a:Pol K=>a.f 0) at0_hm,wd_at]at e
 rw[← e]
 refine sm_congr fun t _=>?_
 rw[tr_um h,at0_hm.mul,hp_map (φ:=fun a:Pol K=>a.f 0) at0_hm,wd_at,tr_map (φ:=fun a:Pol K=>a.f 0) at0_hm,ht_at]
theorem root_hess (h:Hess n H):Eqn n (fun a b=>sm (fun t=>(hp (wd H) n).f t*mpw n H t a b) (n+1)) fun _ _=>0:=fun i k hi hk=>by
 have e:=root_um (wd (ht H)) n i k hi hk
 dsimp only at e
 have e1:sm (fun t=>(hp (wd (ht H)) n).f t*mpw n (ht H) t i k) (n+1)*dd (ht H) 0 k=0:=by
  rw[sm_mul,sm_congr fun t _=>by rw[mul_assoc,dg_pow (ht_hess h) t hi hk,mul_left_comm],← mul_sm,e,mul_zero]
 have e2:=(Pol.domain e1).resolve_right (ht_ne H k)
 have e3:=congrArg (fun a:Pol K=>a.f 0) e2
 rw[sm_map (φ:=fun a:Pol K=>a.f 0) at0_hm]at e3
 show sm (fun t=>(hp (wd H) n).f t*mpw n H t i k) (n+1)=0
 refine Eq.trans (sm_congr fun t _=>?_) e3
 rw[at0_hm.mul,hp_map (φ:=fun a:Pol K=>a.f 0) at0_hm,wd_at,mpw_map (φ:=fun a:Pol K=>a.f 0) at0_hm,ht_at]
end
end Mx
end Go.Proofs.YtkmbnldginonbaaGreat
/- Similar matrices: exchanges and additions of rows with columns; the rational numbers as a field; the method of Faddeev and LeVerrier. Plain: no program. -/
namespace Go.Proofs.YtkmbnldginonbaaGreat
open Crg Pol
namespace Mx
section
variable {R:Type} [Crg R] {n:Nat} {A B D:Nat->Nat->R}
def Sim (n:Nat) (A B:Nat->Nat->R):Prop:=∃ E F,Eqn n (mm n E F) mI/\Eqn n (mm n F E) mI/\Eqn n (mm n A E) (mm n E B)
theorem Sim.of_eq (h:Eqn n A B):Sim n A B:=⟨mI,mI,fun _ j _ hj=>mm_I hj _,fun _ j _ hj=>mm_I hj _,fun i j hi hj=>by rw[mm_I hj,I_mm hi];exact h i j hi hj⟩
theorem Sim.trans (h:Sim n A B) (k:Sim n B D):Sim n A D:=by
 obtain⟨E,F,h1,h2,h3⟩:=h
 obtain⟨G,J,k1,k2,k3⟩:=k
 refine⟨mm n E G,mm n J F,fun i j hi hj=>?_,fun i j hi hj=>?_,fun i j hi hj=>?_⟩
 ·rw[mm_assoc,mm_congr (Eqn.refl E) (D:=F) (fun a b ha hb=>by rw[← mm_assoc,mm_congr k1 (Eqn.refl F) a b ha hb,I_mm ha]) i j hi hj,h1 i j hi hj]
 ·rw[mm_assoc,mm_congr (Eqn.refl J) (D:=G) (fun a b ha hb=>by rw[← mm_assoc,mm_congr h2 (Eqn.refl G) a b ha hb,I_mm ha]) i j hi hj,k2 i j hi hj]
 ·rw[← mm_assoc,mm_congr h3 (Eqn.refl G) i j hi hj,mm_assoc,mm_congr (Eqn.refl E) k3 i j hi hj,mm_assoc]
theorem Sim.tr (h:Sim n A B) (k:Nat):tr n (mpw n B k)=tr n (mpw n A k):=by
 obtain⟨E,F,h1,h2,h3⟩:=h
 exact tr_link h3 h1 h2 k
theorem Sim.root (h:Sim n A B) {c:Nat->R} {m:Nat} (hr:Eqn n (fun a b=>sm (fun t=>c t*mpw n B t a b) m) fun _ _=>0):Eqn n (fun a b=>sm (fun t=>c t*mpw n A t a b) m) fun _ _=>0:=by
 obtain⟨E,F,h1,h2,h3⟩:=h
 have e1:Eqn n (mm n (fun a b=>sm (fun t=>c t*mpw n A t a b) m) E) fun _ _=>0:=fun i j hi hj=>by
  have e2:mm n (fun a b=>sm (fun t=>c t*mpw n A t a b) m) E i j=mm n E (fun a b=>sm (fun t=>c t*mpw n B t a b) m) i j:=by
   rw[mm_sm]
   show sm (fun a=>sm (fun t=>c t*mpw n A t i a) m*E a j) n=_
   rw[sm_congr fun a _=>sm_mul (E a j) (fun t=>c t*mpw n A t i a) m,sm_swap (fun a t=>c t*mpw n A t i a*E a j) m n]
   refine sm_congr fun t _=>?_
   rw[mm_sc,← mpw_link h3 t i j hi hj]
   show _=c t*sm (fun a=>mpw n A t i a*E a j) n
   rw[mul_sm]
   exact sm_congr fun a _=>mul_assoc _ _ _
  rw[e2]
  refine(mm_congr (Eqn.refl E) hr i j hi hj).trans ?_
  exact sm_zero fun a _=>mul_zero _
 intro i j hi hj
 have e3:=mm_congr e1 (Eqn.refl F) i j hi hj
 rw[mm_assoc,mm_congr (Eqn.refl _) h1 i j hi hj,mm_I hj]at e3
 refine e3.trans (sm_zero fun a _=>zero_mul _)
def xch (s:Nat->Nat) (A:Nat->Nat->R) (i j:Nat):R:=A (s i) (s j)
theorem Sim.xch {s:Nat->Nat} (h1:∀ i,i<n->s i<n) (h2:∀ i,i<n->s (s i)=i) (A:Nat->Nat->R):Sim n A (xch s A):=by
 have e1:∀(B:Nat->Nat->R) (i j:Nat),i<n->j<n->mm n (fun a b=>if a=s b then 1 else 0) B i j=B (s i) j:=fun B i j hi _=>by
  show sm (fun a=>(if i=s a then 1 else 0)*B a j) n=_
  rw[sm_one (k:=s i) (h1 i hi) fun a ha hne=>by rw[if_neg fun e=>hne (by rw[e,h2 a ha]),zero_mul],if_pos (h2 i hi).symm,one_mul]
 have e2:∀(B:Nat->Nat->R) (i j:Nat),i<n->j<n->mm n B (fun a b=>if a=s b then 1 else 0) i j=B i (s j):=fun B i j _ hj=>by
  show sm (fun a=>B i a*(if a=s j then 1 else 0)) n=_
  rw[sm_one (k:=s j) (h1 j hj) fun a _ hne=>by rw[if_neg hne,mul_zero],if_pos rfl,mul_one]
 have e3:Eqn n (mm n (fun a b=>if a=s b then(1:R)else 0) (fun a b=>if a=s b then 1 else 0)) mI:=fun i j hi hj=>by
  rw[e1 _ i j hi hj]
  show(if s i=s j then 1 else 0)=if i=j then 1 else 0
  by_cases e:i=j
  ·rw[e,if_pos rfl,if_pos rfl]
  ·rw[if_neg e,if_neg fun h=>e (by rw[← h2 i hi,h,h2 j hj])]
 refine⟨_,_,e3,e3,fun i j hi hj=>?_⟩
 rw[e2 _ i j hi hj,e1 _ i j hi hj]
 show A i (s j)=A (s (s i)) (s j)
 rw[h2 i hi]
def rca (u:R) (i m:Nat) (A:Nat->Nat->R) (a b:Nat):R:=(if a=i then A a b-u*A m b else A a b)+(if b=m then u*(if a=i then A a i-u*A m i else A a i)else 0)
theorem Sim.add {i m:Nat} (hi:i<n) (hm:m<n) (hne:i≠m) (u:R) (A:Nat->Nat->R):Sim n A (rca u i m A):=by
 have el:∀(u:R) (B:Nat->Nat->R) (a b:Nat),a<n->b<n->mm n (fun a b=>mI a b+(if a=i/\b=m then u else 0)) B a b=B a b+(if a=i then u*B m b else 0):=fun u B a b ha hb=>by
  have e:∀ c,(mI a c+(if a=i/\c=m then u else 0))*B c b=mI a c*B c b+(if a=i/\c=m then u else 0)*B c b:=fun c=>add_mul _ _ _
  show sm (fun c=>(mI a c+(if a=i/\c=m then u else 0))*B c b) n=_
  rw[sm_congr fun c _=>e c,sm_add]
  refine congr (congrArg HAdd.hAdd (I_mm ha b)) ?_
  split
  ·next h=>rw[sm_one hm fun c _ hc=>by rw[if_neg fun e=>hc e.2,zero_mul],if_pos ⟨h,rfl⟩]
  ·next h=>exact sm_zero fun c _=>by rw[if_neg fun e=>h e.1,zero_mul]
 have er:∀(u:R) (B:Nat->Nat->R) (a b:Nat),a<n->b<n->mm n B (fun a b=>mI a b+(if a=i/\b=m then u else 0)) a b=B a b+(if b=m then B a i*u else 0):=fun u B a b ha hb=>by
  have e:∀ c,B a c*(mI c b+(if c=i/\b=m then u else 0))=B a c*mI c b+B a c*(if c=i/\b=m then u else 0):=fun c=>mul_add _ _ _
  show sm (fun c=>B a c*(mI c b+(if c=i/\b=m then u else 0))) n=_
  rw[sm_congr fun c _=>e c,sm_add]
  refine congr (congrArg HAdd.hAdd (mm_I hb a)) ?_
  split
  ·next h=>rw[sm_one hi fun c _ hc=>by rw[if_neg fun e=>hc e.1,mul_zero],if_pos ⟨rfl,h⟩]
  ·next h=>exact sm_zero fun c _=>by rw[if_neg fun e=>h e.2,mul_zero]
 have ei:∀ u v:R,u+v=0->Eqn n (mm n (fun a b=>mI a b+(if a=i/\b=m then u else 0)) (fun a b=>mI a b+(if a=i/\b=m then v else 0))) mI:=fun u v huv a b ha hb=>by
  rw[el _ _ a b ha hb]
  have e1:(mI m b+(if m=i/\b=m then v else 0):R)=mI m b:=by rw[if_neg fun e=>hne e.1.symm,add_zero]
  rw[e1,add_assoc]
  have e2:(if a=i/\b=m then v else 0)+(if a=i then u*mI m b else 0)=(0:R):=by
   by_cases h1:a=i
   ·rw[if_pos h1]
    by_cases h2:b=m
    ·rw[if_pos ⟨h1,h2⟩,show(mI m b:R)=1 from if_pos h2.symm,mul_one,add_comm,huv]
    ·rw[if_neg fun e=>h2 e.2,show(mI m b:R)=0 from if_neg fun e=>h2 e.symm,mul_zero,add_zero]
   ·rw[if_neg h1,if_neg fun e=>h1 e.1,add_zero]
  rw[e2,add_zero]
 refine⟨_,_,ei u (-u) (add_neg u),ei (-u) u (neg_add u),fun a b ha hb=>?_⟩
 rw[er _ _ a b ha hb,el _ _ a b ha hb]
 unfold rca
 rw[if_neg (show ¬ m=i from fun e=>hne e.symm)]
 by_cases h1:a=i
 ·rw[if_pos h1,if_pos h1,if_pos h1,h1,if_neg (show ¬ m=i from fun e=>hne e.symm)]
  by_cases h2:b=m
  ·rw[if_pos h2,if_pos h2,if_pos h2]
   exact RE.eq [A i b,A i i,u,A m b,A m i] (t0+t1*t2) (t0-t2*t3+t2*(t1-t2*t4)+t2*(t3+t2*t4)) rfl
  ·rw[if_neg h2,if_neg h2,if_neg h2]
   exact RE.eq [A i b,u,A m b] (t0+0) (t0-t1*t2+0+t1*(t2+0)) rfl
 ·rw[if_neg h1,if_neg h1,if_neg h1,add_zero]
  split
  ·rw[mul_comm]
  ·rfl
end
end Mx
instance : Fld Rat where
 add_assoc:=Rat.add_assoc
 add_comm:=Rat.add_comm
 add_zero:=Rat.add_zero
 add_neg:=Rat.add_neg_cancel
 sub_def:=Rat.sub_eq_add_neg
 mul_assoc:=Rat.mul_assoc
 mul_comm:=Rat.mul_comm
 mul_one:=Rat.mul_one
 mul_add:=Rat.mul_add
 inv:=Rat.inv
 mul_inv:=fun a h=>Rat.mul_inv_cancel a h
 one_ne:=by decide
theorem nc_rat : ∀ m : Nat, (nc m : Rat) = (m : Rat)
 | 0=>rfl
 | m+1=>by
  show nc m+1=((m+1:Nat):Rat)
  rw[nc_rat m]
  exact(Rat.natCast_add m 1).symm
end Go.Proofs.YtkmbnldginonbaaGreat
/- The method of Faddeev and LeVerrier; power sums. Plain: no program. -/
namespace Go.Proofs.YtkmbnldginonbaaGreat
open Crg Pol
namespace Mx
section
variable {R:Type} [Crg R] {n:Nat} {A:Nat->Nat->R} {c:Nat->R}
theorem mpw_add (A:Nat->Nat->R) (a b:Nat):Eqn n (mm n (mpw n A a) (mpw n A b)) (mpw n A (a+b)):=by
 induction a with
 | zero =>
  intro i j hi hj
  rw[Nat.zero_add]
  exact I_mm hi j
 | succ a ih =>
  intro i j hi hj
  rw[show a+1+b=a+b+1 by omega]
  show mm n (mm n A (mpw n A a)) (mpw n A b) i j=mm n A (mpw n A (a+b)) i j
  rw[mm_assoc]
  exact mm_congr (Eqn.refl A) ih i j hi hj
theorem dd_left (H:Nat->Nat->R) {i k:Nat} (h:i<k):dd H i k=dd H (i+1) k*H (i+1) i:=by
 induction k with
 | zero=>omega
 | succ k ih =>
  rw[dd_succ H (show i≤k by omega)]
  rcases Nat.lt_or_ge i k with h1 | h1
  ·rw[ih h1,dd_succ H (show i+1≤k by omega),mul_assoc,mul_comm (H (i+1) i),← mul_assoc]
  ·obtain rfl:i=k:=by omega
   rw[dd_self,dd_self]
structure Newt (n : Nat) (A : Nat → Nat → R) (c : Nat → R) : Prop where
 top:c n=1
 out:∀ m,n<m->c m=0
 id:∀ r,r≤n->sm (fun t=>c (n-r+t)*tr n (mpw n A t)) (r+1)=nc (n-r)*c (n-r)
 root:Eqn n (fun a b=>sm (fun t=>c t*mpw n A t a b) (n+1)) fun _ _=>0
end
section
variable {K:Type} [Fld K] {n:Nat} {A H:Nat->Nat->K}
theorem Newt.of_hess (hs : Sim n A H) (hh : Hess n H) : Newt n A (hp (wd H) n).f where
 top:=(hp_deg (wd H) n).2
 out:=(hp_deg (wd H) n).1
 id r hr:=by
  rw[← newton_hess hh hr]
  exact sm_congr fun t _=>by rw[hs.tr]
 root:=hs.root (root_hess hh)
end
end Mx
end Go.Proofs.YtkmbnldginonbaaGreat
/- The reduction to Hessenberg form, step by step. Plain: no program. -/
namespace Go.Proofs.YtkmbnldginonbaaGreat
open Crg Pol
namespace Mx
def pvf (A : Nat → Nat → Rat) (c : Nat) : Nat → Nat → Nat
 | 0,a=>a
 | k+1,a=>if A a c=0 then pvf A c k (a+1)else a
def pv (n:Nat) (A:Nat->Nat->Rat) (m:Nat):Nat:=pvf A (m-1) (n-m) m
theorem pvf_spec (A : Nat → Nat → Rat) (c : Nat) : ∀ k a, a ≤ pvf A c k a ∧ pvf A c k a ≤ a + k ∧ (∀ b, a ≤ b → b < pvf A c k a → A b c = 0) ∧ (pvf A c k a < a + k → A (pvf A c k a) c ≠ 0)
 | 0,a=>⟨Nat.le_refl a,Nat.le_refl a,fun b h1 h2=>absurd (show b<a from h2) (by omega),fun h=>absurd (show a<a+0 from h) (by omega)⟩
 | k+1,a=>by
  show a≤(if A a c=0 then pvf A c k (a+1)else a)/\(if A a c=0 then pvf A c k (a+1)else a)≤a+(k+1)/\(∀ b,a≤b->b<(if A a c=0 then pvf A c k (a+1)else a)->A b c=0)/\((if A a c=0 then pvf A c k (a+1)else a)<a+(k+1)->A (if A a c=0 then pvf A c k (a+1)else a) c≠0)
  by_cases h:A a c=0
  ·rw[if_pos h]
   obtain⟨h1,h2,h3,h4⟩:=pvf_spec A c k (a+1)
   refine⟨by omega,by omega,fun b hb hb2=>?_,fun hlt=>h4 (by omega)⟩
   rcases Nat.lt_or_ge a b with h5 | h5
   ·exact h3 b h5 hb2
   ·rw[show b=a by omega]
    exact h
  ·rw[if_neg h]
   exact⟨Nat.le_refl a,by omega,fun b h1 h2=>absurd h2 (by omega),fun _=>h⟩
theorem pvf_next {A:Nat->Nat->Rat} {c k a:Nat} (h:A a c=0):pvf A c (k+1) a=pvf A c k (a+1):=if_pos h
theorem pvf_stop {A:Nat->Nat->Rat} {c k a:Nat} (h:A a c≠0):pvf A c (k+1) a=a:=if_neg h
def sw (i j a:Nat):Nat:=if a=i then j else if a=j then i else a
theorem sw_sw (i j a:Nat):sw i j (sw i j a)=a:=by
 unfold sw
 by_cases h1:a=i
 ·rw[if_pos h1]
  by_cases h2:j=i
  ·rw[if_pos h2];omega
  ·rw[if_neg h2,if_pos rfl];omega
 ·rw[if_neg h1]
  by_cases h2:a=j
  ·rw[if_pos h2,if_pos rfl];omega
  ·rw[if_neg h2,if_neg h1,if_neg h2]
theorem sw_lt {i j a n:Nat} (hi:i<n) (hj:j<n) (ha:a<n):sw i j a<n:=by
 unfold sw
 split
 ·exact hj
 ·split
  ·exact hi
  ·exact ha
def ra (u:Rat) (i m:Nat) (A:Nat->Nat->Rat) (a b:Nat):Rat:=if a=i then A a b-u*A m b else A a b
def ca (u:Rat) (i m:Nat) (A:Nat->Nat->Rat) (a b:Nat):Rat:=if b=m then A a b+u*A a i else A a b
theorem ca_ra (u:Rat) (i m:Nat) (A:Nat->Nat->Rat):ca u i m (ra u i m A)=rca u i m A:=by
 funext a b
 unfold ca rca
 by_cases h:b=m
 ·rw[if_pos h,if_pos h]
  show ra u i m A a b+u*ra u i m A a i=_
  unfold ra
  rfl
 ·rw[if_neg h,if_neg h]
  show ra u i m A a b=_
  exact(Crg.add_zero (ra u i m A a b)).symm
def el1 (m i:Nat) (A:Nat->Nat->Rat):Nat->Nat->Rat:=if A i (m-1)=0 then A else ca (A i (m-1) / A m (m-1)) i m (ra (A i (m-1) / A m (m-1)) i m A)
def el (m : Nat) (A : Nat → Nat → Rat) : Nat → Nat → Nat → Rat
 | 0=>A
 | t+1=>el1 m (m+1+t) (el m A t)
def stp (n m:Nat) (A:Nat->Nat->Rat):Nat->Nat->Rat:=if pv n A m=n then A else el m (xch (sw (pv n A m) m) A) (n-1-m)
def hs (n : Nat) (A : Nat → Nat → Rat) : Nat → Nat → Nat → Rat
 | 0=>A
 | m+1=>if m=0 then A else stp n m (hs n A m)
def Zc (n m:Nat) (A:Nat->Nat->Rat):Prop:=∀ c i,c+1<m->c+1<i->i<n->A i c=0
structure ElI (n m t : Nat) (A0 A : Nat → Nat → Rat) : Prop where
 sim:Sim n A0 A
 z:Zc n m A
 p:A m (m-1)≠0
 c:∀ i,m<i->i≤m+t->i<n->A i (m-1)=0
theorem ElI.step {n m t:Nat} {A0 A:Nat->Nat->Rat} (h:ElI n m t A0 A) (hm:1≤m) (ht:m+1+t<n):ElI n m (t+1) A0 (el1 m (m+1+t) A):=by
 unfold el1
 by_cases h0:A (m+1+t) (m-1)=0
 ·rw[if_pos h0]
  refine⟨h.sim,h.z,h.p,fun i h1 h2 h3=>?_⟩
  rcases Nat.lt_or_ge i (m+1+t)with h4 | h4
  ·exact h.c i h1 (by omega) h3
  ·rw[show i=m+1+t by omega]
   exact h0
 ·rw[if_neg h0]
  generalize hu:A (m+1+t) (m-1) / A m (m-1)=u
  have hmu:u*A m (m-1)=A (m+1+t) (m-1):=by
   rw[← hu]
   exact Rat.div_mul_cancel h.p
  have hlow:∀ a c,c<m->ca u (m+1+t) m (ra u (m+1+t) m A) a c=if a=m+1+t then A a c-u*A m c else A a c:=fun a c hc=>if_neg (by omega)
  refine⟨h.sim.trans (by rw[ca_ra];exact Sim.add ht (by omega) (by omega) u A),fun c i h1 h2 h3=>?_,?_,fun i h1 h2 h3=>?_⟩
  ·rw[hlow i c (by omega)]
   split
   ·rw[h.z c i h1 h2 h3,h.z c m h1 (by omega) (by omega),Rat.mul_zero,Rat.sub_self]
   ·exact h.z c i h1 h2 h3
  ·rw[hlow m (m-1) (by omega),if_neg (by omega)]
   exact h.p
  ·rw[hlow i (m-1) (by omega)]
   split
   ·next e=>rw[hmu,e,Rat.sub_self]
   ·exact h.c i h1 (by omega) h3
theorem el_all {n m : Nat} {A0 A : Nat → Nat → Rat} (hm : 1 ≤ m) (h : ElI n m 0 A0 A) : ∀ t, m + t < n → ElI n m t A0 (el m A t)
 | 0,_=>h
 | t+1,ht=>(el_all hm h t (by omega)).step hm (by omega)
theorem pv_spec (n:Nat) (A:Nat->Nat->Rat) {m:Nat} (hm:m≤n):m≤pv n A m/\pv n A m≤n/\(∀ b,m≤b->b<pv n A m->A b (m-1)=0)/\(pv n A m<n->A (pv n A m) (m-1)≠0):=by
 obtain⟨h1,h2,h3,h4⟩:=pvf_spec A (m-1) (n-m) m
 exact⟨h1,by show pvf A (m-1) (n-m) m≤n;omega,h3,fun h=>h4 (by show pvf A (m-1) (n-m) m<_;have h:pvf A (m-1) (n-m) m<n:=h;omega)⟩
theorem stp_ok {n m:Nat} {A0 A:Nat->Nat->Rat} (h1:1≤m) (hm:m+1<n) (hs:Sim n A0 A) (hz:Zc n m A):Sim n A0 (stp n m A)/\Zc n (m+1) (stp n m A):=by
 obtain⟨p1,p2,p3,p4⟩:=pv_spec n A (show m≤n by omega)
 unfold stp
 by_cases e:pv n A m=n
 ·rw[if_pos e]
  refine⟨hs,fun c i h2 h3 h4=>?_⟩
  rcases Nat.lt_or_ge (c+1) m with h5 | h5
  ·exact hz c i h5 h3 h4
  ·rw[show c=m-1 by omega]
   exact p3 i (by omega) (by omega)
 ·rw[if_neg e]
  have hlt:pv n A m<n:=by omega
  have hsw:∀ a,a<m->sw (pv n A m) m a=a:=fun a ha=>by
   unfold sw
   rw[if_neg (by omega),if_neg (by omega)]
  have hsm:sw (pv n A m) m m=pv n A m:=by
   unfold sw
   split
   ·omega
   ·rw[if_pos rfl]
  have hge:∀ a,m≤a->m≤sw (pv n A m) m a:=fun a ha=>by
   unfold sw
   split
   ·exact Nat.le_refl m
   ·split
    ·exact p1
    ·exact ha
  have h0:ElI n m 0 A0 (xch (sw (pv n A m) m) A):=by
   refine⟨hs.trans (Sim.xch (fun i hi=>sw_lt hlt (by omega) hi) (fun i _=>sw_sw _ _ i) A),fun c i h2 h3 h4=>?_,?_,fun i h2 h3 _=>absurd h2 (by omega)⟩
   ·show A (sw (pv n A m) m i) (sw (pv n A m) m c)=0
    rw[hsw c (by omega)]
    rcases Nat.lt_or_ge i m with h5 | h5
    ·rw[hsw i h5]
     exact hz c i h2 h3 h4
    ·have:=hge i h5
     exact hz c _ h2 (by omega) (sw_lt hlt (by omega) h4)
   ·show A (sw (pv n A m) m m) (sw (pv n A m) m (m-1))≠0
    rw[hsw (m-1) (by omega),hsm]
    exact p4 hlt
  have hE:=el_all h1 h0 (n-1-m) (by omega)
  refine⟨hE.sim,fun c i h2 h3 h4=>?_⟩
  rcases Nat.lt_or_ge (c+1) m with h5 | h5
  ·exact hE.z c i h5 h3 h4
  ·rw[show c=m-1 by omega]
   exact hE.c i (by omega) (by omega) h4
theorem hs_ok (n : Nat) (A : Nat → Nat → Rat) : ∀ m, m + 1 ≤ n → Sim n A (hs n A m) ∧ Zc n m (hs n A m)
 | 0,_=>⟨Sim.of_eq (Eqn.refl A),fun c i h=>absurd h (by omega)⟩
 | m+1,hm=>by
  show Sim n A (if m=0 then A else stp n m (hs n A m))/\Zc n (m+1) (if m=0 then A else stp n m (hs n A m))
  by_cases e:m=0
  ·rw[if_pos e]
   exact⟨Sim.of_eq (Eqn.refl A),fun c i h=>absurd h (by omega)⟩
  ·rw[if_neg e]
   obtain⟨h1,h2⟩:=hs_ok n A m (by omega)
   exact stp_ok (by omega) (by omega) h1 h2
def hsn (n:Nat) (A:Nat->Nat->Rat):Nat->Nat->Rat:=hs n A (n-1)
theorem hsn_ok (n:Nat) (A:Nat->Nat->Rat):Sim n A (hsn n A)/\Hess n (hsn n A):=by
 by_cases h:n=0
 ·exact⟨by rw[show hsn n A=A by unfold hsn;rw[h];rfl];exact Sim.of_eq (Eqn.refl A),fun i k hi=>absurd hi (by omega)⟩
 ·obtain⟨h1,h2⟩:=hs_ok n A (n-1) (by omega)
  exact⟨h1,fun i k hi hk=>h2 k i (by omega) hk hi⟩
theorem newt_hsn (n:Nat) (A:Nat->Nat->Rat):Newt n A (hp (wd (hsn n A)) n).f:=Newt.of_hess (hsn_ok n A).1 (hsn_ok n A).2
end Mx
end Go.Proofs.YtkmbnldginonbaaGreat
/- Sizes of fractions; the program's operations on normalized ones. -/
namespace Go.Proofs.YtkmbnldginonbaaGreat
open Go.RowKit
namespace Mx
theorem q_add {x y:Rat} {L L':Nat} (hx:qlen x≤L) (hy:qlen y≤L') (h1:1≤L+L'):qlen (x+y)≤L+L'+1:=by
 have e:x+y=ratio (x.num*y.den+y.num*x.den) ((x.den:Int)*(y.den:Int)):=by
  rw[← ratio_add (by have:=x.den_nz;omega) (by have:=y.den_nz;omega),ratio_num_den,ratio_num_den]
 rw[e]
 unfold qlen at hx hy
 have a1:=zlen_mul x.num y.den
 have a2:=zlen_mul y.num x.den
 have a3:=zlen_add (x.num*y.den) (y.num*x.den)
 have a4:=zlen_mul (x.den:Int) (y.den:Int)
 exact qlen_ratio (by omega) (by omega) (by omega)
theorem q_neg (x:Rat):qlen (-x)=qlen x:=by unfold qlen;simp[zlen_neg]
theorem q_sub {x y:Rat} {L L':Nat} (hx:qlen x≤L) (hy:qlen y≤L') (h1:1≤L+L'):qlen (x-y)≤L+L'+1:=by
 rw[Rat.sub_eq_add_neg]
 exact q_add hx (by rw[q_neg];exact hy) h1
theorem q_mul {x y:Rat} {L L':Nat} (hx:qlen x≤L) (hy:qlen y≤L') (h1:1≤L+L'):qlen (x*y)≤L+L':=by
 have e:x*y=ratio (x.num*y.num) ((x.den:Int)*(y.den:Int)):=by
  rw[← ratio_mul,ratio_num_den,ratio_num_den]
 rw[e]
 unfold qlen at hx hy
 have a1:=zlen_mul x.num y.num
 have a2:=zlen_mul (x.den:Int) (y.den:Int)
 exact qlen_ratio (by omega) (by omega) h1
theorem q_div {x y:Rat} {L L':Nat} (hx:qlen x≤L) (hy:qlen y≤L') (h1:1≤L+L'):qlen (x / y)≤L+L':=by
 have e:x / y=ratio (x.num*y.den) ((x.den:Int)*y.num):=by
  rw[← ratio_div,ratio_num_den,ratio_num_den]
 rw[e]
 unfold qlen at hx hy
 have a1:=zlen_mul x.num y.den
 have a2:=zlen_mul (x.den:Int) y.num
 exact qlen_ratio (by omega) (by omega) h1
def Bq (n L:Nat) (A:Nat->Nat->Rat):Prop:=∀ i j,i<n->j<n->qlen (A i j)≤L
theorem ra_bq {n L L':Nat} {A:Nat->Nat->Rat} {u:Rat} {i m:Nat} (h:Bq n L A) (hu:qlen u≤L') (hm:m<n) (h1:1≤L):Bq n (L+(L'+L)+1) (ra u i m A):=fun a b ha hb=>by
 unfold ra
 split
 ·exact q_sub (h a b ha hb) (q_mul hu (h m b hm hb) (by omega)) (by omega)
 ·exact Nat.le_trans (h a b ha hb) (by omega)
theorem ca_bq {n L L':Nat} {A:Nat->Nat->Rat} {u:Rat} {i m:Nat} (h:Bq n L A) (hu:qlen u≤L') (hi:i<n) (h1:1≤L):Bq n (L+(L'+L)+1) (ca u i m A):=fun a b ha hb=>by
 unfold ca
 split
 ·exact q_add (h a b ha hb) (q_mul hu (h a i ha hi) (by omega)) (by omega)
 ·exact Nat.le_trans (h a b ha hb) (by omega)
theorem el1_bq {n L:Nat} {A:Nat->Nat->Rat} {m i:Nat} (h:Bq n L A) (hm:m<n) (hi:i<n) (h1:1≤L):Bq n (16*L) (el1 m i A):=by
 unfold el1
 split
 ·exact fun a b ha hb=>Nat.le_trans (h a b ha hb) (by omega)
 ·have hu:=q_div (h i (m-1) hi (by omega)) (h m (m-1) hm (by omega)) (by omega)
  have h2:=ra_bq (i:=i) h hu hm h1
  have h3:=ca_bq (m:=m) h2 hu hi (by omega)
  exact fun a b ha hb=>Nat.le_trans (h3 a b ha hb) (by omega)
theorem el_bq {n L : Nat} {A : Nat → Nat → Rat} {m : Nat} (h : Bq n L A) (h1 : 1 ≤ L) : ∀ t, m + t < n → Bq n (16 ^ t * L) (el m A t)
 | 0,_=>fun a b ha hb=>by rw[Nat.pow_zero,Nat.one_mul];exact h a b ha hb
 | t+1,ht=>by
  have hp:1≤16^t:=Nat.pow_pos (by omega)
  have h2:1≤16^t*L:=Nat.mul_le_mul hp h1
  have:=el1_bq (m:=m) (i:=m+1+t) (el_bq (m:=m) h h1 t (by omega)) (by omega) (by omega) h2
  rw[Nat.pow_succ,Nat.mul_right_comm,Nat.mul_comm _ 16]
  exact this
theorem xch_bq {n L:Nat} {A:Nat->Nat->Rat} {s:Nat->Nat} (h:Bq n L A) (hs:∀ a,a<n->s a<n):Bq n L (xch s A):=fun a b ha hb=>h _ _ (hs a ha) (hs b hb)
theorem stp_bq {n L:Nat} {A:Nat->Nat->Rat} {m:Nat} (h:Bq n L A) (h1:1≤L) (hm:m+1<n):Bq n (16^(n-1-m)*L) (stp n m A):=by
 obtain⟨p1,p2,p3,p4⟩:=pv_spec n A (show m≤n by omega)
 unfold stp
 split
 ·exact fun a b ha hb=>Nat.le_trans (h a b ha hb) (by
   have hp:1≤16^(n-1-m):=Nat.pow_pos (by omega)
   have:=Nat.mul_le_mul hp (Nat.le_refl L)
   omega)
 ·exact el_bq (xch_bq h fun a ha=>sw_lt (by omega) (by omega) ha) h1 _ (by omega)
def be (n : Nat) : Nat → Nat
 | 0=>0
 | m+1=>if m=0 then 0 else be n m+(n-1-m)
theorem hs_bq {n L : Nat} {A : Nat → Nat → Rat} (h : Bq n L A) (h1 : 1 ≤ L) : ∀ m, m + 1 ≤ n → Bq n (16 ^ be n m * L) (hs n A m)
 | 0,_=>fun a b ha hb=>by rw[show be n 0=0 from rfl,Nat.pow_zero,Nat.one_mul];exact h a b ha hb
 | m+1,hm=>by
  show Bq n (16^(if m=0 then 0 else be n m+(n-1-m))*L) (if m=0 then A else stp n m (hs n A m))
  by_cases e:m=0
  ·rw[if_pos e,if_pos e,Nat.pow_zero,Nat.one_mul]
   exact h
  ·rw[if_neg e,if_neg e]
   have hp:1≤16^be n m:=Nat.pow_pos (by omega)
   have h2:1≤16^be n m*L:=Nat.mul_le_mul hp h1
   have:=stp_bq (m:=m) (hs_bq h h1 m (by omega)) h2 (by omega)
   rw[Nat.pow_add,Nat.mul_comm (16^be n m),Nat.mul_assoc]
   exact this
/-! The program's operations. -/
theorem qsub_n {x y z:Rat} {L L':Nat} (hx:qlen x≤L) (hy:qlen y≤L') (h0:1≤L') (hL:L+L'+4≤LIM) (e:x-y=z):FnOK Tryz.prog true 50 [.g (nq x),.g (nq y)] (.g (nq z)):=by
 subst e
 have:=qsub_ok (q:=ofR x) (p:=ofR y) (ofR_fit hx) (ofR_fit hy) h0 hL
 rwa [ofR_val,ofR_val]at this
theorem qadd_n {x y z:Rat} {L L':Nat} (hx:qlen x≤L) (hy:qlen y≤L') (hL:L+L'+4≤LIM) (e:x+y=z):FnOK Tryz.prog true 93 [.g (nq x),.g (nq y)] (.g (nq z)):=by
 subst e
 have:=qadd_ok (q:=ofR x) (p:=ofR y) (ofR_fit hx) (ofR_fit hy) hL
 rwa [ofR_val,ofR_val]at this
theorem qmul_n {x y z:Rat} {L L':Nat} (hx:qlen x≤L) (hy:qlen y≤L') (hL:L+L'+3≤LIM) (e:x*y=z):FnOK Tryz.prog true 46 [.g (nq x),.g (nq y)] (.g (nq z)):=by
 subst e
 have:=qmul_ok (q:=ofR x) (p:=ofR y) (ofR_fit hx) (ofR_fit hy) hL
 rwa [ofR_val,ofR_val]at this
theorem qquo_n {x y z:Rat} {L L':Nat} (hx:qlen x≤L) (hy:qlen y≤L') (hL:L+L'+4≤LIM) (h0:y≠0) (e:x / y=z):FnOK Tryz.prog true 59 [.g (nq x),.g (nq y)] (.t2 (.g (nq z)) (.c (.int .i64 0))):=by
 subst e
 have:=qquo_ok (q:=ofR x) (p:=ofR y) (ofR_fit hx) (ofR_fit hy) hL (by rw[ofR_val];exact h0)
 rwa [ofR_val,ofR_val]at this
end Mx
end Go.Proofs.YtkmbnldginonbaaGreat
/- The polynomials of the leading blocks, summed up from the right. Plain: no program. -/
namespace Go.Proofs.YtkmbnldginonbaaGreat
open Crg Pol
namespace Mx
section
variable {R:Type} [Crg R]
noncomputable def nx (W:Nat->Nat->R) (k i j:Nat):R:=(if 1≤j then(hp W k).f (j-1)else 0)-sm (fun a=>W (i+a) k*(hp W (i+a)).f j) (k+1-i)
theorem nx_first (W:Nat->Nat->R) (k j:Nat):nx W k k j=(if 1≤j then(hp W k).f (j-1)else 0)-W k k*(hp W k).f j:=by
 unfold nx
 rw[show k+1-k=1 by omega]
 show _-(0+W (k+0) k*(hp W (k+0)).f j)=_
 rw[zero_add,Nat.add_zero]
theorem nx_next (W:Nat->Nat->R) {k i:Nat} (h:i<k) (j:Nat):nx W k i j=nx W k (i+1) j-W i k*(hp W i).f j:=by
 unfold nx
 rw[show k+1-i=k+1-(i+1)+1 by omega,sm_head,Nat.add_zero]
 have e:sm (fun a=>W (i+(a+1)) k*(hp W (i+(a+1))).f j) (k+1-(i+1))=sm (fun a=>W (i+1+a) k*(hp W (i+1+a)).f j) (k+1-(i+1)):=sm_congr fun a _=>by rw[show i+(a+1)=i+1+a by omega]
 rw[e]
 generalize sm (fun a=>W (i+1+a) k*(hp W (i+1+a)).f j) (k+1-(i+1))=Z
 generalize (if 1≤j then(hp W k).f (j-1)else 0)=Y
 exact RE.eq [Y,W i k,(hp W i).f j,Z] (t0-(t1*t2+t3)) (t0-t3-t1*t2) rfl
theorem nx_last (W:Nat->Nat->R) (k j:Nat):nx W k 0 j=(hp W (k+1)).f j:=by
 rw[hp_at]
 unfold nx
 refine congrArg (fun z:R=>(if 1≤j then(hp W k).f (j-1)else 0)-z) ?_
 rw[Nat.sub_zero]
 exact sm_congr fun a _=>by rw[Nat.zero_add]
theorem nx_break (W:Nat->Nat->R) {k i:Nat} (h:∀ a,a≤i->W a k=0) (hi:i≤k) (j:Nat):nx W k (i+1) j=(hp W (k+1)).f j:=by
 rw[← nx_last]
 have key:∀ t,t≤i+1->nx W k (i+1) j=nx W k (i+1-t) j:=by
  intro t
  induction t with
  | zero=>intro _;rfl
  | succ t ih =>
   intro ht
   rw[ih (by omega),show i+1-t=i+1-(t+1)+1 by omega]
   rcases Nat.lt_or_ge (i+1-(t+1)) k with h1 | h1
   ·rw[nx_next W h1,h _ (by omega),zero_mul,sub_zero]
   ·-- the first step
    obtain rfl:t=0:=by omega
    obtain rfl:i=k:=by omega
    rw[show i+1-(0+1)=i by omega,nx_first,h i (Nat.le_refl i),zero_mul,sub_zero]
    unfold nx
    rw[show i+1-(i+1)=0 by omega]
    exact sub_zero _
 have:=key (i+1) (Nat.le_refl _)
 rwa [Nat.sub_self]at this
theorem nx_deg (W:Nat->Nat->R) {k i:Nat}:(∀ j,k+1<j->nx W k i j=0)/\nx W k i (k+1)=1:=by
 refine⟨fun j hj=>?_,?_⟩
 ·unfold nx
  rw[if_pos (by omega),(hp_deg W k).1 _ (by omega),sm_zero fun a ha=>by rw[(hp_deg W (i+a)).1 j (by omega),mul_zero],sub_zero]
 ·unfold nx
  rw[if_pos (by omega),Nat.add_sub_cancel,(hp_deg W k).2,sm_zero fun a ha=>by rw[(hp_deg W (i+a)).1 _ (by omega),mul_zero],sub_zero]
theorem wd_zero (H:Nat->Nat->R) {i k:Nat} (h:dd H i k=0) (hi:i≤k):∀ a,a≤i->wd H a k=0:=by
 have key:∀ t,t≤i->dd H (i-t) k=0:=by
  intro t
  induction t with
  | zero=>intro _;exact h
  | succ t ih =>
   intro ht
   rw[dd_left H (show i-(t+1)<k by omega),show i-(t+1)+1=i-t by omega,ih (by omega),zero_mul]
 intro a ha
 unfold wd
 have:=key (i-a) (by omega)
 rw[show i-(i-a)=a by omega]at this
 rw[this,zero_mul]
end
end Mx
end Go.Proofs.YtkmbnldginonbaaGreat
/- Sizes of the polynomials of the leading blocks of a Hessenberg matrix. -/
namespace Go.Proofs.YtkmbnldginonbaaGreat
open Go.RowKit Crg Pol
namespace Mx
theorem q_zero:qlen 0≤1:=by decide
theorem q_one:qlen 1≤1:=by decide
theorem dd_bq {n K : Nat} {H : Nat → Nat → Rat} (h : Bq n K H) (i : Nat) : ∀ k, i ≤ k → k < n → qlen (dd H i k) ≤ (k - i) * K + 1
 | 0,hi,_=>by
  rw[Nat.zero_sub,Nat.zero_mul]
  exact q_one
 | k+1,hi,hk=>by
  rcases Nat.lt_or_ge i (k+1)with h1 | h1
  ·rw[dd_succ H (show i≤k by omega)]
   refine Nat.le_trans (q_mul (dd_bq h i k (by omega) (by omega)) (h (k+1) k hk (by omega)) (by omega)) ?_
   rw[show k+1-i=k-i+1 by omega,Nat.add_mul,Nat.one_mul]
   omega
  ·rw[show i=k+1 by omega,dd_self,Nat.sub_self,Nat.zero_mul]
   exact q_one
theorem wd_bq {n K:Nat} {H:Nat->Nat->Rat} (h:Bq n K H) (hn:n≤5) (hK:1≤K) {i k:Nat} (hi:i≤k) (hk:k<n):qlen (wd H i k)≤6*K:=by
 have h1:=q_mul (dd_bq h i k hi hk) (h i k (by omega) hk) (by omega)
 have h2:(k-i)*K≤4*K:=Nat.mul_le_mul_right K (by omega)
 exact Nat.le_trans h1 (by omega)
theorem dd_b5 {n K:Nat} {H:Nat->Nat->Rat} (h:Bq n K H) (hn:n≤5) (hK:1≤K) {i k:Nat} (hi:i≤k) (hk:k<n):qlen (dd H i k)≤5*K:=by
 have h1:=dd_bq h i k hi hk
 have h2:(k-i)*K≤4*K:=Nat.mul_le_mul_right K (by omega)
 omega
def PB (K k:Nat):Nat:=8*3^k*K
def ck (k i:Nat):Nat:=20*3^k-4*3^i+7*(k+1-i)
theorem ck_step {k i:Nat} (h:i<k):ck k i=ck k (i+1)+8*3^i+7:=by
 have h1:3^(i+1)≤3^k:=Nat.pow_le_pow_right (by omega) h
 unfold ck
 rw[Nat.pow_succ]at h1 ⊢
 omega
theorem ck_top (k:Nat):ck k k=16*3^k+7:=by
 unfold ck
 omega
theorem ck_le {k i:Nat} (hk:k≤4) (hi:i≤k):ck k i≤24*3^k:=by
 have h1:1≤3^i:=Nat.pow_pos (by omega)
 unfold ck
 rcases(show k=0∨k=1∨k=2∨k=3∨k=4 by omega)with rfl | rfl | rfl | rfl | rfl
 ·omega
 ·omega
 ·omega
 ·omega
 ·omega
theorem nx_bq {n K : Nat} {H : Nat → Nat → Rat} (h : Bq n K H) (hn : n ≤ 5) (hK : 1 ≤ K) {k : Nat} (hk : k < n) (hP : ∀ a, a ≤ k → ∀ j, qlen ((hp (wd H) a).f j) ≤ PB K a) : ∀ t, t ≤ k → ∀ j, qlen (nx (wd H) k (k - t) j) ≤ ck k (k - t) * K
 | 0,_,j=>by
  have h3:1≤3^k:=Nat.pow_pos (by omega)
  have hPk:8≤PB K k:=Nat.le_trans (by decide) (Nat.mul_le_mul (Nat.mul_le_mul_left 8 h3) hK)
  rw[Nat.sub_zero,nx_first,ck_top]
  have h1:qlen (if 1≤j then(hp (wd H) k).f (j-1)else 0)≤PB K k:=by
   split
   ·exact hP k (Nat.le_refl k) _
   ·exact Nat.le_trans q_zero (by omega)
  have h2:=q_sub h1 (q_mul (wd_bq h hn hK (Nat.le_refl k) hk) (hP k (Nat.le_refl k) j) (by omega)) (by omega)
  refine Nat.le_trans h2 ?_
  unfold PB at *
  rw[Nat.add_mul,show 16*3^k*K=8*3^k*K+8*3^k*K by rw[← Nat.add_mul];congr 1;omega]
  omega
 | t+1,ht,j=>by
  have ih:=nx_bq h hn hK hk hP t (by omega) j
  rw[show k-t=k-(t+1)+1 by omega]at ih
  rw[nx_next (wd H) (show k-(t+1)<k by omega),ck_step (show k-(t+1)<k by omega)]
  have hik:k-(t+1)<k:=by omega
  generalize k-(t+1)=i at *
  have h2:=q_sub ih (q_mul (wd_bq h hn hK (show i≤k by omega) hk) (hP i (by omega) j) (by omega)) (by omega)
  refine Nat.le_trans h2 ?_
  unfold PB
  rw[Nat.add_mul,Nat.add_mul]
  omega
theorem hp_bq {n K:Nat} {H:Nat->Nat->Rat} (h:Bq n K H) (hn:n≤5) (hK:1≤K):∀ k,k≤n->∀ j,qlen ((hp (wd H) k).f j)≤PB K k:=by
 have key:∀ m k,k≤m->k≤n->∀ j,qlen ((hp (wd H) k).f j)≤PB K k:=by
  intro m
  induction m with
  | zero =>
   intro k hk _ j
   obtain rfl:k=0:=by omega
   show qlen ((1:Pol Rat).f j)≤8*1*K
   rw[f_one]
   split
   ·exact Nat.le_trans q_one (by omega)
   ·exact Nat.le_trans q_zero (by omega)
  | succ m ih =>
   intro k hk hkn j
   rcases Nat.lt_or_ge k (m+1)with h1 | h1
   ·exact ih k (by omega) hkn j
   ·obtain rfl:k=m+1:=by omega
    have h2:=nx_bq h hn hK (show m<n by omega) (fun a ha=>ih a ha (by omega)) m (Nat.le_refl m) j
    rw[Nat.sub_self,nx_last]at h2
    refine Nat.le_trans h2 ?_
    unfold PB
    rw[show 8*3^(m+1)=24*3^m by rw[Nat.pow_succ];omega]
    exact Nat.mul_le_mul_right K (ck_le (by omega) (by omega))
 exact fun k=>key k k (Nat.le_refl k)
end Mx
end Go.Proofs.YtkmbnldginonbaaGreat
/- Abstract values and states written out whole, so that a run may go on from them: what is known stays known. -/
set_option maxHeartbeats 1000000
namespace Go.Proofs.YtkmbnldginonbaaGreat
open Go.RowKit
def fN {β:Type} (n:Nat) (k:Nat->β):β:=match n with
  | 0=>k 0
  | m+1=>k (Nat.succ m)
theorem fN_eq {β:Type} (n:Nat) (k:Nat->β):fN n k=k n:=by cases n <;> rfl
def fI {β:Type} (n:Int) (k:Int->β):β:=match n with
  | .ofNat m=>fN m fun m=>k (.ofNat m)
  | .negSucc m=>fN m fun m=>k (.negSucc m)
theorem fI_eq {β:Type} (n:Int) (k:Int->β):fI n k=k n:=by cases n <;> simp only[fI,fN_eq]
def fB {β:Type} (b:Bool) (k:Bool->β):β:=match b with
  | true=>k true
  | false=>k false
theorem fB_eq {β:Type} (b:Bool) (k:Bool->β):fB b k=k b:=by cases b <;> rfl
def fK {β:Type} (x:IntKind) (k:IntKind->β):β:=match x with
  | .i8=>k .i8
  | .i16=>k .i16
  | .i32=>k .i32
  | .i64=>k .i64
  | .u8=>k .u8
  | .u16=>k .u16
  | .u32=>k .u32
  | .u64=>k .u64
theorem fK_eq {β:Type} (x:IntKind) (k:IntKind->β):fK x k=k x:=by cases x <;> rfl
def fSeq {α β:Type} (m:Nat) (g:Nat->(α->β)->β) (acc:List α) (k:List α->β):β:=match m with
  | 0=>k acc
  | m+1=>g m fun c=>fSeq m g (c :: acc) k
theorem fSeq_eq {α β : Type} {g : Nat → (α → β) → β} {h : Nat → α} (hg : ∀ x k, g x k = k (h x)) : ∀ (m : Nat) (acc : List α) (k : List α → β), fSeq m g acc k = k ((List.range m).map h ++ acc)
  | 0,_,_=>rfl
  | m+1,acc,k=>by
    simp only[fSeq,hg]
    rw[fSeq_eq hg m]
    rw[List.range_succ,List.map_append,List.append_assoc]
    rfl
def listC (m:Nat) (h:Nat->Cell):List Cell:=(List.range m).map h
def nrmC : Cell → Cell
  | .row sz n f => .row sz n (rowF sz (listC (n*sz) fun x=>nrmC (f (x / sz) (x%sz))))
  | .xp m f => .xp m fun j=>(listC m fun x=>nrmC (f x)).getD j .any
  | .cl F m f => .cl F m fun j=>(listC m fun x=>nrmC (f x)).getD j .any
  | c=>c
def fC {β : Type} : Cell → (Cell → β) → β
  | .any,k=>k .any
  | .bool b,k=>fB b fun b=>k (.bool b)
  | .int x n,k=>fK x fun x=>fI n fun n=>k (.int x n)
  | .nil,k=>k .nil
  | .row sz n f,k=>fN sz fun sz'=>fN n fun n'=>fSeq (n'*sz') (fun x kk=>fC (f (x / sz') (x%sz')) kk) [] fun l=>k (.row sz' n' (rowF sz' l))
  | .p i u sz a o,k=>fN i fun i=>fN u fun u=>fN sz fun sz=>fN a fun a=>fN o fun o=>k (.p i u sz a o)
  | .gs i u,k=>fN i fun i=>fN u fun u=>k (.gs i u)
  | .sl i u sz o n,k=>fN i fun i=>fN u fun u=>fN sz fun sz=>fN o fun o=>fN n fun n=>k (.sl i u sz o n)
  | .xp m f,k=>fN m fun m'=>fSeq m' (fun x kk=>fC (f x) kk) [] fun l=>k (.xp m' fun j=>l.getD j .any)
  | .fn F,k=>fN F fun F=>k (.fn F)
  | .str s,k=>k (.str s)
  | .cl F m f,k=>fN F fun F=>fN m fun m'=>fSeq m' (fun x kk=>fC (f x) kk) [] fun l=>k (.cl F m' fun j=>l.getD j .any)
theorem fC_eq {β : Type} : ∀ (c : Cell) (k : Cell → β), fC c k = k (nrmC c)
  | .any,_=>rfl
  | .bool b,k=>by simp only[fC,fB_eq,nrmC]
  | .int x n,k=>by simp only[fC,fK_eq,fI_eq,nrmC]
  | .nil,_=>rfl
  | .row sz n f,k=>by
    simp only[fC,fN_eq,nrmC]
    rw[fSeq_eq (h:=fun x=>nrmC (f (x / sz) (x%sz))) fun x kk=>fC_eq (f (x / sz) (x%sz)) kk]
    simp only[List.append_nil,listC]
  | .p i u sz a o,k=>by simp only[fC,fN_eq,nrmC]
  | .gs i u,k=>by simp only[fC,fN_eq,nrmC]
  | .sl i u sz o n,k=>by simp only[fC,fN_eq,nrmC]
  | .xp m f,k=>by
    simp only[fC,fN_eq,nrmC]
    rw[fSeq_eq (h:=fun x=>nrmC (f x)) fun x kk=>fC_eq (f x) kk]
    simp only[List.append_nil,listC]
  | .fn F,k=>by simp only[fC,fN_eq,nrmC]
  | .str _,_=>rfl
  | .cl F m f,k=>by
    simp only[fC,fN_eq,nrmC]
    rw[fSeq_eq (h:=fun x=>nrmC (f x)) fun x kk=>fC_eq (f x) kk]
    simp only[List.append_nil,listC]
theorem listC_get {m:Nat} {h:Nat->Cell} {j:Nat} (hj:j<m):(listC m h).getD j .any=h j:=by
  simp[listC,List.getD,hj]
theorem nrmC_rel {D : Nat → Prop} {w : World} : ∀ {c : Cell} {ρ : List Loc} {v : Value}, CRel D w ρ c v → CRel D w ρ (nrmC c) v
  | .any,_,_,h=>h
  | .bool _,_,_,h=>h
  | .int _ _,_,_,h=>h
  | .nil,_,_,h=>h
  | .fn _,_,_,h=>h
  | .str _,_,_,h=>h
  | .p ..,_,_,h=>h
  | .gs ..,_,_,h=>h
  | .sl ..,_,_,h=>h
  | .row sz n f,_,_,h=>by
    obtain⟨A,c,h1,h2,h3⟩:=h
    refine⟨A,c,h1,h2,fun hn=>?_⟩
    obtain⟨b,o,hA,hb,hD,hc⟩:=h3 hn
    refine⟨b,o,hA,hb,hD,fun i j hi hj=>?_⟩
    obtain⟨u,hu,hr⟩:=hc i j hi hj
    refine⟨u,hu,?_⟩
    have h0:0<sz:=by omega
    have e1:(i*sz+j) / sz=i:=by
      rw[Nat.add_comm,Nat.add_mul_div_right _ _ h0,Nat.div_eq_of_lt hj,Nat.zero_add]
    have e2:(i*sz+j)%sz=j:=by rw[Nat.add_comm,Nat.add_mul_mod_self_right,Nat.mod_eq_of_lt hj]
    show CRel D w [] ((listC (n*sz) _).getD (i*sz+j) .any) u
    rw[listC_get (idx_lt hi hj (Nat.le_refl _)),e1,e2]
    exact nrmC_rel hr
  | .xp m f,_,_,h=>by
    obtain⟨b,o,h1,hb,hD,hc⟩:=h
    refine⟨b,o,h1,hb,hD,fun j hj=>?_⟩
    obtain⟨u,hu,hr⟩:=hc j hj
    refine⟨u,hu,?_⟩
    show CRel D w [] ((listC m _).getD j .any) u
    rw[listC_get hj]
    exact nrmC_rel hr
  | .cl F m f,ρ,_,h=>by
    obtain⟨caps,h1,h2,h3⟩:=h
    refine⟨caps,h1,h2,fun j hj=>?_⟩
    obtain⟨u,hu,hr⟩:=h3 j hj
    refine⟨u,hu,?_⟩
    show CRel D w ρ ((listC m _).getD j .any) u
    rw[listC_get hj]
    exact nrmC_rel hr
def fL {β : Type} : List Cell → (List Cell → β) → β
  | [],k=>k []
  | c :: l,k=>fC c fun c=>fL l fun l=>k (c :: l)
theorem fL_eq {β : Type} : ∀ (l : List Cell) (k : List Cell → β), fL l k = k (l.map nrmC)
  | [],_=>rfl
  | c :: l,k=>by simp only[fL,fC_eq,fL_eq l,List.map_cons]
def nrmV : V → V
  | .c x => .c (nrmC x)
  | .g l => .g (l.map nrmC)
  | .t2 a b => .t2 (nrmV a) (nrmV b)
  | .t3 a b d => .t3 (nrmV a) (nrmV b) (nrmV d)
  | .t4 a b d e => .t4 (nrmV a) (nrmV b) (nrmV d) (nrmV e)
  | .un => .un
def fV {β : Type} : V → (V → β) → β
  | .c x,k=>fC x fun x=>k (.c x)
  | .g l,k=>fL l fun l=>k (.g l)
  | .t2 a b,k=>fV a fun a=>fV b fun b=>k (.t2 a b)
  | .t3 a b d,k=>fV a fun a=>fV b fun b=>fV d fun d=>k (.t3 a b d)
  | .t4 a b d e,k=>fV a fun a=>fV b fun b=>fV d fun d=>fV e fun e=>k (.t4 a b d e)
  | .un,k=>k .un
theorem fV_eq {β : Type} : ∀ (x : V) (k : V → β), fV x k = k (nrmV x)
  | .c x,k=>by simp only[fV,fC_eq,nrmV]
  | .g l,k=>by simp only[fV,fL_eq,nrmV]
  | .t2 a b,k=>by simp only[fV,fV_eq a,fV_eq b,nrmV]
  | .t3 a b d,k=>by simp only[fV,fV_eq a,fV_eq b,fV_eq d,nrmV]
  | .t4 a b d e,k=>by simp only[fV,fV_eq a,fV_eq b,fV_eq d,fV_eq e,nrmV]
  | .un,_=>rfl
theorem nrmL_rel {D : Nat → Prop} {w : World} {ρ : List Loc} : ∀ {l : List Cell} {vs : List Value}, CRels D w ρ l vs → CRels D w ρ (l.map nrmC) vs
  | [],[],_=>trivial
  | _ :: _,_ :: _,h=>⟨nrmC_rel h.1,nrmL_rel h.2⟩
  | [],_ :: _,h=>h.elim
  | _ :: _,[],h=>h.elim
theorem nrmV_rel {D : Nat → Prop} {w : World} {ρ : List Loc} : ∀ {x : V} {v : Value}, VRel D w ρ x v → VRel D w ρ (nrmV x) v
  | .c _,_,h=>nrmC_rel h
  | .g _,_,h=>by obtain⟨vs,h1,h2⟩:=h;exact⟨vs,h1,nrmL_rel h2⟩
  | .t2 _ _,_,h=>by obtain⟨x,y,h1,h2,h3⟩:=h;exact⟨x,y,h1,nrmV_rel h2,nrmV_rel h3⟩
  | .t3 _ _ _,_,h=>by obtain⟨x,y,z,h1,h2,h3,h4⟩:=h;exact⟨x,y,z,h1,nrmV_rel h2,nrmV_rel h3,nrmV_rel h4⟩
  | .t4 _ _ _ _,_,h=>by obtain⟨x,y,z,u,h1,h2,h3,h4,h5⟩:=h;exact⟨x,y,z,u,h1,nrmV_rel h2,nrmV_rel h3,nrmV_rel h4,nrmV_rel h5⟩
  | .un,_,h=>h
def nrmB (B:Blk):Blk:=match B.st with
  | 0 | 1=>{ B with f:=rowF B.sz (listC (B.n*B.sz) fun x=>nrmC (B.f (x / B.sz) (x%B.sz))) }
  | _=>phB
def fBlk {β:Type} (B:Blk) (k:Blk->β):β:=match B.st with
  | 0=>fN B.t fun t=>fN B.sz fun sz=>fN B.n fun n=>fN B.u fun u=>fSeq (n*sz) (fun x kk=>fC (B.f (x / sz) (x%sz)) kk) [] fun l=>k ⟨t,sz,n,u,0,rowF sz l⟩
  | 1=>fN B.t fun t=>fN B.sz fun sz=>fN B.n fun n=>fN B.u fun u=>fSeq (n*sz) (fun x kk=>fC (B.f (x / sz) (x%sz)) kk) [] fun l=>k ⟨t,sz,n,u,1,rowF sz l⟩
  | _=>k phB
theorem fBlk_eq {β:Type} (B:Blk) (k:Blk->β):fBlk B k=k (nrmB B):=by
  obtain⟨t,sz,n,u,st,f⟩:=B
  match st with
  | 0 =>
    simp only[fBlk,nrmB,fN_eq]
    rw[fSeq_eq (h:=fun x=>nrmC (f (x / sz) (x%sz))) fun x kk=>fC_eq (f (x / sz) (x%sz)) kk]
    simp only[List.append_nil,listC]
  | 1 =>
    simp only[fBlk,nrmB,fN_eq]
    rw[fSeq_eq (h:=fun x=>nrmC (f (x / sz) (x%sz))) fun x kk=>fC_eq (f (x / sz) (x%sz)) kk]
    simp only[List.append_nil,listC]
  | _+2=>rfl
def fBs {β : Type} : List Blk → (List Blk → β) → β
  | [],k=>k []
  | B :: l,k=>fBlk B fun B=>fBs l fun l=>k (B :: l)
theorem fBs_eq {β : Type} : ∀ (l : List Blk) (k : List Blk → β), fBs l k = k (l.map nrmB)
  | [],_=>rfl
  | B :: l,k=>by simp only[fBs,fBlk_eq,fBs_eq l,List.map_cons]
def listV (m:Nat) (h:Nat->V):List V:=(List.range m).map h
def getV (l:List V) (t:Nat):V:=l.getD t (.c .any)
def nrm (N:Nat) (σ:St):St:=⟨getV (listV N fun t=>nrmV (σ.tm t)),σ.bl.map nrmB⟩
def fSt {β:Type} (N:Nat) (σ:St) (k:St->β):β:=fSeq N (fun t kk=>fV (σ.tm t) kk) [] fun l=>fBs σ.bl fun bl=>k ⟨getV l,bl⟩
theorem fSt_eq {β:Type} (N:Nat) (σ:St) (k:St->β):fSt N σ k=k (nrm N σ):=by
  unfold fSt
  rw[fSeq_eq (h:=fun t=>nrmV (σ.tm t)) fun t kk=>fV_eq (σ.tm t) kk,fBs_eq]
  simp only[List.append_nil,nrm,listV]
def Lax (σ σ':St):Prop:=∀ C a w,Rel C σ a w->Rel C σ' a w
theorem Lax.refl (σ:St):Lax σ σ:=fun _ _ _ h=>h
theorem Lax.trans {a b c:St} (h:Lax a b) (k:Lax b c):Lax a c:=fun C x w hr=>k C x w (h C x w hr)
theorem Weak.lax {σ σ':St} (h:∀ m0,Weak m0 σ σ'):Lax σ σ':=fun C a w hr=>h C.ρ0.length C a w (Nat.le_refl _) hr
theorem Sat.less {D0 : Nat → Prop} {w0 : Base} {w : World} {r : Bool} {ρ : List Loc} {bl : List Blk} (h : Sat D0 w0 r ρ bl w) (g : Blk → Blk) (hst : ∀ B, (g B).st ≤ 1 → (g B).st = B.st ∧ (g B).t = B.t ∧ (g B).sz = B.sz ∧ (g B).n = B.n ∧ (g B).u = B.u)
    (hc:∀ B∈bl,(g B).st≤1->∀ i j,i<B.n->j<B.sz->∀ v,CRel (Dof D0 ρ bl) w (if B.st=0 then ρ else []) (B.f i j) v->CRel (Dof D0 ρ bl) w (if B.st=0 then ρ else []) ((g B).f i j) v):Sat D0 w0 r ρ (bl.map g) w/\(∀ b,Dof D0 ρ (bl.map g) b->Dof D0 ρ bl b):=by
  have get:∀(k:Nat) (B':Blk),(bl.map g)[k]? = some B'->∃ B,bl[k]? = some B/\B'=g B:=by
    intro k B' hk
    rw[List.getElem?_map]at hk
    cases hb:bl[k]? with
    | none=>rw[hb]at hk;cases hk
    | some B=>rw[hb]at hk;cases hk;exact⟨B,rfl,rfl⟩
  have hD:∀ b,Dof D0 ρ (bl.map g) b->Dof D0 ρ bl b:=by
    rintro b (hx | ⟨k,l,B',e1,e2,e3,e4⟩)
    · exact .inl hx
    · obtain⟨B,q1,rfl⟩:=get k B' e2
      exact .inr ⟨k,l,B,e1,q1,by rw[← (hst B (by omega)).1];exact e3,e4⟩
  refine⟨⟨h.below,h.d0,by simp[h.len],fun k l B' e1 e2 hs=>?_,fun i j li lj Bi Bj b e1 e2 e3 e4 e5 e6 e7 e8=>?_,fun hr b o d hb=>h.noU hr b o d (hD b hb)⟩,hD⟩
  · obtain⟨B,q1,rfl⟩:=get k B' e2
    obtain⟨s1,s2,s3,s4,s5⟩:=hst B hs
    obtain⟨g0,g1⟩:=h.at_ k l B e1 q1 (by omega)
    rw[s1,s2,s3,s4,s5]
    refine⟨g0,?_⟩
    rcases g1 with g1 | ⟨b,cap,cs,g2,g3,g4,g5,g6,g7,g8,g9⟩
    · exact .inl g1
    · refine .inr ⟨b,cap,cs,g2,g3,g4,g5,g6,g7,g8,fun i j hi hj=>?_⟩
      obtain⟨u,hu,hur⟩:=g9 i j hi hj
      exact⟨u,hu,(hc B (List.mem_of_getElem? q1) hs i j hi hj u hur).step (Ext.refl _ _) (fun b _ hb=>hD b hb) (LocsLe.refl _)⟩
  · obtain⟨B1,q1,rfl⟩:=get i Bi e3
    obtain⟨B2,q2,rfl⟩:=get j Bj e4
    exact h.dist i j li lj B1 B2 b e1 e2 q1 q2 (by rw[← (hst B1 e5).1];exact e5) (by rw[← (hst B2 e6).1];exact e6) e7 e8
theorem Lax.nrm (N:Nat) (σ:St):Lax σ (nrm N σ):=by
  rintro C a w ⟨ρ,hs,hN,hdf,hf⟩
  obtain⟨s1,s2⟩:=hs.less nrmB (fun B hb=>by
    obtain⟨t,sz,n,u,st,f⟩:=B
    match st,hb with
    | 0,_=>exact⟨rfl,rfl,rfl,rfl,rfl⟩
    | 1,_=>exact⟨rfl,rfl,rfl,rfl,rfl⟩
    | _+2,hb=>exact absurd hb (by simp[nrmB,phB])) (fun B _ hb i j hi hj v hv=>by
    obtain⟨t,sz,n,u,st,f⟩:=B
    have h0:0<sz:=Nat.lt_of_le_of_lt (Nat.zero_le _) hj
    have e1:(i*sz+j) / sz=i:=by
      rw[Nat.add_comm,Nat.add_mul_div_right _ _ h0,Nat.div_eq_of_lt hj,Nat.zero_add]
    have e2:(i*sz+j)%sz=j:=by rw[Nat.add_comm,Nat.add_mul_mod_self_right,Nat.mod_eq_of_lt hj]
    have key:CRel (Dof C.D0 ρ σ.bl) w (if st=0 then ρ else []) (rowF sz (listC (n*sz) fun x=>nrmC (f (x / sz) (x%sz))) i j) v:=by
      show CRel _ _ _ ((listC (n*sz) _).getD (i*sz+j) .any) v
      rw[listC_get (idx_lt hi hj (Nat.le_refl _)),e1,e2]
      exact nrmC_rel hv
    match st,hb with
    | 0,_=>exact key
    | 1,_=>exact key
    | _+2,hb=>exact absurd hb (by simp[nrmB,phB]))
  refine⟨ρ,s1,hN,hdf,fun t=>?_⟩
  show VRel _ _ _ (getV (listV N fun t=>nrmV (σ.tm t)) t) _
  have:getV (listV N fun t=>nrmV (σ.tm t)) t=nrmV (σ.tm t)∨getV (listV N fun t=>nrmV (σ.tm t)) t = .c .any:=by
    rcases Nat.lt_or_ge t N with h | h
    · left;simp[getV,listV,List.getD,h]
    · right;simp[getV,listV,List.getD,h]
  rcases this with e | e
  · rw[e];exact(nrmV_rel (hf t)).step (Ext.refl _ _) (fun b _ hb=>s2 b hb) (LocsLe.refl _)
  · rw[e];trivial
end Go.Proofs.YtkmbnldginonbaaGreat
/- Abstract operations asl functions: what each yields, where all that it asks is known. -/
namespace Go.Proofs.YtkmbnldginonbaaGreat
open Go.RowKit
def chkX {α:Type} (b:Bool) (p:Option α):Option α:=match b with
  | true=>p
  | false=>none
theorem chkX_some {α:Type} {b:Bool} {p:Option α} {r:α} (h:chkX b p=some r):b=true/\p=some r:=by
  cases b with
  | true=>exact⟨rfl,h⟩
  | false=>cases h
theorem chk_mk {b:Bool} {p:Prop} (hb:b=true) (h:p):chk b p:=by subst hb;exact h
def inRX (k:IntKind) (n:Int):Bool:=match k with
  | .i64=>decide (-9223372036854775808≤n)&&decide (n<9223372036854775808)
  | .u64=>decide (0≤n)&&decide (n<18446744073709551616)
  | .u32=>decide (0≤n)&&decide (n<4294967296)
  | k=>decide (k.wrap n=n)
theorem inRX_ok {k:IntKind} {n:Int} (h:inRX k n=true):inR k n:=by
  cases k <;> simp only[inRX,inR,Bool.and_eq_true,decide_eq_true_eq]at h ⊢ <;> exact h
def arX (k:IntKind) (n:Int):Option V:=match k with
  | .u64 | .u32 | .u16 | .u8=>some (.c (.int k (k.wrap n)))
  | k=>chkX (inRX k n) (some (.c (.int k n)))
theorem arX_ok {k:IntKind} {n:Int} {v:V} (h:arX k n=some v) {K:V->Prop} (hK:K v):arB k n K:=by
  cases k <;> simp only [arX] at h <;> simp only [arB] <;> first
    | (cases h;exact hK)
    | (obtain⟨h1,h2⟩:=chkX_some h;cases h2;exact⟨inRX_ok h1,hK⟩)
def binX (op:BinOp) (k:IntKind) (a b:Int):Option V:=match op with
  | .add=>arX k (a+b)
  | .sub=>arX k (a-b)
  | .mul=>arX k (a*b)
  | .quo=>chkX (!decide (b=0)&&inRX k (a.tdiv b)) (some (.c (.int k (a.tdiv b))))
  | .rem=>chkX (!decide (b=0)) (some (.c (.int k (a.tmod b))))
  | .eql=>some (.c (.bool (decide (a=b))))
  | .neq=>some (.c (.bool (!decide (a=b))))
  | .lss=>some (.c (.bool (decide (a<b))))
  | .leq=>some (.c (.bool (decide (a≤b))))
  | .gtr=>some (.c (.bool (decide (b<a))))
  | .geq=>some (.c (.bool (decide (b≤a))))
  | .shl=>chkX (decide (0≤b)) (some (.c (.int k (k.wrap (a*2^min b.toNat k.bits)))))
  | .shr=>chkX (decide (0≤b)) (some (.c (.int k (a.fdiv (2^min b.toNat k.bits)))))
  | .and=>some (.c (.int k (k.wrap (BitVec.ofInt k.bits a &&& BitVec.ofInt k.bits b).toNat)))
  | .or=>some (.c (.int k (k.wrap (BitVec.ofInt k.bits a ||| BitVec.ofInt k.bits b).toNat)))
  | .xor=>some (.c (.int k (k.wrap (BitVec.ofInt k.bits a ^^^ BitVec.ofInt k.bits b).toNat)))
  | _=>none
theorem binX_ok {op:BinOp} {k:IntKind} {a b:Int} {v:V} (h:binX op k a b=some v) {K:V->Prop} (hK:K v):intBin op k a b K:=by
  cases op <;> simp only[binX]at h <;> simp only[intBin]
  case add=>exact arX_ok h hK
  case sub=>exact arX_ok h hK
  case mul=>exact arX_ok h hK
  case quo =>
    obtain⟨h1,h2⟩:=chkX_some h;cases h2
    simp only[Bool.and_eq_true,Bool.not_eq_true',decide_eq_false_iff_not]at h1
    exact⟨h1.1,inRX_ok h1.2,hK⟩
  case rem =>
    obtain⟨h1,h2⟩:=chkX_some h;cases h2
    simp only[Bool.not_eq_true',decide_eq_false_iff_not]at h1
    exact⟨h1,hK⟩
  case shl=>obtain⟨h1,h2⟩:=chkX_some h;cases h2;exact⟨of_decide_eq_true h1,hK⟩
  case shr=>obtain⟨h1,h2⟩:=chkX_some h;cases h2;exact⟨of_decide_eq_true h1,hK⟩
  all_goals (first | (cases h;done) | (cases h;exact hK))
def sliceX (bl:List Blk) (x:V) (lo hi:Option V):Option V :=
  match (match lo with | none=>some 0 | some (V.c (.int .i64 n))=>some n | _=>none),(match hi with | none=>(lenA bl x).map Int.ofNat | some (V.c (.int .i64 n))=>some n | _=>none)with
  | some l,some h=>chkX (decide (0≤l)&&decide (l≤h)) (match x with
    | .c (.row sz n f)=>chkX (decide (h≤n)) (some (.c (.row sz (h-l).toNat fun i j=>f (l.toNat+i) j)))
    | .c (.gs k u)=>match bl[k]? with
      | some B=>chkX (B.u == u&&B.st.ble 1) (chkX (decide (h≤B.n)) (some (.c (.sl k u B.sz l.toNat (h-l).toNat))))
      | none=>none
    | .c (.sl k u sz o n)=>match bl[k]? with
      | some B=>chkX (B.u == u&&B.st.ble 1) (chkX (decide (h≤n)) (some (.c (.sl k u sz (o+l.toNat) (h-l).toNat))))
      | none=>none
    | _=>none)
  | _,_=>none
theorem sliceX_ok {bl:List Blk} {x:V} {lo hi:Option V} {v:V} (h:sliceX bl x lo hi=some v) {K:V->Prop} (hK:K v):sliceA bl x lo hi K:=by
  unfold sliceX at h
  split at h
  · rename_i l hh e1 e2
    obtain⟨h1,h⟩:=chkX_some h
    simp only[Bool.and_eq_true,decide_eq_true_eq]at h1
    unfold sliceA
    split
    · rename_i l' hh' e1' e2'
      have q1:some l=some l':=e1.symm.trans e1'
      have q2:some hh=some hh':=e2.symm.trans e2'
      cases q1
      cases q2
      refine⟨h1.1,h1.2,?_⟩
      split at h
      · obtain⟨h2,h⟩:=chkX_some h
        cases h
        exact⟨of_decide_eq_true h2,hK⟩
      · split at h
        · rename_i B hB
          obtain⟨h2,h⟩:=chkX_some h
          obtain⟨h3,h⟩:=chkX_some h
          cases h
          simp only[hB]
          exact chk_mk h2 ⟨of_decide_eq_true h3,hK⟩
        · cases h
      · split at h
        · rename_i B hB
          obtain⟨h2,h⟩:=chkX_some h
          obtain⟨h3,h⟩:=chkX_some h
          cases h
          simp only[hB]
          exact chk_mk h2 ⟨of_decide_eq_true h3,hK⟩
        · cases h
      · cases h
    · rename_i hno
      exact hno l hh e1 e2
  · cases h
def dopX (E:Env) (q:FuncId->List V->Option V) (o:Op) (σ:St):Option V :=
  match o with
  | .move x | .assign x=>some (σ.ev x)
  | .pick c a b=>match σ.ev c with
    | .c (.bool true)=>some (σ.ev a)
    | .c (.bool false)=>some (σ.ev b)
    | _=>none
  | .load T x=>match E.ty T with
    | some ti=>chkX (ti.agg||ti.size == 1) (match σ.ev x with
      | .c (.p k u sz i o)=>match σ.bl[k]? with
        | some B=>chkX (B.u == u&&(B.sz == sz&&(B.st.ble 1&&(o+ti.size).ble sz))) (some (ofCells ti.agg ((List.range ti.size).map fun j=>B.f i (o+j))))
        | none=>none
      | .c (.xp m f)=>chkX (ti.size.ble m) (some (ofCells ti.agg ((List.range ti.size).map f)))
      | _=>none)
    | none=>none
  | .fieldAddr T x fld=>match E.ty T with
    | some ti=>match ti.offs[fld]? with
      | some (some (off,_))=>match σ.ev x with
        | .c (.p k u sz i o)=>match σ.bl[k]? with
          | some B=>chkX (B.u == u&&B.st.ble 1) (some (.c (.p k u sz i (o+off))))
          | none=>none
        | .c (.xp m f)=>chkX (off.ble m) (some (.c (.xp (m-off) fun j=>f (off+j))))
        | _=>none
      | _=>none
    | none=>none
  | .indexAddr T x ix=>match E.ty T with
    | some ti=>match ti.elem with
      | some e=>match E.ty e,σ.ev ix with
        | some te,.c (.int _ n)=>chkX (decide (0≤n)) (match σ.ev x with
          | .c (.row sz m f)=>chkX (decide (n<m)) (chkX (te.size == sz) (some (.c (.xp sz (f n.toNat)))))
          | .c (.gs k u)=>match σ.bl[k]? with
            | some B=>chkX (decide (n<B.n)) (chkX (B.u == u&&(B.st.ble 1&&te.size == B.sz)) (some (.c (.p k u B.sz n.toNat 0))))
            | none=>none
          | .c (.sl k u sz o m)=>match σ.bl[k]? with
            | some B=>chkX (decide (n<m)) (chkX (B.u == u&&(B.st.ble 1&&te.size == sz)) (some (.c (.p k u sz (o+n.toNat) 0))))
            | none=>none
          | _=>none)
        | _,_=>none
      | none=>none
    | none=>none
  | .build T parts=>match E.ty T with
    | some ti=>match fillA σ.bl ti.offs ti.zero (parts.toList.map fun q=>(q.1,σ.ev q.2))with
      | some l=>chkX (!ti.offs.isEmpty&&ti.offs.all Option.isSome) (some (.g l))
      | none=>none
    | none=>none
  | .binOp op T x y _=>match σ.ev x,σ.ev y with
    | .c (.int k a),.c (.int k' b)=>chkX (decide (k=k')||shiftB op) (binX op k a b)
    | .c (.bool a),.c (.bool b)=>match E.ty T with
      | some ti=>chkX (ti.kd == 1) (match op with
        | .eql=>some (.c (.bool (a == b)))
        | .neq=>some (.c (.bool (!(a == b))))
        | _=>none)
      | none=>none
    | .c (.row _ n _),.c .nil=>match E.ty T with
      | some ti=>chkX (ti.elem.isSome&&decide (0<n)) (match op with
        | .eql=>some (.c (.bool false))
        | .neq=>some (.c (.bool true))
        | _=>none)
      | none=>none
    | _,_=>none
  | .unOp op _ x=>match op,σ.ev x with
    | .not,.c (.bool b)=>some (.c (.bool !b))
    | .neg,.c (.int k n)=>some (.c (.int k (k.wrap (-n))))
    | .xor,.c (.int k n)=>some (.c (.int k (k.wrap (BitVec.ofInt k.bits (if k.signed then -1 else k.max) ^^^ BitVec.ofInt k.bits n).toNat)))
    | _,_=>none
  | .convert S T x=>match E.ty S,E.ty T,σ.ev x with
    | some ts,some ti,.c (.int _ n)=>match ts.ik,ti.ik with
      | some _,some k=>some (.c (.int k (k.wrap n)))
      | _,_=>none
    | _,_,_=>none
  | .extract x i=>extractA (σ.ev x) i
  | .slice T x lo hi none=>match E.ty T with
    | some ti=>match ti.elem with
      | some e=>match E.ty e with
        | some te=>chkX (match szA σ.bl (σ.ev x)with | some z=>z == te.size | none=>false) (sliceX σ.bl (σ.ev x) (lo.map σ.ev) (hi.map σ.ev))
        | none=>none
      | none=>none
    | none=>none
  | .call { callee := .builtin .len,args,argTypes }=>match args.toList,argTypes.toList with
    | [x],[T]=>match E.ty T,lenA σ.bl (σ.ev x)with
      | some ti,some n=>chkX ti.elem.isSome (some (.c (.int .i64 n)))
      | _,_=>none
    | _,_=>none
  | .call { callee := .builtin .max,args,.. }=>match args.toList.map σ.ev with
    | [.c (.int k a),.c (.int _ b)]=>some (.c (.int k (if b > a then b else a)))
    | _=>none
  | .call { callee := .builtin .min,args,.. }=>match args.toList.map σ.ev with
    | [.c (.int k a),.c (.int _ b)]=>some (.c (.int k (if b<a then b else a)))
    | _=>none
  | .call { callee := .value g,args,.. }=>match calleeA σ g with
    | some f=>chkX ((args.toList.map fun x=>St.close σ.bl (σ.ev x)).all V.clos) (q f (args.toList.map fun x=>St.close σ.bl (σ.ev x)))
    | none=>match capsA σ g with
      | some (f,cs)=>chkX (((args.toList.map fun x=>St.close σ.bl (σ.ev x))++cs.map fun c=>V.c (St.closeC σ.bl c)).all V.clos) (q f ((args.toList.map fun x=>St.close σ.bl (σ.ev x))++cs.map fun c=>V.c (St.closeC σ.bl c)))
      | none=>none
  | .index T (.const (.string s)) ix=>match E.ty T,σ.ev ix with
    | some ti,.c (.int _ n)=>chkX (ti.kd == 2&&decide (0≤n)) (match s[n.toNat]? with
      | some b=>some (.c (.int .u8 (b.toNat:Int)))
      | none=>none)
    | _,_=>none
  | .makeFunc (.func f) first captured=>chkX (first.size == 0) (some (.c (.cl f captured.size (capC σ captured.toList))))
  | .field T x fld=>match E.ty T with
    | some ti=>match ti.offs[fld]?,σ.ev x with
      | some (some (off,_)),.g l=>match l[off]? with
        | some c=>chkX (ti.kd == 3) (some (.c c))
        | none=>none
      | _,_=>none
    | none=>none
  | .nilCheck x=>match σ.ev x with
    | .c (.p k u sz i o)=>match σ.bl[k]? with
      | some B=>chkX (B.u == u&&B.st.ble 1) (some (.c (.p k u sz i o)))
      | none=>none
    | .c (.xp m f)=>some (.c (.xp m f))
    | _=>none
  | _=>none
theorem dopX_ok {E:Env} {q:FuncId->List V->Option V} (hq:∀ f asl X,q f asl=some X->FnOK E.P E.r f asl X) {o:Oper} {σ:St} {v:V} (h:dopX E q o.op σ=some v) {K:V->Prop} (hK:K v):dop E o σ K:=by
  unfold dop
  unfold dopX at h
  split at h
  case h_1 x hx=>rw[hx];cases h;exact hK
  case h_2 x hx=>rw[hx];cases h;exact hK
  case h_3 c a b hx =>
    rw[hx]
    simp only
    split at h
    · rename_i e;cases h;rw[e];exact hK
    · rename_i e;cases h;rw[e];exact hK
    · cases h
  case h_4 T x hx =>
    rw[hx]
    simp only
    split at h
    · rename_i ti ht
      rw[ht]
      obtain⟨h1,h⟩:=chkX_some h
      refine chk_mk h1 ?_
      split at h
      · rename_i e
        rw[e]
        simp only
        split at h
        · rename_i B hB
          obtain⟨h2,h⟩:=chkX_some h
          cases h
          simp only[hB]
          exact chk_mk h2 hK
        · cases h
      · rename_i e
        rw[e]
        obtain⟨h2,h⟩:=chkX_some h
        cases h
        exact chk_mk h2 hK
      · cases h
    · cases h
  case h_5 T x fld hx =>
    rw[hx]
    simp only
    split at h
    · rename_i ti ht
      rw[ht]
      simp only
      split at h
      · rename_i off y ho
        rw[ho]
        simp only
        split at h
        · rename_i e
          rw[e]
          simp only
          split at h
          · rename_i B hB
            obtain⟨h2,h⟩:=chkX_some h
            cases h
            simp only[hB]
            exact chk_mk h2 hK
          · cases h
        · rename_i e
          rw[e]
          obtain⟨h2,h⟩:=chkX_some h
          cases h
          exact chk_mk h2 hK
        · cases h
      · cases h
    · cases h
  case h_6 T x ix hx =>
    rw[hx]
    simp only
    split at h
    · rename_i ti ht
      rw[ht]
      simp only
      split at h
      · rename_i e he
        rw[he]
        simp only
        split at h
        · rename_i te kk n hte hn
          rw[hte,hn]
          obtain⟨h1,h⟩:=chkX_some h
          refine⟨of_decide_eq_true h1,?_⟩
          split at h
          · rename_i e1
            rw[e1]
            obtain⟨h2,h⟩:=chkX_some h
            obtain⟨h3,h⟩:=chkX_some h
            cases h
            exact⟨of_decide_eq_true h2,chk_mk h3 hK⟩
          · rename_i e1
            rw[e1]
            simp only
            split at h
            · rename_i B hB
              obtain⟨h2,h⟩:=chkX_some h
              obtain⟨h3,h⟩:=chkX_some h
              cases h
              simp only[hB]
              exact⟨of_decide_eq_true h2,chk_mk h3 hK⟩
            · cases h
          · rename_i e1
            rw[e1]
            simp only
            split at h
            · rename_i B hB
              obtain⟨h2,h⟩:=chkX_some h
              obtain⟨h3,h⟩:=chkX_some h
              cases h
              simp only[hB]
              exact⟨of_decide_eq_true h2,chk_mk h3 hK⟩
            · cases h
          · cases h
        · cases h
      · cases h
    · cases h
  case h_7 T parts hx =>
    rw[hx]
    simp only
    split at h
    · rename_i ti ht
      rw[ht]
      simp only
      split at h
      · rename_i l hl
        rw[hl]
        obtain⟨h2,h⟩:=chkX_some h
        cases h
        exact chk_mk h2 hK
      · cases h
    · cases h
  case h_8 op T x y T' hx =>
    rw[hx]
    simp only
    split at h
    · rename_i e1 e2
      rw[e1,e2]
      obtain⟨h2,h⟩:=chkX_some h
      exact chk_mk h2 (binX_ok h hK)
    · rename_i e1 e2
      rw[e1,e2]
      simp only
      split at h
      · rename_i ti ht
        rw[ht]
        obtain⟨h2,h⟩:=chkX_some h
        refine chk_mk h2 ?_
        unfold boolBin
        split at h
        · cases h;exact hK
        · cases h;exact hK
        · cases h
      · cases h
    · rename_i e1 e2
      rw[e1,e2]
      simp only
      split at h
      · rename_i ti ht
        rw[ht]
        obtain⟨h2,h⟩:=chkX_some h
        simp only[Bool.and_eq_true,decide_eq_true_eq]at h2
        refine chk_mk h2.1 ⟨h2.2,?_⟩
        unfold nilBin
        split at h
        · cases h;exact hK
        · cases h;exact hK
        · cases h
      · cases h
    · cases h
  case h_9 op T x hx =>
    rw[hx]
    simp only
    split at h
    · rename_i e;rw[e];cases h;exact hK
    · rename_i e;rw[e];cases h;exact hK
    · rename_i e;rw[e];cases h;exact hK
    · cases h
  case h_10 S T x hx =>
    rw[hx]
    simp only
    split at h
    · rename_i e1 e2 e3
      rw[e1,e2,e3]
      simp only
      split at h
      · rename_i e4 e5
        rw[e4,e5]
        cases h;exact hK
      · cases h
    · cases h
  case h_11 x i hx =>
    rw[hx]
    simp only
    rw[h]
    exact hK
  case h_12 T x lo hi hx =>
    rw[hx]
    simp only
    split at h
    · rename_i ti ht
      rw[ht]
      simp only
      split at h
      · rename_i e he
        rw[he]
        simp only
        split at h
        · rename_i te hte
          rw[hte]
          obtain⟨h2,h⟩:=chkX_some h
          exact chk_mk h2 (sliceX_ok h hK)
        · cases h
      · cases h
    · cases h
  case h_13 args ts hx =>
    rw[hx]
    simp only
    split at h
    · rename_i x T e1 e2
      rw[e1,e2]
      simp only
      split at h
      · rename_i ti n e3 e4
        rw[e3,e4]
        obtain⟨h2,h⟩:=chkX_some h
        cases h
        exact chk_mk h2 hK
      · cases h
    · cases h
  case h_14 args ts hx =>
    rw[hx]
    simp only
    split at h
    · rename_i e;rw[e];cases h;exact hK
    · cases h
  case h_15 args ts hx =>
    rw[hx]
    simp only
    split at h
    · rename_i e;rw[e];cases h;exact hK
    · cases h
  case h_16 g args ts hx =>
    rw[hx]
    simp only
    split at h
    · rename_i f hf
      rw[hf]
      obtain⟨h2,h⟩:=chkX_some h
      exact chk_mk h2 ⟨_,hq _ _ _ h,hK⟩
    · rename_i hf
      rw[hf]
      simp only
      split at h
      · rename_i f cs hcs
        rw[hcs]
        obtain⟨h2,h⟩:=chkX_some h
        exact chk_mk h2 ⟨_,hq _ _ _ h,hK⟩
      · cases h
  case h_17 T s ix hx =>
    rw[hx]
    simp only
    split at h
    · rename_i e1 e2
      rw[e1,e2]
      obtain⟨h2,h⟩:=chkX_some h
      simp only[Bool.and_eq_true,decide_eq_true_eq]at h2
      refine chk_mk h2.1 ⟨h2.2,?_⟩
      split at h
      · rename_i b hb
        rw[hb]
        cases h;exact hK
      · cases h
    · cases h
  case h_18 f first captured hx =>
    rw[hx]
    obtain⟨h2,h⟩:=chkX_some h
    cases h
    exact chk_mk h2 hK
  case h_19 T x fld hx =>
    rw[hx]
    simp only
    split at h
    · rename_i ti ht
      rw[ht]
      simp only
      split at h
      · rename_i off y l ho hv
        rw[ho,hv]
        simp only
        split at h
        · rename_i c hc
          rw[hc]
          obtain⟨h2,h⟩:=chkX_some h
          cases h
          exact chk_mk h2 hK
        · cases h
      · cases h
    · cases h
  case h_20 x hx =>
    rw[hx]
    simp only
    split at h
    · rename_i e
      rw[e]
      simp only
      split at h
      · rename_i B hB
        obtain⟨h2,h⟩:=chkX_some h
        cases h
        simp only[hB]
        exact chk_mk h2 hK
      · cases h
    · rename_i e
      rw[e]
      cases h
      exact hK
    · cases h
  case h_21=>cases h
end Go.Proofs.YtkmbnldginonbaaGreat
/- Abstract operations that make or write blocks, asl functions; regions whose order is open. -/
namespace Go.Proofs.YtkmbnldginonbaaGreat
open Go.RowKit
def allIJ (n m:Nat) (p:Nat->Nat->Bool):Bool:=(List.range n).all fun i=>(List.range m).all fun j=>p i j
theorem allIJ_ok {n m:Nat} {p:Nat->Nat->Bool} (h:allIJ n m p=true) {i j:Nat} (hi:i<n) (hj:j<m):p i j=true :=
  List.all_eq_true.1 (List.all_eq_true.1 h i (List.mem_range.2 hi)) j (List.mem_range.2 hj)
def appKX (E:Env) (dst:Option Nat) (σ:St) (k u:Nat) (e:TypeId) (te:TI) (y:V):Option St :=
  match σ.bl[k]?,srcA σ.bl te.size k y with
  | some B,some (m,fy)=>chkX (B.u == u&&(B.st == 0&&(B.sz == te.size&&B.t == e))) (chkX (decide (B.n+m≤16777216)&&allIJ m te.size fun i j=>St.one σ.bl (fy i j)&&(!E.r||(fy i j).noU)) (some (St.put { σ with bl:=σ.bl.set k ⟨B.t,B.sz,B.n+m,B.u+1,0,appF B.n B.f fy⟩ } dst (.c (.gs k (u+1))))))
  | _,_=>none
theorem appKX_ok {E:Env} {dst:Option Nat} {σ σ':St} {k u:Nat} {e:TypeId} {te:TI} {y:V} (h:appKX E dst σ k u e te y=some σ') {K:St->Prop} (hK:K σ'):appK E dst σ k u e te y K:=by
  unfold appKX at h
  unfold appK
  split at h
  · rename_i B m fy e1 e2
    rw[e1,e2]
    obtain⟨h1,h⟩:=chkX_some h
    obtain⟨h2,h⟩:=chkX_some h
    cases h
    simp only[Bool.and_eq_true,decide_eq_true_eq]at h2
    refine chk_mk h1 ⟨h2.1,fun i j hi hj=>?_,hK⟩
    have:=allIJ_ok h2.2 hi hj
    simp only[Bool.and_eq_true,Bool.or_eq_true,Bool.not_eq_true']at this
    exact⟨this.1,fun hr=>this.2.resolve_left (by rw[hr];simp)⟩
  · cases h
def appX (E:Env) (dst:Option Nat) (σ:St) (args:List Operand) (ts:List TypeId):Option St:=match args,ts with
  | [x,y],[T,T']=>match E.ty T with
    | some ti=>match ti.elem with
      | some e=>match E.ty e with
        | some te=>chkX (((E.ty T').bind (·.elem) == some e)&&(te.zero.length == te.size&&((1:Nat).ble te.size&&((!E.r||te.zero.all Cell.noU)&&te.bytes.ble 8388608)))) (match σ.ev x with
          | .c (.gs k u)=>appKX E dst σ k u e te (σ.ev y)
          | .c .nil=>appKX E dst (nilB σ e te.size) σ.bl.length 0 e te (σ.ev y)
          | _=>none)
        | none=>none
      | none=>none
    | none=>none
  | _,_=>none
theorem appX_ok {E:Env} {dst:Option Nat} {σ σ':St} {args:List Operand} {ts:List TypeId} (h:appX E dst σ args ts=some σ') {K:St->Prop} (hK:K σ'):appA E dst σ args ts K:=by
  unfold appX at h
  unfold appA
  split at h
  · split at h
    · rename_i ti ht
      simp only[ht]
      split at h
      · rename_i e he
        simp only[he]
        split at h
        · rename_i te hte
          simp only[hte]
          obtain⟨h1,h⟩:=chkX_some h
          refine chk_mk h1 ?_
          split at h
          · rename_i e1;rw[e1];exact appKX_ok h hK
          · rename_i e1;rw[e1];exact appKX_ok h hK
          · cases h
        · cases h
      · cases h
    · cases h
  · cases h
def frz1X (σ:St) (x:V):Option St :=
  match x with
  | .c (.gs k _) | .c (.sl k _ _ _ _) | .c (.p k _ _ _ _)=>match σ.bl[k]? with
    | some B=>match B.st with
      | 0=>chkX (allIJ B.n B.sz fun i j=>(B.f i j).clos) (some { σ with bl:=σ.bl.set k { B with st:=1 } })
      | _=>some σ
    | none=>some σ
  | _=>some σ
theorem frz1X_ok {σ σ':St} {x:V} (h:frz1X σ x=some σ') {K:St->Prop} (hK:K σ'):frz1 σ x K:=by
  unfold frz1X at h
  unfold frz1
  split at h
  all_goals first
    | (split at h
       · rename_i B hB
         simp only[hB]
         split at h
         · rename_i hst
           obtain⟨h1,h⟩:=chkX_some h
           cases h
           rw[hst]
           exact⟨fun i j hi hj=>allIJ_ok h1 hi hj,hK⟩
         · rename_i hst
           cases h
           split
           · rename_i e;exact absurd e hst
           · exact hK
       · rename_i hB
         cases h
         simp only[hB]
         exact hK)
    | (rename_i h1 h2 h3
       cases h
       split
       · exact absurd rfl (h1 _ _)
       · exact absurd rfl (h2 _ _ _ _ _)
       · exact absurd rfl (h3 _ _ _ _ _)
       · exact hK)
def frzAX : List V → St → Option St
  | [],σ=>some σ
  | x :: l,σ=>match frz1X σ x with
    | some σ'=>frzAX l σ'
    | none=>none
theorem frzAX_ok : ∀ (l : List V) {σ σ' : St}, frzAX l σ = some σ' → ∀ {K : St → Prop}, K σ' → frzA l σ K
  | [],_,_,h,_,hK=>by cases h;exact hK
  | x :: l,σ,σ',h,K,hK=>by
    simp only[frzAX]at h
    split at h
    · rename_i σ1 h1
      exact frz1X_ok h1 (frzAX_ok l h hK)
    · cases h
def aopX (E:Env) (q:FuncId->List V->Option V) (o:Oper) (σ:St):Option St :=
  match o.op with
  | .box T x=>match cellsV σ.bl E.r (σ.ev x)with
    | some l=>some ((σ.push ⟨T,l.length,1,0,0,boxF l⟩).put o.dst (.c (.p σ.bl.length 0 l.length 0 0)))
    | none=>none
  | .alloc T=>match E.ty T with
    | some ti=>match cellsV σ.bl E.r (.g ti.zero)with
      | some l=>some ((σ.push ⟨T,l.length,1,0,0,boxF l⟩).put o.dst (.c (.p σ.bl.length 0 l.length 0 0)))
      | none=>none
    | none=>none
  | .store T x y=>match E.ty T,σ.ev x,cellsV σ.bl E.r (σ.ev y)with
    | some ti,.c (.p k u sz i o'),some l=>match σ.bl[k]? with
      | some B=>chkX (B.u == u&&(B.sz == sz&&(B.st == 0&&(l.length == ti.size&&(o'+l.length).ble sz)))) (some (St.put { σ with bl:=σ.bl.set k { B with f:=updF B.f i o' l } } o.dst (.c .any)))
      | none=>none
    | _,_,_=>none
  | .makeSlice T ln cp=>match E.ty T with
    | some ti=>match ti.elem with
      | some e=>match E.ty e,σ.ev ln,σ.ev cp with
        | some te,.c (.int _ n),.c (.int _ c)=>chkX (decide (0≤n)&&(decide (n≤c)&&(decide (c≤281474976710656)&&(decide ((te.bytes:Int)*c≤281474976710656)&&te.zero.length == te.size)))) (match cellsV σ.bl E.r (.g te.zero)with
          | some l=>some ((σ.push ⟨e,te.size,n.toNat,0,0,zeroF l⟩).put o.dst (.c (.gs σ.bl.length 0)))
          | none=>none)
        | _,_,_=>none
      | none=>none
    | none=>none
  | .buildSlice T len parts=>match E.ty T with
    | some ti=>match ti.elem with
      | some e=>match E.ty e with
        | some te=>chkX (len.ble 16777216&&(len*te.size).ble 16777216) (match fillA σ.bl ((List.range len).map fun i=>some (i*te.size,te.size)) (List.replicate (len*te.size) .any) (parts.toList.map fun q=>(q.1,σ.ev q.2))with
          | some l=>match cellsV σ.bl E.r (.g l)with
            | some l=>some ((σ.push ⟨e,te.size,len,0,0,rowF te.size l⟩).put o.dst (.c (.gs σ.bl.length 0)))
            | none=>none
          | none=>none)
        | none=>none
      | none=>none
    | none=>none
  | .call { callee := .value g,args,.. }=>match wrB σ g with
    | true=>none
    | false=>match frzAX (args.toList.flatMap fun x=>partsV (σ.ev x)) σ with
      | some σ'=>match dopX E q o.op σ' with
        | some v=>some (σ'.put o.dst v)
        | none=>none
      | none=>none
  | .call { callee := .builtin .append,args,argTypes }=>appX E o.dst σ args.toList argTypes.toList
  | op=>match dopX E q op σ with
    | some v=>some (σ.put o.dst v)
    | none=>none
theorem aopX_ok {E:Env} {q:FuncId->List V->Option V} (hq:∀ f asl X,q f asl=some X->FnOK E.P E.r f asl X) {o:Oper} {σ σ':St} (h:aopX E q o σ=some σ') {K:St->Prop} (hK:K σ'):aop E o σ K:=by
  unfold aopX at h
  unfold aop
  split at h
  case h_1 T x hx =>
    rw[hx]
    simp only
    split at h
    · rename_i l hl
      rw[hl]
      cases h;exact hK
    · cases h
  case h_2 T hx =>
    rw[hx]
    simp only
    split at h
    · rename_i ti ht
      rw[ht]
      simp only
      split at h
      · rename_i l hl
        rw[hl]
        cases h;exact hK
      · cases h
    · cases h
  case h_3 T x y hx =>
    rw[hx]
    simp only
    split at h
    · rename_i e1 e2 e3
      rw[e1,e2,e3]
      simp only
      split at h
      · rename_i B hB
        obtain⟨h1,h⟩:=chkX_some h
        cases h
        simp only[hB]
        exact chk_mk h1 hK
      · cases h
    · cases h
  case h_4 T ln cp hx =>
    rw[hx]
    simp only
    split at h
    · rename_i ti ht
      rw[ht]
      simp only
      split at h
      · rename_i e he
        rw[he]
        simp only
        split at h
        · rename_i e1 e2 e3
          rw[e1,e2,e3]
          obtain⟨h1,h⟩:=chkX_some h
          simp only[Bool.and_eq_true,decide_eq_true_eq]at h1
          refine⟨h1.1,h1.2.1,h1.2.2.1,h1.2.2.2.1,chk_mk h1.2.2.2.2 ?_⟩
          split at h
          · rename_i l hl
            rw[hl]
            cases h;exact hK
          · cases h
        · cases h
      · cases h
    · cases h
  case h_5 T len parts hx =>
    rw[hx]
    simp only
    split at h
    · rename_i ti ht
      rw[ht]
      simp only
      split at h
      · rename_i e he
        rw[he]
        simp only
        split at h
        · rename_i te hte
          rw[hte]
          obtain⟨h1,h⟩:=chkX_some h
          refine chk_mk h1 ?_
          split at h
          · rename_i l hl
            rw[hl]
            simp only
            split at h
            · rename_i l' hl'
              rw[hl']
              cases h;exact hK
            · cases h
          · cases h
        · cases h
      · cases h
    · cases h
  case h_6 g args ts hx =>
    rw[hx]
    simp only
    split at h
    · cases h
    · rename_i e
      rw[e]
      simp only
      split at h
      · rename_i σ1 h1
        split at h
        · rename_i v hv
          cases h
          exact frzAX_ok _ h1 (dopX_ok hq hv hK)
        · cases h
      · cases h
  case h_7 args ts hx =>
    rw[hx]
    exact appX_ok h hK
  case h_8 h1 h2 h3 h4 h5 h6 h7 =>
    split at h
    · rename_i v hv
      cases h
      have hd:=dopX_ok hq (o:=o) hv (K:=fun v=>K (σ.put o.dst v)) hK
      split
      case h_1 hx=>exact absurd hx (h1 _ _)
      case h_2 hx=>exact absurd hx (h2 _)
      case h_3 hx=>exact absurd hx (h3 _ _ _)
      case h_4 hx=>exact absurd hx (h4 _ _ _)
      case h_5 hx=>exact absurd hx (h5 _ _ _)
      case h_6 hx=>exact absurd hx (h6 _ _ _)
      case h_7 hx=>exact absurd hx (h7 _ _)
      case h_8=>exact hd
    · cases h
def appSX (E:Env) (σ:St) (fr:Nat) (args:List Operand) (ts:List TypeId):Option (V × Option (Nat × Blk)):=match args,ts with
  | [x,y],[T,T']=>match E.ty T with
    | some ti=>match ti.elem with
      | some e=>match E.ty e with
        | some te=>chkX (T == T'&&(te.zero.length == te.size&&((1:Nat).ble te.size&&((!E.r||te.zero.all Cell.noU)&&te.bytes.ble 8388608)))) (match σ.ev x with
          | .c (.gs k u)=>match σ.bl[k]?,srcA σ.bl te.size k (σ.ev y)with
            | some B,some (m,fy)=>chkX (B.u == u&&(B.st == 0&&(B.sz == te.size&&B.t == e))) (chkX (decide (B.n+m≤16777216)&&allIJ m te.size fun i j=>St.one [] (fy i j)&&(!E.r||(fy i j).noU)) (some (.c (.gs k (u+1)),some (k,⟨B.t,B.sz,B.n+m,B.u+1,0,appF B.n B.f fy⟩))))
            | _,_=>none
          | .c .nil=>match srcA σ.bl te.size fr (σ.ev y)with
            | some (m,fy)=>chkX (decide (m≤16777216)&&allIJ m te.size fun i j=>St.one [] (fy i j)&&(!E.r||(fy i j).noU)) (some (.c (.gs fr 1),some (fr,⟨e,te.size,0+m,1,0,appF 0 (fun _ _ => .any) fy⟩)))
            | none=>none
          | _=>none)
        | none=>none
      | none=>none
    | none=>none
  | _,_=>none
theorem appSX_ok {E:Env} {σ:St} {fr:Nat} {args:List Operand} {ts:List TypeId} {v:V} {ub:Option (Nat × Blk)} (h:appSX E σ fr args ts=some (v,ub)) {K:V->Option (Nat × Blk)->Prop} (hK:K v ub):appS E σ fr args ts K:=by
  have all:∀ {m sz:Nat} {fy:Nat->Nat->Cell},(allIJ m sz fun i j=>St.one [] (fy i j)&&(!E.r||(fy i j).noU))=true->∀ i j,i<m->j<sz->St.one [] (fy i j)=true/\(E.r=true->(fy i j).noU=true):=by
    intro m sz fy h i j hi hj
    have:=allIJ_ok h hi hj
    simp only[Bool.and_eq_true,Bool.or_eq_true,Bool.not_eq_true']at this
    exact⟨this.1,fun hr=>this.2.resolve_left (by rw[hr];simp)⟩
  unfold appSX at h
  unfold appS
  split at h
  · split at h
    · rename_i ti ht
      simp only[ht]
      split at h
      · rename_i e he
        simp only[he]
        split at h
        · rename_i te hte
          simp only[hte]
          obtain⟨h1,h⟩:=chkX_some h
          refine chk_mk h1 ?_
          split at h
          · rename_i e1
            rw[e1]
            simp only
            split at h
            · rename_i B m fy e2 e3
              rw[e2,e3]
              obtain⟨h2,h⟩:=chkX_some h
              obtain⟨h3,h⟩:=chkX_some h
              cases h
              simp only[Bool.and_eq_true,decide_eq_true_eq]at h3
              exact chk_mk h2 ⟨h3.1,all h3.2,hK⟩
            · cases h
          · rename_i e1
            rw[e1]
            simp only
            split at h
            · rename_i m fy e3
              rw[e3]
              obtain⟨h3,h⟩:=chkX_some h
              cases h
              simp only[Bool.and_eq_true,decide_eq_true_eq]at h3
              exact⟨h3.1,all h3.2,hK⟩
            · cases h
          · cases h
        · cases h
      · cases h
    · cases h
  · cases h
def sopX (E:Env) (q:FuncId->List V->Option V) (cl:Bool) (o:Oper) (σ:St) (fr:Nat):Option (V × Option (Nat × Blk)) :=
  match o.op with
  | .box T x=>match cellsV σ.bl E.r (σ.ev x)with
    | some l=>some (.c (.p fr 1 l.length 0 0),some (fr,⟨T,l.length,1,1,0,boxF l⟩))
    | none=>none
  | .alloc T=>match E.ty T with
    | some ti=>match cellsV σ.bl E.r (.g ti.zero)with
      | some l=>some (.c (.p fr 1 l.length 0 0),some (fr,⟨T,l.length,1,1,0,boxF l⟩))
      | none=>none
    | none=>none
  | .store T x y=>match E.ty T,σ.ev x,cellsV σ.bl E.r (σ.ev y)with
    | some ti,.c (.p k u sz i o'),some l=>match σ.bl[k]? with
      | some B=>chkX (B.u == u&&(B.sz == sz&&(B.st == 0&&(l.length == ti.size&&(o'+l.length).ble sz)))) (some (.c .any,some (k,{ B with f:=updF B.f i o' l })))
      | none=>none
    | _,_,_=>none
  | .makeSlice T ln cp=>match E.ty T with
    | some ti=>match ti.elem with
      | some e=>match E.ty e,σ.ev ln,σ.ev cp with
        | some te,.c (.int _ n),.c (.int _ c)=>chkX (decide (0≤n)&&(decide (n≤c)&&(decide (c≤281474976710656)&&(decide ((te.bytes:Int)*c≤281474976710656)&&te.zero.length == te.size)))) (match cellsV σ.bl E.r (.g te.zero)with
          | some l=>some (.c (.gs fr 1),some (fr,⟨e,te.size,n.toNat,1,0,zeroF l⟩))
          | none=>none)
        | _,_,_=>none
      | none=>none
    | none=>none
  | .buildSlice T len parts=>match E.ty T with
    | some ti=>match ti.elem with
      | some e=>match E.ty e with
        | some te=>chkX (len.ble 16777216&&(len*te.size).ble 16777216) (match fillA σ.bl ((List.range len).map fun i=>some (i*te.size,te.size)) (List.replicate (len*te.size) .any) (parts.toList.map fun q=>(q.1,σ.ev q.2))with
          | some l=>match cellsV σ.bl E.r (.g l)with
            | some l=>match cl with
              | true=>chkX (l.all Cell.clos) (some (.c (.row te.size len (rowF te.size l)),none))
              | false=>some (.c (.gs fr 1),some (fr,⟨e,te.size,len,1,0,rowF te.size l⟩))
            | none=>none
          | none=>none)
        | none=>none
      | none=>none
    | none=>none
  | .call { callee := .value (.func f),args,argTypes }=>match wrF f with
    | true=>none
    | false=>match frS f with
      | true=>none
      | false=>match dopX E q (.call { callee := .value (.func f),args,argTypes }) σ with
        | some v=>some (v,none)
        | none=>none
  | .call { callee := .builtin .append,args,argTypes }=>appSX E σ fr args.toList argTypes.toList
  | op=>match dopX E q op σ with
    | some v=>some (v,none)
    | none=>none
theorem sopX_ok {E:Env} {q:FuncId->List V->Option V} (hq:∀ f asl X,q f asl=some X->FnOK E.P E.r f asl X) {cl:Bool} {o:Oper} {σ:St} {fr:Nat} {v:V} {ub:Option (Nat × Blk)} (h:sopX E q cl o σ fr=some (v,ub)) {K:V->Option (Nat × Blk)->Prop} (hK:K v ub):sop E o σ fr K:=by
  unfold sopX at h
  unfold sop
  split at h
  case h_1 T x hx =>
    rw[hx]
    simp only
    split at h
    · rename_i l hl
      rw[hl]
      cases h;exact hK
    · cases h
  case h_2 T hx =>
    rw[hx]
    simp only
    split at h
    · rename_i ti ht
      rw[ht]
      simp only
      split at h
      · rename_i l hl
        rw[hl]
        cases h;exact hK
      · cases h
    · cases h
  case h_3 T x y hx =>
    rw[hx]
    simp only
    split at h
    · rename_i e1 e2 e3
      rw[e1,e2,e3]
      simp only
      split at h
      · rename_i B hB
        obtain⟨h1,h⟩:=chkX_some h
        cases h
        simp only[hB]
        exact chk_mk h1 hK
      · cases h
    · cases h
  case h_4 T ln cp hx =>
    rw[hx]
    simp only
    split at h
    · rename_i ti ht
      rw[ht]
      simp only
      split at h
      · rename_i e he
        rw[he]
        simp only
        split at h
        · rename_i e1 e2 e3
          rw[e1,e2,e3]
          obtain⟨h1,h⟩:=chkX_some h
          simp only[Bool.and_eq_true,decide_eq_true_eq]at h1
          refine⟨h1.1,h1.2.1,h1.2.2.1,h1.2.2.2.1,chk_mk h1.2.2.2.2 ?_⟩
          split at h
          · rename_i l hl
            rw[hl]
            cases h;exact hK
          · cases h
        · cases h
      · cases h
    · cases h
  case h_5 T len parts hx =>
    rw[hx]
    simp only
    split at h
    · rename_i ti ht
      rw[ht]
      simp only
      split at h
      · rename_i e he
        rw[he]
        simp only
        split at h
        · rename_i te hte
          rw[hte]
          obtain⟨h1,h⟩:=chkX_some h
          refine chk_mk h1 ?_
          split at h
          · rename_i l hl
            rw[hl]
            simp only
            split at h
            · rename_i l' hl'
              rw[hl']
              split at h
              · obtain⟨h2,h⟩:=chkX_some h
                cases h
                exact .inr ⟨h2,hK⟩
              · cases h;exact .inl hK
            · cases h
          · cases h
        · cases h
      · cases h
    · cases h
  case h_6 f args ts hx =>
    rw[hx]
    simp only
    split at h
    · cases h
    · rename_i e
      rw[e]
      simp only
      split at h
      · cases h
      · rename_i e2
        rw[e2]
        simp only
        split at h
        · rename_i v' hv
          have hv':dopX E q o.op σ=some v':=by rw[hx];exact hv
          cases h
          exact dopX_ok hq hv' hK
        · cases h
  case h_7 args ts hx =>
    rw[hx]
    exact appSX_ok h hK
  case h_8 h1 h2 h3 h4 h5 h6 h7 =>
    split at h
    · rename_i v' hv
      cases h
      have hd:=dopX_ok hq (o:=o) hv (K:=fun v=>K v none) hK
      split
      case h_1 hx=>exact absurd hx (h1 _ _)
      case h_2 hx=>exact absurd hx (h2 _)
      case h_3 hx=>exact absurd hx (h3 _ _ _)
      case h_4 hx=>exact absurd hx (h4 _ _ _)
      case h_5 hx=>exact absurd hx (h5 _ _ _)
      case h_6 hx=>exact absurd hx (h6 _ _ _)
      case h_7 hx=>exact absurd hx (h7 _ _)
      case h_8=>exact hd
    · cases h
def isTmp (d : Nat) : Operand → Bool
  | .tmp t=>Nat.beq t d
  | _=>false
def argOnlyF (ops : Array Oper) : Nat → Option Nat → Bool
  | 0,_=>false
  | _,none=>false
  | k+1,some d=>ops.any fun o=>match o.op with
    | .call { callee := .value _,args,.. }=>args.any (isTmp d)
    | .buildSlice _ _ parts | .build _ parts=>(parts.any fun p=>isTmp d p.2)&&argOnlyF ops k o.dst
    | _=>false
def argOnly (ops:Array Oper) (dst:Option Nat):Bool:=argOnlyF ops 4 dst
def aheadX (E : Env) (q : FuncId → List V → Option V) (ops : Array Oper) (n0 : Nat) : List Oper → Nat → St → Option St
  | [],_,σ=>some σ
  | o :: rest,i,σ=>match o.guard with
    | none=>match sopX E q (argOnly ops o.dst) o σ (n0+i)with
      | some (v,ub)=>chkX (lateB ops o σ ub) (aheadX E q ops n0 rest (i+1) (St.put { σ with bl:=setO σ.bl ub } o.dst v))
      | none=>none
    | some (g,want)=>match guardV σ ops g with
      | some (_,b)=>match gw want b with
        | true=>match sopX E q (argOnly ops o.dst) o σ (n0+i)with
          | some (v,ub)=>chkX (lateB ops o σ ub) (aheadX E q ops n0 rest (i+1) (St.put { σ with bl:=setO σ.bl ub } o.dst v))
          | none=>none
        | false=>aheadX E q ops n0 rest (i+1) (σ.put o.dst .un)
      | none=>match guardU σ ops g with
        | true=>aheadX E q ops n0 rest (i+1) (σ.put o.dst .un)
        | false=>none
theorem aheadX_ok {E : Env} {q : FuncId → List V → Option V} (hq : ∀ f asl X, q f asl = some X → FnOK E.P E.r f asl X) {ops : Array Oper} {n0 : Nat} : ∀ (l : List Oper) (i : Nat) {σ σ' : St}, aheadX E q ops n0 l i σ = some σ' → ∀ {K : St → Prop}, K σ' → ahead E ops n0 l i σ K
  | [],_,_,_,h,_,hK=>by cases h;exact hK
  | o :: rest,i,σ,σ',h,K,hK=>by
    simp only[aheadX]at h
    rw[ahead_eq]
    split at h
    · rename_i hg
      rw[hg]
      simp only
      split at h
      · rename_i v ub hs
        obtain⟨h0,h⟩:=chkX_some h
        exact sopX_ok hq hs (K:=fun v ub=>chk (lateB ops o σ ub) (ahead E ops n0 rest (i+1) (St.put { σ with bl:=setO σ.bl ub } o.dst v) K)) (chk_mk h0 (aheadX_ok hq rest (i+1) h hK))
      · cases h
    · rename_i g want hg
      rw[hg]
      simp only
      split at h
      · rename_i d b hgv
        rw[hgv]
        simp only
        split at h
        · rename_i hb
          rw[hb]
          rw[← gw_true.1 hb,guard_same hgv]
          split at h
          · rename_i v ub hs
            obtain⟨h0,h⟩:=chkX_some h
            exact sopX_ok hq hs (K:=fun v ub=>chk (lateB ops o σ ub) (ahead E ops n0 rest (i+1) (St.put { σ with bl:=setO σ.bl ub } o.dst v) K)) (chk_mk h0 (aheadX_ok hq rest (i+1) h hK))
          · cases h
        · rename_i hb
          rw[hb]
          rw[← gw_false.1 hb,guard_same hgv]
          exact aheadX_ok hq rest (i+1) h hK
      · rename_i hgv
        rw[hgv]
        simp only
        split at h
        · rename_i hgu
          rw[hgu]
          exact aheadX_ok hq rest (i+1) h hK
        · cases h
end Go.Proofs.YtkmbnldginonbaaGreat
