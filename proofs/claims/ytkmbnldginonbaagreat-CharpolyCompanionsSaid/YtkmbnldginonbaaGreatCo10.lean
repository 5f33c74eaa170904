/- Sizes of fractions; the program's operations on normalized ones. -/
import Derived.Test.YtkmbnldginonbaaGreatCo9
import Derived.Test.YtkmbnldginonbaaGreatCo4
namespace Go.Proofs.YtkmbnldginonbaaGreat
open Go.RowKit
namespace Mx
theorem q_add {x y:Rat} {L L':Nat} (hx:qlen x≤L) (hy:qlen y≤L') (h1:1≤L+L'):qlen (x+y)≤L+L'+1:=by
 have e:x+y=ratio (x.num*y.den+y.num*x.den) ((x.den:Int)*(y.den:Int)):=by
  rw[← ratio_add (by have:=x.den_nz;omega) (by have:=y.den_nz;omega),ratio_num_den,ratio_num_den]
 rw[e]
 unfold qlen at hx hy
 have a1:=zlen_mul x.num y.den
 have a2:=zlen_mul y.num x.den
 have a3:=zlen_add (x.num*y.den) (y.num*x.den)
 have a4:=zlen_mul (x.den:Int) (y.den:Int)
 exact qlen_ratio (by omega) (by omega) (by omega)
theorem q_neg (x:Rat):qlen (-x)=qlen x:=by unfold qlen;simp[zlen_neg]
theorem q_sub {x y:Rat} {L L':Nat} (hx:qlen x≤L) (hy:qlen y≤L') (h1:1≤L+L'):qlen (x-y)≤L+L'+1:=by
 rw[Rat.sub_eq_add_neg]
 exact q_add hx (by rw[q_neg];exact hy) h1
theorem q_mul {x y:Rat} {L L':Nat} (hx:qlen x≤L) (hy:qlen y≤L') (h1:1≤L+L'):qlen (x*y)≤L+L':=by
 have e:x*y=ratio (x.num*y.num) ((x.den:Int)*(y.den:Int)):=by
  rw[← ratio_mul,ratio_num_den,ratio_num_den]
 rw[e]
 unfold qlen at hx hy
 have a1:=zlen_mul x.num y.num
 have a2:=zlen_mul (x.den:Int) (y.den:Int)
 exact qlen_ratio (by omega) (by omega) h1
theorem q_div {x y:Rat} {L L':Nat} (hx:qlen x≤L) (hy:qlen y≤L') (h1:1≤L+L'):qlen (x / y)≤L+L':=by
 have e:x / y=ratio (x.num*y.den) ((x.den:Int)*y.num):=by
  rw[← ratio_div,ratio_num_den,ratio_num_den]
 rw[e]
 unfold qlen at hx hy
 have a1:=zlen_mul x.num y.den
 have a2:=zlen_mul (x.den:Int) y.num
 exact qlen_ratio (by omega) (by omega) h1
def Bq (n L:Nat) (A:Nat->Nat->Rat):Prop:=∀ i j,i<n->j<n->qlen (A i j)≤L
theorem ra_bq {n L L':Nat} {A:Nat->Nat->Rat} {u:Rat} {i m:Nat} (h:Bq n L A) (hu:qlen u≤L') (hm:m<n) (h1:1≤L):Bq n (L+(L'+L)+1) (ra u i m A):=fun a b ha hb=>by
 unfold ra
 split
 ·exact q_sub (h a b ha hb) (q_mul hu (h m b hm hb) (by omega)) (by omega)
 ·exact Nat.le_trans (h a b ha hb) (by omega)
theorem ca_bq {n L L':Nat} {A:Nat->Nat->Rat} {u:Rat} {i m:Nat} (h:Bq n L A) (hu:qlen u≤L') (hi:i<n) (h1:1≤L):Bq n (L+(L'+L)+1) (ca u i m A):=fun a b ha hb=>by
 unfold ca
 split
 ·exact q_add (h a b ha hb) (q_mul hu (h a i ha hi) (by omega)) (by omega)
 ·exact Nat.le_trans (h a b ha hb) (by omega)
theorem el1_bq {n L:Nat} {A:Nat->Nat->Rat} {m i:Nat} (h:Bq n L A) (hm:m<n) (hi:i<n) (h1:1≤L):Bq n (16*L) (el1 m i A):=by
 unfold el1
 split
 ·exact fun a b ha hb=>Nat.le_trans (h a b ha hb) (by omega)
 ·have hu:=q_div (h i (m-1) hi (by omega)) (h m (m-1) hm (by omega)) (by omega)
  have h2:=ra_bq (i:=i) h hu hm h1
  have h3:=ca_bq (m:=m) h2 hu hi (by omega)
  exact fun a b ha hb=>Nat.le_trans (h3 a b ha hb) (by omega)
theorem el_bq {n L : Nat} {A : Nat → Nat → Rat} {m : Nat} (h : Bq n L A) (h1 : 1 ≤ L) : ∀ t, m + t < n → Bq n (16 ^ t * L) (el m A t)
 | 0,_=>fun a b ha hb=>by rw[Nat.pow_zero,Nat.one_mul];exact h a b ha hb
 | t+1,ht=>by
  have hp:1≤16^t:=Nat.pow_pos (by omega)
  have h2:1≤16^t*L:=Nat.mul_le_mul hp h1
  have:=el1_bq (m:=m) (i:=m+1+t) (el_bq (m:=m) h h1 t (by omega)) (by omega) (by omega) h2
  rw[Nat.pow_succ,Nat.mul_right_comm,Nat.mul_comm _ 16]
  exact this
theorem xch_bq {n L:Nat} {A:Nat->Nat->Rat} {s:Nat->Nat} (h:Bq n L A) (hs:∀ a,a<n->s a<n):Bq n L (xch s A):=fun a b ha hb=>h _ _ (hs a ha) (hs b hb)
theorem stp_bq {n L:Nat} {A:Nat->Nat->Rat} {m:Nat} (h:Bq n L A) (h1:1≤L) (hm:m+1<n):Bq n (16^(n-1-m)*L) (stp n m A):=by
 obtain⟨p1,p2,p3,p4⟩:=pv_spec n A (show m≤n by omega)
 unfold stp
 split
 ·exact fun a b ha hb=>Nat.le_trans (h a b ha hb) (by
   have hp:1≤16^(n-1-m):=Nat.pow_pos (by omega)
   have:=Nat.mul_le_mul hp (Nat.le_refl L)
   omega)
 ·exact el_bq (xch_bq h fun a ha=>sw_lt (by omega) (by omega) ha) h1 _ (by omega)
def be (n : Nat) : Nat → Nat
 | 0=>0
 | m+1=>if m=0 then 0 else be n m+(n-1-m)
theorem hs_bq {n L : Nat} {A : Nat → Nat → Rat} (h : Bq n L A) (h1 : 1 ≤ L) : ∀ m, m + 1 ≤ n → Bq n (16 ^ be n m * L) (hs n A m)
 | 0,_=>fun a b ha hb=>by rw[show be n 0=0 from rfl,Nat.pow_zero,Nat.one_mul];exact h a b ha hb
 | m+1,hm=>by
  show Bq n (16^(if m=0 then 0 else be n m+(n-1-m))*L) (if m=0 then A else stp n m (hs n A m))
  by_cases e:m=0
  ·rw[if_pos e,if_pos e,Nat.pow_zero,Nat.one_mul]
   exact h
  ·rw[if_neg e,if_neg e]
   have hp:1≤16^be n m:=Nat.pow_pos (by omega)
   have h2:1≤16^be n m*L:=Nat.mul_le_mul hp h1
   have:=stp_bq (m:=m) (hs_bq h h1 m (by omega)) h2 (by omega)
   rw[Nat.pow_add,Nat.mul_comm (16^be n m),Nat.mul_assoc]
   exact this
/-! The program's operations. -/
theorem qsub_n {x y z:Rat} {L L':Nat} (hx:qlen x≤L) (hy:qlen y≤L') (h0:1≤L') (hL:L+L'+4≤LIM) (e:x-y=z):FnOK Tryz.prog true 50 [.g (nq x),.g (nq y)] (.g (nq z)):=by
 subst e
 have:=qsub_ok (q:=ofR x) (p:=ofR y) (ofR_fit hx) (ofR_fit hy) h0 hL
 rwa [ofR_val,ofR_val]at this
theorem qadd_n {x y z:Rat} {L L':Nat} (hx:qlen x≤L) (hy:qlen y≤L') (hL:L+L'+4≤LIM) (e:x+y=z):FnOK Tryz.prog true 93 [.g (nq x),.g (nq y)] (.g (nq z)):=by
 subst e
 have:=qadd_ok (q:=ofR x) (p:=ofR y) (ofR_fit hx) (ofR_fit hy) hL
 rwa [ofR_val,ofR_val]at this
theorem qmul_n {x y z:Rat} {L L':Nat} (hx:qlen x≤L) (hy:qlen y≤L') (hL:L+L'+3≤LIM) (e:x*y=z):FnOK Tryz.prog true 46 [.g (nq x),.g (nq y)] (.g (nq z)):=by
 subst e
 have:=qmul_ok (q:=ofR x) (p:=ofR y) (ofR_fit hx) (ofR_fit hy) hL
 rwa [ofR_val,ofR_val]at this
theorem qquo_n {x y z:Rat} {L L':Nat} (hx:qlen x≤L) (hy:qlen y≤L') (hL:L+L'+4≤LIM) (h0:y≠0) (e:x / y=z):FnOK Tryz.prog true 59 [.g (nq x),.g (nq y)] (.t2 (.g (nq z)) (.c (.int .i64 0))):=by
 subst e
 have:=qquo_ok (q:=ofR x) (p:=ofR y) (ofR_fit hx) (ofR_fit hy) hL (by rw[ofR_val];exact h0)
 rwa [ofR_val,ofR_val]at this
end Mx
end Go.Proofs.YtkmbnldginonbaaGreat
/- The polynomials of the leading blocks, summed up from the right. Plain: no program. -/
namespace Go.Proofs.YtkmbnldginonbaaGreat
open Crg Pol
namespace Mx
section
variable {R:Type} [Crg R]
noncomputable def nx (W:Nat->Nat->R) (k i j:Nat):R:=(if 1≤j then(hp W k).f (j-1)else 0)-sm (fun a=>W (i+a) k*(hp W (i+a)).f j) (k+1-i)
theorem nx_first (W:Nat->Nat->R) (k j:Nat):nx W k k j=(if 1≤j then(hp W k).f (j-1)else 0)-W k k*(hp W k).f j:=by
 unfold nx
 rw[show k+1-k=1 by omega]
 show _-(0+W (k+0) k*(hp W (k+0)).f j)=_
 rw[zero_add,Nat.add_zero]
theorem nx_next (W:Nat->Nat->R) {k i:Nat} (h:i<k) (j:Nat):nx W k i j=nx W k (i+1) j-W i k*(hp W i).f j:=by
 unfold nx
 rw[show k+1-i=k+1-(i+1)+1 by omega,sm_head,Nat.add_zero]
 have e:sm (fun a=>W (i+(a+1)) k*(hp W (i+(a+1))).f j) (k+1-(i+1))=sm (fun a=>W (i+1+a) k*(hp W (i+1+a)).f j) (k+1-(i+1)):=sm_congr fun a _=>by rw[show i+(a+1)=i+1+a by omega]
 rw[e]
 generalize sm (fun a=>W (i+1+a) k*(hp W (i+1+a)).f j) (k+1-(i+1))=Z
 generalize (if 1≤j then(hp W k).f (j-1)else 0)=Y
 exact RE.eq [Y,W i k,(hp W i).f j,Z] (t0-(t1*t2+t3)) (t0-t3-t1*t2) rfl
theorem nx_last (W:Nat->Nat->R) (k j:Nat):nx W k 0 j=(hp W (k+1)).f j:=by
 rw[hp_at]
 unfold nx
 refine congrArg (fun z:R=>(if 1≤j then(hp W k).f (j-1)else 0)-z) ?_
 rw[Nat.sub_zero]
 exact sm_congr fun a _=>by rw[Nat.zero_add]
theorem nx_break (W:Nat->Nat->R) {k i:Nat} (h:∀ a,a≤i->W a k=0) (hi:i≤k) (j:Nat):nx W k (i+1) j=(hp W (k+1)).f j:=by
 rw[← nx_last]
 have key:∀ t,t≤i+1->nx W k (i+1) j=nx W k (i+1-t) j:=by
  intro t
  induction t with
  | zero=>intro _;rfl
  | succ t ih =>
   intro ht
   rw[ih (by omega),show i+1-t=i+1-(t+1)+1 by omega]
   rcases Nat.lt_or_ge (i+1-(t+1)) k with h1 | h1
   ·rw[nx_next W h1,h _ (by omega),zero_mul,sub_zero]
   ·-- the first step
    obtain rfl:t=0:=by omega
    obtain rfl:i=k:=by omega
    rw[show i+1-(0+1)=i by omega,nx_first,h i (Nat.le_refl i),zero_mul,sub_zero]
    unfold nx
    rw[show i+1-(i+1)=0 by omega]
    exact sub_zero _
 have:=key (i+1) (Nat.le_refl _)
 rwa [Nat.sub_self]at this
theorem nx_deg (W:Nat->Nat->R) {k i:Nat}:(∀ j,k+1<j->nx W k i j=0)/\nx W k i (k+1)=1:=by
 refine⟨fun j hj=>?_,?_⟩
 ·unfold nx
  rw[if_pos (by omega),(hp_deg W k).1 _ (by omega),sm_zero fun a ha=>by rw[(hp_deg W (i+a)).1 j (by omega),mul_zero],sub_zero]
 ·unfold nx
  rw[if_pos (by omega),Nat.add_sub_cancel,(hp_deg W k).2,sm_zero fun a ha=>by rw[(hp_deg W (i+a)).1 _ (by omega),mul_zero],sub_zero]
theorem wd_zero (H:Nat->Nat->R) {i k:Nat} (h:dd H i k=0) (hi:i≤k):∀ a,a≤i->wd H a k=0:=by
 have key:∀ t,t≤i->dd H (i-t) k=0:=by
  intro t
  induction t with
  | zero=>intro _;exact h
  | succ t ih =>
   intro ht
   rw[dd_left H (show i-(t+1)<k by omega),show i-(t+1)+1=i-t by omega,ih (by omega),zero_mul]
 intro a ha
 unfold wd
 have:=key (i-a) (by omega)
 rw[show i-(i-a)=a by omega]at this
 rw[this,zero_mul]
end
end Mx
end Go.Proofs.YtkmbnldginonbaaGreat
/- Sizes of the polynomials of the leading blocks of a Hessenberg matrix. -/
namespace Go.Proofs.YtkmbnldginonbaaGreat
open Go.RowKit Crg Pol
namespace Mx
theorem q_zero:qlen 0≤1:=by decide
theorem q_one:qlen 1≤1:=by decide
theorem dd_bq {n K : Nat} {H : Nat → Nat → Rat} (h : Bq n K H) (i : Nat) : ∀ k, i ≤ k → k < n → qlen (dd H i k) ≤ (k - i) * K + 1
 | 0,hi,_=>by
  rw[Nat.zero_sub,Nat.zero_mul]
  exact q_one
 | k+1,hi,hk=>by
  rcases Nat.lt_or_ge i (k+1)with h1 | h1
  ·rw[dd_succ H (show i≤k by omega)]
   refine Nat.le_trans (q_mul (dd_bq h i k (by omega) (by omega)) (h (k+1) k hk (by omega)) (by omega)) ?_
   rw[show k+1-i=k-i+1 by omega,Nat.add_mul,Nat.one_mul]
   omega
  ·rw[show i=k+1 by omega,dd_self,Nat.sub_self,Nat.zero_mul]
   exact q_one
theorem wd_bq {n K:Nat} {H:Nat->Nat->Rat} (h:Bq n K H) (hn:n≤6) (hK:1≤K) {i k:Nat} (hi:i≤k) (hk:k<n):qlen (wd H i k)≤7*K:=by
 have h1:=q_mul (dd_bq h i k hi hk) (h i k (by omega) hk) (by omega)
 have h2:(k-i)*K≤5*K:=Nat.mul_le_mul_right K (by omega)
 exact Nat.le_trans h1 (by omega)
theorem dd_b5 {n K:Nat} {H:Nat->Nat->Rat} (h:Bq n K H) (hn:n≤6) (hK:1≤K) {i k:Nat} (hi:i≤k) (hk:k<n):qlen (dd H i k)≤6*K:=by
 have h1:=dd_bq h i k hi hk
 have h2:(k-i)*K≤5*K:=Nat.mul_le_mul_right K (by omega)
 omega
def PB (K k:Nat):Nat:=8*3^k*K
def ck (k i:Nat):Nat:=20*3^k-4*3^i+8*(k+1-i)
theorem ck_step {k i:Nat} (h:i<k):ck k i=ck k (i+1)+8*3^i+8:=by
 have h1:3^(i+1)≤3^k:=Nat.pow_le_pow_right (by omega) h
 unfold ck
 rw[Nat.pow_succ]at h1 ⊢
 omega
theorem ck_top (k:Nat):ck k k=16*3^k+8:=by
 unfold ck
 omega
theorem ck_le {k i:Nat} (hk:k≤5) (hi:i≤k):ck k i≤24*3^k:=by
 have h1:1≤3^i:=Nat.pow_pos (by omega)
 unfold ck
 rcases(show k=0∨k=1∨k=2∨k=3∨k=4∨k=5 by omega)with rfl | rfl | rfl | rfl | rfl | rfl
 ·omega
 ·omega
 ·omega
 ·omega
 ·omega
 ·omega
theorem nx_bq {n K : Nat} {H : Nat → Nat → Rat} (h : Bq n K H) (hn : n ≤ 6) (hK : 1 ≤ K) {k : Nat} (hk : k < n) (hP : ∀ a, a ≤ k → ∀ j, qlen ((hp (wd H) a).f j) ≤ PB K a) : ∀ t, t ≤ k → ∀ j, qlen (nx (wd H) k (k - t) j) ≤ ck k (k - t) * K
 | 0,_,j=>by
  have h3:1≤3^k:=Nat.pow_pos (by omega)
  have hPk:8≤PB K k:=Nat.le_trans (by decide) (Nat.mul_le_mul (Nat.mul_le_mul_left 8 h3) hK)
  rw[Nat.sub_zero,nx_first,ck_top]
  have h1:qlen (if 1≤j then(hp (wd H) k).f (j-1)else 0)≤PB K k:=by
   split
   ·exact hP k (Nat.le_refl k) _
   ·exact Nat.le_trans q_zero (by omega)
  have h2:=q_sub h1 (q_mul (wd_bq h hn hK (Nat.le_refl k) hk) (hP k (Nat.le_refl k) j) (by omega)) (by omega)
  refine Nat.le_trans h2 ?_
  unfold PB at *
  rw[Nat.add_mul,show 16*3^k*K=8*3^k*K+8*3^k*K by rw[← Nat.add_mul];congr 1;omega]
  omega
 | t+1,ht,j=>by
  have ih:=nx_bq h hn hK hk hP t (by omega) j
  rw[show k-t=k-(t+1)+1 by omega]at ih
  rw[nx_next (wd H) (show k-(t+1)<k by omega),ck_step (show k-(t+1)<k by omega)]
  have hik:k-(t+1)<k:=by omega
  generalize k-(t+1)=i at *
  have h2:=q_sub ih (q_mul (wd_bq h hn hK (show i≤k by omega) hk) (hP i (by omega) j) (by omega)) (by omega)
  refine Nat.le_trans h2 ?_
  unfold PB
  rw[Nat.add_mul,Nat.add_mul]
  omega
theorem hp_bq {n K:Nat} {H:Nat->Nat->Rat} (h:Bq n K H) (hn:n≤6) (hK:1≤K):∀ k,k≤n->∀ j,qlen ((hp (wd H) k).f j)≤PB K k:=by
 have key:∀ m k,k≤m->k≤n->∀ j,qlen ((hp (wd H) k).f j)≤PB K k:=by
  intro m
  induction m with
  | zero =>
   intro k hk _ j
   obtain rfl:k=0:=by omega
   show qlen ((1:Pol Rat).f j)≤8*1*K
   rw[f_one]
   split
   ·exact Nat.le_trans q_one (by omega)
   ·exact Nat.le_trans q_zero (by omega)
  | succ m ih =>
   intro k hk hkn j
   rcases Nat.lt_or_ge k (m+1)with h1 | h1
   ·exact ih k (by omega) hkn j
   ·obtain rfl:k=m+1:=by omega
    have h2:=nx_bq h hn hK (show m<n by omega) (fun a ha=>ih a ha (by omega)) m (Nat.le_refl m) j
    rw[Nat.sub_self,nx_last]at h2
    refine Nat.le_trans h2 ?_
    unfold PB
    rw[show 8*3^(m+1)=24*3^m by rw[Nat.pow_succ];omega]
    exact Nat.mul_le_mul_right K (ck_le (by omega) (by omega))
 exact fun k=>key k k (Nat.le_refl k)
end Mx
end Go.Proofs.YtkmbnldginonbaaGreat
/- Abstract values and states written out whole, so that a run may go on from them: what is known stays known. -/
set_option maxHeartbeats 1000000
namespace Go.Proofs.YtkmbnldginonbaaGreat
open Go.RowKit
def fN {β:Type} (n:Nat) (k:Nat->β):β:=match n with
  | 0=>k 0
  | m+1=>k (Nat.succ m)
theorem fN_eq {β:Type} (n:Nat) (k:Nat->β):fN n k=k n:=by cases n <;> rfl
def fI {β:Type} (n:Int) (k:Int->β):β:=match n with
  | .ofNat m=>fN m fun m=>k (.ofNat m)
  | .negSucc m=>fN m fun m=>k (.negSucc m)
theorem fI_eq {β:Type} (n:Int) (k:Int->β):fI n k=k n:=by cases n <;> simp only[fI,fN_eq]
def fB {β:Type} (b:Bool) (k:Bool->β):β:=match b with
  | true=>k true
  | false=>k false
theorem fB_eq {β:Type} (b:Bool) (k:Bool->β):fB b k=k b:=by cases b <;> rfl
def fK {β:Type} (x:IntKind) (k:IntKind->β):β:=match x with
  | .i8=>k .i8
  | .i16=>k .i16
  | .i32=>k .i32
  | .i64=>k .i64
  | .u8=>k .u8
  | .u16=>k .u16
  | .u32=>k .u32
  | .u64=>k .u64
theorem fK_eq {β:Type} (x:IntKind) (k:IntKind->β):fK x k=k x:=by cases x <;> rfl
def fSeq {α β:Type} (m:Nat) (g:Nat->(α->β)->β) (acc:List α) (k:List α->β):β:=match m with
  | 0=>k acc
  | m+1=>g m fun c=>fSeq m g (c :: acc) k
theorem fSeq_eq {α β : Type} {g : Nat → (α → β) → β} {h : Nat → α} (hg : ∀ x k, g x k = k (h x)) : ∀ (m : Nat) (acc : List α) (k : List α → β), fSeq m g acc k = k ((List.range m).map h ++ acc)
  | 0,_,_=>rfl
  | m+1,acc,k=>by
    simp only[fSeq,hg]
    rw[fSeq_eq hg m]
    rw[List.range_succ,List.map_append,List.append_assoc]
    rfl
def listC (m:Nat) (h:Nat->Cell):List Cell:=(List.range m).map h
def nrmC : Cell → Cell
  | .row sz n f => .row sz n (rowF sz (listC (n*sz) fun x=>nrmC (f (x / sz) (x%sz))))
  | .xp m f => .xp m fun j=>(listC m fun x=>nrmC (f x)).getD j .any
  | .cl F m f => .cl F m fun j=>(listC m fun x=>nrmC (f x)).getD j .any
  | c=>c
def fC {β : Type} : Cell → (Cell → β) → β
  | .any,k=>k .any
  | .bool b,k=>fB b fun b=>k (.bool b)
  | .int x n,k=>fK x fun x=>fI n fun n=>k (.int x n)
  | .nil,k=>k .nil
  | .row sz n f,k=>fN sz fun sz'=>fN n fun n'=>fSeq (n'*sz') (fun x kk=>fC (f (x / sz') (x%sz')) kk) [] fun l=>k (.row sz' n' (rowF sz' l))
  | .p i u sz a o,k=>fN i fun i=>fN u fun u=>fN sz fun sz=>fN a fun a=>fN o fun o=>k (.p i u sz a o)
  | .gs i u,k=>fN i fun i=>fN u fun u=>k (.gs i u)
  | .sl i u sz o n,k=>fN i fun i=>fN u fun u=>fN sz fun sz=>fN o fun o=>fN n fun n=>k (.sl i u sz o n)
  | .xp m f,k=>fN m fun m'=>fSeq m' (fun x kk=>fC (f x) kk) [] fun l=>k (.xp m' fun j=>l.getD j .any)
  | .fn F,k=>fN F fun F=>k (.fn F)
  | .str s,k=>k (.str s)
  | .cl F m f,k=>fN F fun F=>fN m fun m'=>fSeq m' (fun x kk=>fC (f x) kk) [] fun l=>k (.cl F m' fun j=>l.getD j .any)
theorem fC_eq {β : Type} : ∀ (c : Cell) (k : Cell → β), fC c k = k (nrmC c)
  | .any,_=>rfl
  | .bool b,k=>by simp only[fC,fB_eq,nrmC]
  | .int x n,k=>by simp only[fC,fK_eq,fI_eq,nrmC]
  | .nil,_=>rfl
  | .row sz n f,k=>by
    simp only[fC,fN_eq,nrmC]
    rw[fSeq_eq (h:=fun x=>nrmC (f (x / sz) (x%sz))) fun x kk=>fC_eq (f (x / sz) (x%sz)) kk]
    simp only[List.append_nil,listC]
  | .p i u sz a o,k=>by simp only[fC,fN_eq,nrmC]
  | .gs i u,k=>by simp only[fC,fN_eq,nrmC]
  | .sl i u sz o n,k=>by simp only[fC,fN_eq,nrmC]
  | .xp m f,k=>by
    simp only[fC,fN_eq,nrmC]
    rw[fSeq_eq (h:=fun x=>nrmC (f x)) fun x kk=>fC_eq (f x) kk]
    simp only[List.append_nil,listC]
  | .fn F,k=>by simp only[fC,fN_eq,nrmC]
  | .str _,_=>rfl
  | .cl F m f,k=>by
    simp only[fC,fN_eq,nrmC]
    rw[fSeq_eq (h:=fun x=>nrmC (f x)) fun x kk=>fC_eq (f x) kk]
    simp only[List.append_nil,listC]
theorem listC_get {m:Nat} {h:Nat->Cell} {j:Nat} (hj:j<m):(listC m h).getD j .any=h j:=by
  simp[listC,List.getD,hj]
theorem nrmC_rel {D : Nat → Prop} {w : World} : ∀ {c : Cell} {ρ : List Loc} {v : Value}, CRel D w ρ c v → CRel D w ρ (nrmC c) v
  | .any,_,_,h=>h
  | .bool _,_,_,h=>h
  | .int _ _,_,_,h=>h
  | .nil,_,_,h=>h
  | .fn _,_,_,h=>h
  | .str _,_,_,h=>h
  | .p ..,_,_,h=>h
  | .gs ..,_,_,h=>h
  | .sl ..,_,_,h=>h
  | .row sz n f,_,_,h=>by
    obtain⟨A,c,h1,h2,h3⟩:=h
    refine⟨A,c,h1,h2,fun hn=>?_⟩
    obtain⟨b,o,hA,hb,hD,hc⟩:=h3 hn
    refine⟨b,o,hA,hb,hD,fun i j hi hj=>?_⟩
    obtain⟨u,hu,hr⟩:=hc i j hi hj
    refine⟨u,hu,?_⟩
    have h0:0<sz:=by omega
    have e1:(i*sz+j) / sz=i:=by
      rw[Nat.add_comm,Nat.add_mul_div_right _ _ h0,Nat.div_eq_of_lt hj,Nat.zero_add]
    have e2:(i*sz+j)%sz=j:=by rw[Nat.add_comm,Nat.add_mul_mod_self_right,Nat.mod_eq_of_lt hj]
    show CRel D w [] ((listC (n*sz) _).getD (i*sz+j) .any) u
    rw[listC_get (idx_lt hi hj (Nat.le_refl _)),e1,e2]
    exact nrmC_rel hr
  | .xp m f,_,_,h=>by
    obtain⟨b,o,h1,hb,hD,hc⟩:=h
    refine⟨b,o,h1,hb,hD,fun j hj=>?_⟩
    obtain⟨u,hu,hr⟩:=hc j hj
    refine⟨u,hu,?_⟩
    show CRel D w [] ((listC m _).getD j .any) u
    rw[listC_get hj]
    exact nrmC_rel hr
  | .cl F m f,ρ,_,h=>by
    obtain⟨caps,h1,h2,h3⟩:=h
    refine⟨caps,h1,h2,fun j hj=>?_⟩
    obtain⟨u,hu,hr⟩:=h3 j hj
    refine⟨u,hu,?_⟩
    show CRel D w ρ ((listC m _).getD j .any) u
    rw[listC_get hj]
    exact nrmC_rel hr
def fL {β : Type} : List Cell → (List Cell → β) → β
  | [],k=>k []
  | c :: l,k=>fC c fun c=>fL l fun l=>k (c :: l)
theorem fL_eq {β : Type} : ∀ (l : List Cell) (k : List Cell → β), fL l k = k (l.map nrmC)
  | [],_=>rfl
  | c :: l,k=>by simp only[fL,fC_eq,fL_eq l,List.map_cons]
def nrmV : V → V
  | .c x => .c (nrmC x)
  | .g l => .g (l.map nrmC)
  | .t2 a b => .t2 (nrmV a) (nrmV b)
  | .t3 a b d => .t3 (nrmV a) (nrmV b) (nrmV d)
  | .t4 a b d e => .t4 (nrmV a) (nrmV b) (nrmV d) (nrmV e)
  | .un => .un
def fV {β : Type} : V → (V → β) → β
  | .c x,k=>fC x fun x=>k (.c x)
  | .g l,k=>fL l fun l=>k (.g l)
  | .t2 a b,k=>fV a fun a=>fV b fun b=>k (.t2 a b)
  | .t3 a b d,k=>fV a fun a=>fV b fun b=>fV d fun d=>k (.t3 a b d)
  | .t4 a b d e,k=>fV a fun a=>fV b fun b=>fV d fun d=>fV e fun e=>k (.t4 a b d e)
  | .un,k=>k .un
theorem fV_eq {β : Type} : ∀ (x : V) (k : V → β), fV x k = k (nrmV x)
  | .c x,k=>by simp only[fV,fC_eq,nrmV]
  | .g l,k=>by simp only[fV,fL_eq,nrmV]
  | .t2 a b,k=>by simp only[fV,fV_eq a,fV_eq b,nrmV]
  | .t3 a b d,k=>by simp only[fV,fV_eq a,fV_eq b,fV_eq d,nrmV]
  | .t4 a b d e,k=>by simp only[fV,fV_eq a,fV_eq b,fV_eq d,fV_eq e,nrmV]
  | .un,_=>rfl
theorem nrmL_rel {D : Nat → Prop} {w : World} {ρ : List Loc} : ∀ {l : List Cell} {vs : List Value}, CRels D w ρ l vs → CRels D w ρ (l.map nrmC) vs
  | [],[],_=>trivial
  | _ :: _,_ :: _,h=>⟨nrmC_rel h.1,nrmL_rel h.2⟩
  | [],_ :: _,h=>h.elim
  | _ :: _,[],h=>h.elim
theorem nrmV_rel {D : Nat → Prop} {w : World} {ρ : List Loc} : ∀ {x : V} {v : Value}, VRel D w ρ x v → VRel D w ρ (nrmV x) v
  | .c _,_,h=>nrmC_rel h
  | .g _,_,h=>by obtain⟨vs,h1,h2⟩:=h;exact⟨vs,h1,nrmL_rel h2⟩
  | .t2 _ _,_,h=>by obtain⟨x,y,h1,h2,h3⟩:=h;exact⟨x,y,h1,nrmV_rel h2,nrmV_rel h3⟩
  | .t3 _ _ _,_,h=>by obtain⟨x,y,z,h1,h2,h3,h4⟩:=h;exact⟨x,y,z,h1,nrmV_rel h2,nrmV_rel h3,nrmV_rel h4⟩
  | .t4 _ _ _ _,_,h=>by obtain⟨x,y,z,u,h1,h2,h3,h4,h5⟩:=h;exact⟨x,y,z,u,h1,nrmV_rel h2,nrmV_rel h3,nrmV_rel h4,nrmV_rel h5⟩
  | .un,_,h=>h
def nrmB (B:Blk):Blk:=match B.st with
  | 0 | 1=>{ B with f:=rowF B.sz (listC (B.n*B.sz) fun x=>nrmC (B.f (x / B.sz) (x%B.sz))) }
  | _=>phB
def fBlk {β:Type} (B:Blk) (k:Blk->β):β:=match B.st with
  | 0=>fN B.t fun t=>fN B.sz fun sz=>fN B.n fun n=>fN B.u fun u=>fSeq (n*sz) (fun x kk=>fC (B.f (x / sz) (x%sz)) kk) [] fun l=>k ⟨t,sz,n,u,0,rowF sz l⟩
  | 1=>fN B.t fun t=>fN B.sz fun sz=>fN B.n fun n=>fN B.u fun u=>fSeq (n*sz) (fun x kk=>fC (B.f (x / sz) (x%sz)) kk) [] fun l=>k ⟨t,sz,n,u,1,rowF sz l⟩
  | _=>k phB
theorem fBlk_eq {β:Type} (B:Blk) (k:Blk->β):fBlk B k=k (nrmB B):=by
  obtain⟨t,sz,n,u,st,f⟩:=B
  match st with
  | 0 =>
    simp only[fBlk,nrmB,fN_eq]
    rw[fSeq_eq (h:=fun x=>nrmC (f (x / sz) (x%sz))) fun x kk=>fC_eq (f (x / sz) (x%sz)) kk]
    simp only[List.append_nil,listC]
  | 1 =>
    simp only[fBlk,nrmB,fN_eq]
    rw[fSeq_eq (h:=fun x=>nrmC (f (x / sz) (x%sz))) fun x kk=>fC_eq (f (x / sz) (x%sz)) kk]
    simp only[List.append_nil,listC]
  | _+2=>rfl
def fBs {β : Type} : List Blk → (List Blk → β) → β
  | [],k=>k []
  | B :: l,k=>fBlk B fun B=>fBs l fun l=>k (B :: l)
theorem fBs_eq {β : Type} : ∀ (l : List Blk) (k : List Blk → β), fBs l k = k (l.map nrmB)
  | [],_=>rfl
  | B :: l,k=>by simp only[fBs,fBlk_eq,fBs_eq l,List.map_cons]
def listV (m:Nat) (h:Nat->V):List V:=(List.range m).map h
def getV (l:List V) (t:Nat):V:=l.getD t (.c .any)
def nrm (N:Nat) (σ:St):St:=⟨getV (listV N fun t=>nrmV (σ.tm t)),σ.bl.map nrmB⟩
def fSt {β:Type} (N:Nat) (σ:St) (k:St->β):β:=fSeq N (fun t kk=>fV (σ.tm t) kk) [] fun l=>fBs σ.bl fun bl=>k ⟨getV l,bl⟩
theorem fSt_eq {β:Type} (N:Nat) (σ:St) (k:St->β):fSt N σ k=k (nrm N σ):=by
  unfold fSt
  rw[fSeq_eq (h:=fun t=>nrmV (σ.tm t)) fun t kk=>fV_eq (σ.tm t) kk,fBs_eq]
  simp only[List.append_nil,nrm,listV]
def Lax (σ σ':St):Prop:=∀ C a w,Rel C σ a w->Rel C σ' a w
theorem Lax.refl (σ:St):Lax σ σ:=fun _ _ _ h=>h
theorem Lax.trans {a b c:St} (h:Lax a b) (k:Lax b c):Lax a c:=fun C x w hr=>k C x w (h C x w hr)
theorem Weak.lax {σ σ':St} (h:∀ m0,Weak m0 σ σ'):Lax σ σ':=fun C a w hr=>h C.ρ0.length C a w (Nat.le_refl _) hr
theorem Sat.less {D0 : Nat → Prop} {w0 : Base} {w : World} {r : Bool} {ρ : List Loc} {bl : List Blk} (h : Sat D0 w0 r ρ bl w) (g : Blk → Blk) (hst : ∀ B, (g B).st ≤ 1 → (g B).st = B.st ∧ (g B).t = B.t ∧ (g B).sz = B.sz ∧ (g B).n = B.n ∧ (g B).u = B.u)
    (hc:∀ B∈bl,(g B).st≤1->∀ i j,i<B.n->j<B.sz->∀ v,CRel (Dof D0 ρ bl) w (if B.st=0 then ρ else []) (B.f i j) v->CRel (Dof D0 ρ bl) w (if B.st=0 then ρ else []) ((g B).f i j) v):Sat D0 w0 r ρ (bl.map g) w/\(∀ b,Dof D0 ρ (bl.map g) b->Dof D0 ρ bl b):=by
  have get:∀(k:Nat) (B':Blk),(bl.map g)[k]? = some B'->∃ B,bl[k]? = some B/\B'=g B:=by
    intro k B' hk
    rw[List.getElem?_map]at hk
    cases hb:bl[k]? with
    | none=>rw[hb]at hk;cases hk
    | some B=>rw[hb]at hk;cases hk;exact⟨B,rfl,rfl⟩
  have hD:∀ b,Dof D0 ρ (bl.map g) b->Dof D0 ρ bl b:=by
    rintro b (hx | ⟨k,l,B',e1,e2,e3,e4⟩)
    · exact .inl hx
    · obtain⟨B,q1,rfl⟩:=get k B' e2
      exact .inr ⟨k,l,B,e1,q1,by rw[← (hst B (by omega)).1];exact e3,e4⟩
  refine⟨⟨h.below,h.d0,by simp[h.len],fun k l B' e1 e2 hs=>?_,fun i j li lj Bi Bj b e1 e2 e3 e4 e5 e6 e7 e8=>?_,fun hr b o d hb=>h.noU hr b o d (hD b hb)⟩,hD⟩
  · obtain⟨B,q1,rfl⟩:=get k B' e2
    obtain⟨s1,s2,s3,s4,s5⟩:=hst B hs
    obtain⟨g0,g1⟩:=h.at_ k l B e1 q1 (by omega)
    rw[s1,s2,s3,s4,s5]
    refine⟨g0,?_⟩
    rcases g1 with g1 | ⟨b,cap,cs,g2,g3,g4,g5,g6,g7,g8,g9⟩
    · exact .inl g1
    · refine .inr ⟨b,cap,cs,g2,g3,g4,g5,g6,g7,g8,fun i j hi hj=>?_⟩
      obtain⟨u,hu,hur⟩:=g9 i j hi hj
      exact⟨u,hu,(hc B (List.mem_of_getElem? q1) hs i j hi hj u hur).step (Ext.refl _ _) (fun b _ hb=>hD b hb) (LocsLe.refl _)⟩
  · obtain⟨B1,q1,rfl⟩:=get i Bi e3
    obtain⟨B2,q2,rfl⟩:=get j Bj e4
    exact h.dist i j li lj B1 B2 b e1 e2 q1 q2 (by rw[← (hst B1 e5).1];exact e5) (by rw[← (hst B2 e6).1];exact e6) e7 e8
theorem Lax.nrm (N:Nat) (σ:St):Lax σ (nrm N σ):=by
  rintro C a w ⟨ρ,hs,hN,hdf,hf⟩
  obtain⟨s1,s2⟩:=hs.less nrmB (fun B hb=>by
    obtain⟨t,sz,n,u,st,f⟩:=B
    match st,hb with
    | 0,_=>exact⟨rfl,rfl,rfl,rfl,rfl⟩
    | 1,_=>exact⟨rfl,rfl,rfl,rfl,rfl⟩
    | _+2,hb=>exact absurd hb (by simp[nrmB,phB])) (fun B _ hb i j hi hj v hv=>by
    obtain⟨t,sz,n,u,st,f⟩:=B
    have h0:0<sz:=Nat.lt_of_le_of_lt (Nat.zero_le _) hj
    have e1:(i*sz+j) / sz=i:=by
      rw[Nat.add_comm,Nat.add_mul_div_right _ _ h0,Nat.div_eq_of_lt hj,Nat.zero_add]
    have e2:(i*sz+j)%sz=j:=by rw[Nat.add_comm,Nat.add_mul_mod_self_right,Nat.mod_eq_of_lt hj]
    have key:CRel (Dof C.D0 ρ σ.bl) w (if st=0 then ρ else []) (rowF sz (listC (n*sz) fun x=>nrmC (f (x / sz) (x%sz))) i j) v:=by
      show CRel _ _ _ ((listC (n*sz) _).getD (i*sz+j) .any) v
      rw[listC_get (idx_lt hi hj (Nat.le_refl _)),e1,e2]
      exact nrmC_rel hv
    match st,hb with
    | 0,_=>exact key
    | 1,_=>exact key
    | _+2,hb=>exact absurd hb (by simp[nrmB,phB]))
  refine⟨ρ,s1,hN,hdf,fun t=>?_⟩
  show VRel _ _ _ (getV (listV N fun t=>nrmV (σ.tm t)) t) _
  have:getV (listV N fun t=>nrmV (σ.tm t)) t=nrmV (σ.tm t)∨getV (listV N fun t=>nrmV (σ.tm t)) t = .c .any:=by
    rcases Nat.lt_or_ge t N with h | h
    · left;simp[getV,listV,List.getD,h]
    · right;simp[getV,listV,List.getD,h]
  rcases this with e | e
  · rw[e];exact(nrmV_rel (hf t)).step (Ext.refl _ _) (fun b _ hb=>s2 b hb) (LocsLe.refl _)
  · rw[e];trivial
end Go.Proofs.YtkmbnldginonbaaGreat
/- Abstract operations asl functions: what each yields, where all that it asks is known. -/
namespace Go.Proofs.YtkmbnldginonbaaGreat
open Go.RowKit
def chkX {α:Type} (b:Bool) (p:Option α):Option α:=match b with
  | true=>p
  | false=>none
theorem chkX_some {α:Type} {b:Bool} {p:Option α} {r:α} (h:chkX b p=some r):b=true/\p=some r:=by
  cases b with
  | true=>exact⟨rfl,h⟩
  | false=>cases h
theorem chk_mk {b:Bool} {p:Prop} (hb:b=true) (h:p):chk b p:=by subst hb;exact h
def inRX (k:IntKind) (n:Int):Bool:=match k with
  | .i64=>decide (-9223372036854775808≤n)&&decide (n<9223372036854775808)
  | .u64=>decide (0≤n)&&decide (n<18446744073709551616)
  | .u32=>decide (0≤n)&&decide (n<4294967296)
  | k=>decide (k.wrap n=n)
theorem inRX_ok {k:IntKind} {n:Int} (h:inRX k n=true):inR k n:=by
  cases k <;> simp only[inRX,inR,Bool.and_eq_true,decide_eq_true_eq]at h ⊢ <;> exact h
def arX (k:IntKind) (n:Int):Option V:=match k with
  | .u64 | .u32 | .u16 | .u8=>some (.c (.int k (k.wrap n)))
  | k=>chkX (inRX k n) (some (.c (.int k n)))
theorem arX_ok {k:IntKind} {n:Int} {v:V} (h:arX k n=some v) {K:V->Prop} (hK:K v):arB k n K:=by
  cases k <;> simp only [arX] at h <;> simp only [arB] <;> first
    | (cases h;exact hK)
    | (obtain⟨h1,h2⟩:=chkX_some h;cases h2;exact⟨inRX_ok h1,hK⟩)
def binX (op:BinOp) (k:IntKind) (a b:Int):Option V:=match op with
  | .add=>arX k (a+b)
  | .sub=>arX k (a-b)
  | .mul=>arX k (a*b)
  | .quo=>chkX (!decide (b=0)&&inRX k (a.tdiv b)) (some (.c (.int k (a.tdiv b))))
  | .rem=>chkX (!decide (b=0)) (some (.c (.int k (a.tmod b))))
  | .eql=>some (.c (.bool (decide (a=b))))
  | .neq=>some (.c (.bool (!decide (a=b))))
  | .lss=>some (.c (.bool (decide (a<b))))
  | .leq=>some (.c (.bool (decide (a≤b))))
  | .gtr=>some (.c (.bool (decide (b<a))))
  | .geq=>some (.c (.bool (decide (b≤a))))
  | .shl=>chkX (decide (0≤b)) (some (.c (.int k (k.wrap (a*2^min b.toNat k.bits)))))
  | .shr=>chkX (decide (0≤b)) (some (.c (.int k (a.fdiv (2^min b.toNat k.bits)))))
  | .and=>some (.c (.int k (k.wrap (BitVec.ofInt k.bits a &&& BitVec.ofInt k.bits b).toNat)))
  | .or=>some (.c (.int k (k.wrap (BitVec.ofInt k.bits a ||| BitVec.ofInt k.bits b).toNat)))
  | .xor=>some (.c (.int k (k.wrap (BitVec.ofInt k.bits a ^^^ BitVec.ofInt k.bits b).toNat)))
  | _=>none
theorem binX_ok {op:BinOp} {k:IntKind} {a b:Int} {v:V} (h:binX op k a b=some v) {K:V->Prop} (hK:K v):intBin op k a b K:=by
  cases op <;> simp only[binX]at h <;> simp only[intBin]
  case add=>exact arX_ok h hK
  case sub=>exact arX_ok h hK
  case mul=>exact arX_ok h hK
  case quo =>
    obtain⟨h1,h2⟩:=chkX_some h;cases h2
    simp only[Bool.and_eq_true,Bool.not_eq_true',decide_eq_false_iff_not]at h1
    exact⟨h1.1,inRX_ok h1.2,hK⟩
  case rem =>
    obtain⟨h1,h2⟩:=chkX_some h;cases h2
    simp only[Bool.not_eq_true',decide_eq_false_iff_not]at h1
    exact⟨h1,hK⟩
  case shl=>obtain⟨h1,h2⟩:=chkX_some h;cases h2;exact⟨of_decide_eq_true h1,hK⟩
  case shr=>obtain⟨h1,h2⟩:=chkX_some h;cases h2;exact⟨of_decide_eq_true h1,hK⟩
  all_goals (first | (cases h;done) | (cases h;exact hK))
def sliceX (bl:List Blk) (x:V) (lo hi:Option V):Option V :=
  match (match lo with | none=>some 0 | some (V.c (.int .i64 n))=>some n | _=>none),(match hi with | none=>(lenA bl x).map Int.ofNat | some (V.c (.int .i64 n))=>some n | _=>none)with
  | some l,some h=>chkX (decide (0≤l)&&decide (l≤h)) (match x with
    | .c (.row sz n f)=>chkX (decide (h≤n)) (some (.c (.row sz (h-l).toNat fun i j=>f (l.toNat+i) j)))
    | .c (.gs k u)=>match bl[k]? with
      | some B=>chkX (B.u == u&&B.st.ble 1) (chkX (decide (h≤B.n)) (some (.c (.sl k u B.sz l.toNat (h-l).toNat))))
      | none=>none
    | .c (.sl k u sz o n)=>match bl[k]? with
      | some B=>chkX (B.u == u&&B.st.ble 1) (chkX (decide (h≤n)) (some (.c (.sl k u sz (o+l.toNat) (h-l).toNat))))
      | none=>none
    | _=>none)
  | _,_=>none
theorem sliceX_ok {bl:List Blk} {x:V} {lo hi:Option V} {v:V} (h:sliceX bl x lo hi=some v) {K:V->Prop} (hK:K v):sliceA bl x lo hi K:=by
  unfold sliceX at h
  split at h
  · rename_i l hh e1 e2
    obtain⟨h1,h⟩:=chkX_some h
    simp only[Bool.and_eq_true,decide_eq_true_eq]at h1
    unfold sliceA
    split
    · rename_i l' hh' e1' e2'
      have q1:some l=some l':=e1.symm.trans e1'
      have q2:some hh=some hh':=e2.symm.trans e2'
      cases q1
      cases q2
      refine⟨h1.1,h1.2,?_⟩
      split at h
      · obtain⟨h2,h⟩:=chkX_some h
        cases h
        exact⟨of_decide_eq_true h2,hK⟩
      · split at h
        · rename_i B hB
          obtain⟨h2,h⟩:=chkX_some h
          obtain⟨h3,h⟩:=chkX_some h
          cases h
          simp only[hB]
          exact chk_mk h2 ⟨of_decide_eq_true h3,hK⟩
        · cases h
      · split at h
        · rename_i B hB
          obtain⟨h2,h⟩:=chkX_some h
          obtain⟨h3,h⟩:=chkX_some h
          cases h
          simp only[hB]
          exact chk_mk h2 ⟨of_decide_eq_true h3,hK⟩
        · cases h
      · cases h
    · rename_i hno
      exact hno l hh e1 e2
  · cases h
def dopX (E:Env) (q:FuncId->List V->Option V) (o:Op) (σ:St):Option V :=
  match o with
  | .move x | .assign x=>some (σ.ev x)
  | .pick c a b=>match σ.ev c with
    | .c (.bool true)=>some (σ.ev a)
    | .c (.bool false)=>some (σ.ev b)
    | _=>none
  | .load T x=>match E.ty T with
    | some ti=>chkX (ti.agg||ti.size == 1) (match σ.ev x with
      | .c (.p k u sz i o)=>match σ.bl[k]? with
        | some B=>chkX (B.u == u&&(B.sz == sz&&(B.st.ble 1&&(o+ti.size).ble sz))) (some (ofCells ti.agg ((List.range ti.size).map fun j=>B.f i (o+j))))
        | none=>none
      | .c (.xp m f)=>chkX (ti.size.ble m) (some (ofCells ti.agg ((List.range ti.size).map f)))
      | _=>none)
    | none=>none
  | .fieldAddr T x fld=>match E.ty T with
    | some ti=>match ti.offs[fld]? with
      | some (some (off,_))=>match σ.ev x with
        | .c (.p k u sz i o)=>match σ.bl[k]? with
          | some B=>chkX (B.u == u&&B.st.ble 1) (some (.c (.p k u sz i (o+off))))
          | none=>none
        | .c (.xp m f)=>chkX (off.ble m) (some (.c (.xp (m-off) fun j=>f (off+j))))
        | _=>none
      | _=>none
    | none=>none
  | .indexAddr T x ix=>match E.ty T with
    | some ti=>match ti.elem with
      | some e=>match E.ty e,σ.ev ix with
        | some te,.c (.int _ n)=>chkX (decide (0≤n)) (match σ.ev x with
          | .c (.row sz m f)=>chkX (decide (n<m)) (chkX (te.size == sz) (some (.c (.xp sz (f n.toNat)))))
          | .c (.gs k u)=>match σ.bl[k]? with
            | some B=>chkX (decide (n<B.n)) (chkX (B.u == u&&(B.st.ble 1&&te.size == B.sz)) (some (.c (.p k u B.sz n.toNat 0))))
            | none=>none
          | .c (.sl k u sz o m)=>match σ.bl[k]? with
            | some B=>chkX (decide (n<m)) (chkX (B.u == u&&(B.st.ble 1&&te.size == sz)) (some (.c (.p k u sz (o+n.toNat) 0))))
            | none=>none
          | _=>none)
        | _,_=>none
      | none=>none
    | none=>none
  | .build T parts=>match E.ty T with
    | some ti=>match fillA σ.bl ti.offs ti.zero (parts.toList.map fun q=>(q.1,σ.ev q.2))with
      | some l=>chkX (!ti.offs.isEmpty&&ti.offs.all Option.isSome) (some (.g l))
      | none=>none
    | none=>none
  | .binOp op T x y _=>match σ.ev x,σ.ev y with
    | .c (.int k a),.c (.int k' b)=>chkX (decide (k=k')||shiftB op) (binX op k a b)
    | .c (.bool a),.c (.bool b)=>match E.ty T with
      | some ti=>chkX (ti.kd == 1) (match op with
        | .eql=>some (.c (.bool (a == b)))
        | .neq=>some (.c (.bool (!(a == b))))
        | _=>none)
      | none=>none
    | .c (.row _ n _),.c .nil=>match E.ty T with
      | some ti=>chkX (ti.elem.isSome&&decide (0<n)) (match op with
        | .eql=>some (.c (.bool false))
        | .neq=>some (.c (.bool true))
        | _=>none)
      | none=>none
    | _,_=>none
  | .unOp op _ x=>match op,σ.ev x with
    | .not,.c (.bool b)=>some (.c (.bool !b))
    | .neg,.c (.int k n)=>some (.c (.int k (k.wrap (-n))))
    | .xor,.c (.int k n)=>some (.c (.int k (k.wrap (BitVec.ofInt k.bits (if k.signed then -1 else k.max) ^^^ BitVec.ofInt k.bits n).toNat)))
    | _,_=>none
  | .convert S T x=>match E.ty S,E.ty T,σ.ev x with
    | some ts,some ti,.c (.int _ n)=>match ts.ik,ti.ik with
      | some _,some k=>some (.c (.int k (k.wrap n)))
      | _,_=>none
    | _,_,_=>none
  | .extract x i=>extractA (σ.ev x) i
  | .slice T x lo hi none=>match E.ty T with
    | some ti=>match ti.elem with
      | some e=>match E.ty e with
        | some te=>chkX (match szA σ.bl (σ.ev x)with | some z=>z == te.size | none=>false) (sliceX σ.bl (σ.ev x) (lo.map σ.ev) (hi.map σ.ev))
        | none=>none
      | none=>none
    | none=>none
  | .call { callee := .builtin .len,args,argTypes }=>match args.toList,argTypes.toList with
    | [x],[T]=>match E.ty T,lenA σ.bl (σ.ev x)with
      | some ti,some n=>chkX ti.elem.isSome (some (.c (.int .i64 n)))
      | _,_=>none
    | _,_=>none
  | .call { callee := .builtin .max,args,.. }=>match args.toList.map σ.ev with
    | [.c (.int k a),.c (.int _ b)]=>some (.c (.int k (if b > a then b else a)))
    | _=>none
  | .call { callee := .builtin .min,args,.. }=>match args.toList.map σ.ev with
    | [.c (.int k a),.c (.int _ b)]=>some (.c (.int k (if b<a then b else a)))
    | _=>none
  | .call { callee := .value g,args,.. }=>match calleeA σ g with
    | some f=>chkX ((args.toList.map fun x=>St.close σ.bl (σ.ev x)).all V.clos) (q f (args.toList.map fun x=>St.close σ.bl (σ.ev x)))
    | none=>match capsA σ g with
      | some (f,cs)=>chkX (((args.toList.map fun x=>St.close σ.bl (σ.ev x))++cs.map fun c=>V.c (St.closeC σ.bl c)).all V.clos) (q f ((args.toList.map fun x=>St.close σ.bl (σ.ev x))++cs.map fun c=>V.c (St.closeC σ.bl c)))
      | none=>none
  | .index T (.const (.string s)) ix=>match E.ty T,σ.ev ix with
    | some ti,.c (.int _ n)=>chkX (ti.kd == 2&&decide (0≤n)) (match s[n.toNat]? with
      | some b=>some (.c (.int .u8 (b.toNat:Int)))
      | none=>none)
    | _,_=>none
  | .makeFunc (.func f) first captured=>chkX (first.size == 0) (some (.c (.cl f captured.size (capC σ captured.toList))))
  | .field T x fld=>match E.ty T with
    | some ti=>match ti.offs[fld]?,σ.ev x with
      | some (some (off,_)),.g l=>match l[off]? with
        | some c=>chkX (ti.kd == 3) (some (.c c))
        | none=>none
      | _,_=>none
    | none=>none
  | .nilCheck x=>match σ.ev x with
    | .c (.p k u sz i o)=>match σ.bl[k]? with
      | some B=>chkX (B.u == u&&B.st.ble 1) (some (.c (.p k u sz i o)))
      | none=>none
    | .c (.xp m f)=>some (.c (.xp m f))
    | _=>none
  | _=>none
theorem dopX_ok {E:Env} {q:FuncId->List V->Option V} (hq:∀ f asl X,q f asl=some X->FnOK E.P E.r f asl X) {o:Oper} {σ:St} {v:V} (h:dopX E q o.op σ=some v) {K:V->Prop} (hK:K v):dop E o σ K:=by
  unfold dop
  unfold dopX at h
  split at h
  case h_1 x hx=>rw[hx];cases h;exact hK
  case h_2 x hx=>rw[hx];cases h;exact hK
  case h_3 c a b hx =>
    rw[hx]
    simp only
    split at h
    · rename_i e;cases h;rw[e];exact hK
    · rename_i e;cases h;rw[e];exact hK
    · cases h
  case h_4 T x hx =>
    rw[hx]
    simp only
    split at h
    · rename_i ti ht
      rw[ht]
      obtain⟨h1,h⟩:=chkX_some h
      refine chk_mk h1 ?_
      split at h
      · rename_i e
        rw[e]
        simp only
        split at h
        · rename_i B hB
          obtain⟨h2,h⟩:=chkX_some h
          cases h
          simp only[hB]
          exact chk_mk h2 hK
        · cases h
      · rename_i e
        rw[e]
        obtain⟨h2,h⟩:=chkX_some h
        cases h
        exact chk_mk h2 hK
      · cases h
    · cases h
  case h_5 T x fld hx =>
    rw[hx]
    simp only
    split at h
    · rename_i ti ht
      rw[ht]
      simp only
      split at h
      · rename_i off y ho
        rw[ho]
        simp only
        split at h
        · rename_i e
          rw[e]
          simp only
          split at h
          · rename_i B hB
            obtain⟨h2,h⟩:=chkX_some h
            cases h
            simp only[hB]
            exact chk_mk h2 hK
          · cases h
        · rename_i e
          rw[e]
          obtain⟨h2,h⟩:=chkX_some h
          cases h
          exact chk_mk h2 hK
        · cases h
      · cases h
    · cases h
  case h_6 T x ix hx =>
    rw[hx]
    simp only
    split at h
    · rename_i ti ht
      rw[ht]
      simp only
      split at h
      · rename_i e he
        rw[he]
        simp only
        split at h
        · rename_i te kk n hte hn
          rw[hte,hn]
          obtain⟨h1,h⟩:=chkX_some h
          refine⟨of_decide_eq_true h1,?_⟩
          split at h
          · rename_i e1
            rw[e1]
            obtain⟨h2,h⟩:=chkX_some h
            obtain⟨h3,h⟩:=chkX_some h
            cases h
            exact⟨of_decide_eq_true h2,chk_mk h3 hK⟩
          · rename_i e1
            rw[e1]
            simp only
            split at h
            · rename_i B hB
              obtain⟨h2,h⟩:=chkX_some h
              obtain⟨h3,h⟩:=chkX_some h
              cases h
              simp only[hB]
              exact⟨of_decide_eq_true h2,chk_mk h3 hK⟩
            · cases h
          · rename_i e1
            rw[e1]
            simp only
            split at h
            · rename_i B hB
              obtain⟨h2,h⟩:=chkX_some h
              obtain⟨h3,h⟩:=chkX_some h
              cases h
              simp only[hB]
              exact⟨of_decide_eq_true h2,chk_mk h3 hK⟩
            · cases h
          · cases h
        · cases h
      · cases h
    · cases h
  case h_7 T parts hx =>
    rw[hx]
    simp only
    split at h
    · rename_i ti ht
      rw[ht]
      simp only
      split at h
      · rename_i l hl
        rw[hl]
        obtain⟨h2,h⟩:=chkX_some h
        cases h
        exact chk_mk h2 hK
      · cases h
    · cases h
  case h_8 op T x y T' hx =>
    rw[hx]
    simp only
    split at h
    · rename_i e1 e2
      rw[e1,e2]
      obtain⟨h2,h⟩:=chkX_some h
      exact chk_mk h2 (binX_ok h hK)
    · rename_i e1 e2
      rw[e1,e2]
      simp only
      split at h
      · rename_i ti ht
        rw[ht]
        obtain⟨h2,h⟩:=chkX_some h
        refine chk_mk h2 ?_
        unfold boolBin
        split at h
        · cases h;exact hK
        · cases h;exact hK
        · cases h
      · cases h
    · rename_i e1 e2
      rw[e1,e2]
      simp only
      split at h
      · rename_i ti ht
        rw[ht]
        obtain⟨h2,h⟩:=chkX_some h
        simp only[Bool.and_eq_true,decide_eq_true_eq]at h2
        refine chk_mk h2.1 ⟨h2.2,?_⟩
        unfold nilBin
        split at h
        · cases h;exact hK
        · cases h;exact hK
        · cases h
      · cases h
    · cases h
  case h_9 op T x hx =>
    rw[hx]
    simp only
    split at h
    · rename_i e;rw[e];cases h;exact hK
    · rename_i e;rw[e];cases h;exact hK
    · rename_i e;rw[e];cases h;exact hK
    · cases h
  case h_10 S T x hx =>
    rw[hx]
    simp only
    split at h
    · rename_i e1 e2 e3
      rw[e1,e2,e3]
      simp only
      split at h
      · rename_i e4 e5
        rw[e4,e5]
        cases h;exact hK
      · cases h
    · cases h
  case h_11 x i hx =>
    rw[hx]
    simp only
    rw[h]
    exact hK
  case h_12 T x lo hi hx =>
    rw[hx]
    simp only
    split at h
    · rename_i ti ht
      rw[ht]
      simp only
      split at h
      · rename_i e he
        rw[he]
        simp only
        split at h
        · rename_i te hte
          rw[hte]
          obtain⟨h2,h⟩:=chkX_some h
          exact chk_mk h2 (sliceX_ok h hK)
        · cases h
      · cases h
    · cases h
  case h_13 args ts hx =>
    rw[hx]
    simp only
    split at h
    · rename_i x T e1 e2
      rw[e1,e2]
      simp only
      split at h
      · rename_i ti n e3 e4
        rw[e3,e4]
        obtain⟨h2,h⟩:=chkX_some h
        cases h
        exact chk_mk h2 hK
      · cases h
    · cases h
  case h_14 args ts hx =>
    rw[hx]
    simp only
    split at h
    · rename_i e;rw[e];cases h;exact hK
    · cases h
  case h_15 args ts hx =>
    rw[hx]
    simp only
    split at h
    · rename_i e;rw[e];cases h;exact hK
    · cases h
  case h_16 g args ts hx =>
    rw[hx]
    simp only
    split at h
    · rename_i f hf
      rw[hf]
      obtain⟨h2,h⟩:=chkX_some h
      exact chk_mk h2 ⟨_,hq _ _ _ h,hK⟩
    · rename_i hf
      rw[hf]
      simp only
      split at h
      · rename_i f cs hcs
        rw[hcs]
        obtain⟨h2,h⟩:=chkX_some h
        exact chk_mk h2 ⟨_,hq _ _ _ h,hK⟩
      · cases h
  case h_17 T s ix hx =>
    rw[hx]
    simp only
    split at h
    · rename_i e1 e2
      rw[e1,e2]
      obtain⟨h2,h⟩:=chkX_some h
      simp only[Bool.and_eq_true,decide_eq_true_eq]at h2
      refine chk_mk h2.1 ⟨h2.2,?_⟩
      split at h
      · rename_i b hb
        rw[hb]
        cases h;exact hK
      · cases h
    · cases h
  case h_18 f first captured hx =>
    rw[hx]
    obtain⟨h2,h⟩:=chkX_some h
    cases h
    exact chk_mk h2 hK
  case h_19 T x fld hx =>
    rw[hx]
    simp only
    split at h
    · rename_i ti ht
      rw[ht]
      simp only
      split at h
      · rename_i off y l ho hv
        rw[ho,hv]
        simp only
        split at h
        · rename_i c hc
          rw[hc]
          obtain⟨h2,h⟩:=chkX_some h
          cases h
          exact chk_mk h2 hK
        · cases h
      · cases h
    · cases h
  case h_20 x hx =>
    rw[hx]
    simp only
    split at h
    · rename_i e
      rw[e]
      simp only
      split at h
      · rename_i B hB
        obtain⟨h2,h⟩:=chkX_some h
        cases h
        simp only[hB]
        exact chk_mk h2 hK
      · cases h
    · rename_i e
      rw[e]
      cases h
      exact hK
    · cases h
  case h_21=>cases h
end Go.Proofs.YtkmbnldginonbaaGreat
/- Abstract operations that make or write blocks, asl functions; regions whose order is open. -/
namespace Go.Proofs.YtkmbnldginonbaaGreat
open Go.RowKit
def allIJ (n m:Nat) (p:Nat->Nat->Bool):Bool:=(List.range n).all fun i=>(List.range m).all fun j=>p i j
theorem allIJ_ok {n m:Nat} {p:Nat->Nat->Bool} (h:allIJ n m p=true) {i j:Nat} (hi:i<n) (hj:j<m):p i j=true :=
  List.all_eq_true.1 (List.all_eq_true.1 h i (List.mem_range.2 hi)) j (List.mem_range.2 hj)
def appKX (E:Env) (dst:Option Nat) (σ:St) (k u:Nat) (e:TypeId) (te:TI) (y:V):Option St :=
  match σ.bl[k]?,srcA σ.bl te.size k y with
  | some B,some (m,fy)=>chkX (B.u == u&&(B.st == 0&&(B.sz == te.size&&B.t == e))) (chkX (decide (B.n+m≤16777216)&&allIJ m te.size fun i j=>St.one σ.bl (fy i j)&&(!E.r||(fy i j).noU)) (some (St.put { σ with bl:=σ.bl.set k ⟨B.t,B.sz,B.n+m,B.u+1,0,appF B.n B.f fy⟩ } dst (.c (.gs k (u+1))))))
  | _,_=>none
theorem appKX_ok {E:Env} {dst:Option Nat} {σ σ':St} {k u:Nat} {e:TypeId} {te:TI} {y:V} (h:appKX E dst σ k u e te y=some σ') {K:St->Prop} (hK:K σ'):appK E dst σ k u e te y K:=by
  unfold appKX at h
  unfold appK
  split at h
  · rename_i B m fy e1 e2
    rw[e1,e2]
    obtain⟨h1,h⟩:=chkX_some h
    obtain⟨h2,h⟩:=chkX_some h
    cases h
    simp only[Bool.and_eq_true,decide_eq_true_eq]at h2
    refine chk_mk h1 ⟨h2.1,fun i j hi hj=>?_,hK⟩
    have:=allIJ_ok h2.2 hi hj
    simp only[Bool.and_eq_true,Bool.or_eq_true,Bool.not_eq_true']at this
    exact⟨this.1,fun hr=>this.2.resolve_left (by rw[hr];simp)⟩
  · cases h
def appX (E:Env) (dst:Option Nat) (σ:St) (args:List Operand) (ts:List TypeId):Option St:=match args,ts with
  | [x,y],[T,T']=>match E.ty T with
    | some ti=>match ti.elem with
      | some e=>match E.ty e with
        | some te=>chkX (((E.ty T').bind (·.elem) == some e)&&(te.zero.length == te.size&&((1:Nat).ble te.size&&((!E.r||te.zero.all Cell.noU)&&te.bytes.ble 8388608)))) (match σ.ev x with
          | .c (.gs k u)=>appKX E dst σ k u e te (σ.ev y)
          | .c .nil=>appKX E dst (nilB σ e te.size) σ.bl.length 0 e te (σ.ev y)
          | _=>none)
        | none=>none
      | none=>none
    | none=>none
  | _,_=>none
theorem appX_ok {E:Env} {dst:Option Nat} {σ σ':St} {args:List Operand} {ts:List TypeId} (h:appX E dst σ args ts=some σ') {K:St->Prop} (hK:K σ'):appA E dst σ args ts K:=by
  unfold appX at h
  unfold appA
  split at h
  · split at h
    · rename_i ti ht
      simp only[ht]
      split at h
      · rename_i e he
        simp only[he]
        split at h
        · rename_i te hte
          simp only[hte]
          obtain⟨h1,h⟩:=chkX_some h
          refine chk_mk h1 ?_
          split at h
          · rename_i e1;rw[e1];exact appKX_ok h hK
          · rename_i e1;rw[e1];exact appKX_ok h hK
          · cases h
        · cases h
      · cases h
    · cases h
  · cases h
def frz1X (σ:St) (x:V):Option St :=
  match x with
  | .c (.gs k _) | .c (.sl k _ _ _ _) | .c (.p k _ _ _ _)=>match σ.bl[k]? with
    | some B=>match B.st with
      | 0=>chkX (allIJ B.n B.sz fun i j=>(B.f i j).clos) (some { σ with bl:=σ.bl.set k { B with st:=1 } })
      | _=>some σ
    | none=>some σ
  | _=>some σ
theorem frz1X_ok {σ σ':St} {x:V} (h:frz1X σ x=some σ') {K:St->Prop} (hK:K σ'):frz1 σ x K:=by
  unfold frz1X at h
  unfold frz1
  split at h
  all_goals first
    | (split at h
       · rename_i B hB
         simp only[hB]
         split at h
         · rename_i hst
           obtain⟨h1,h⟩:=chkX_some h
           cases h
           rw[hst]
           exact⟨fun i j hi hj=>allIJ_ok h1 hi hj,hK⟩
         · rename_i hst
           cases h
           split
           · rename_i e;exact absurd e hst
           · exact hK
       · rename_i hB
         cases h
         simp only[hB]
         exact hK)
    | (rename_i h1 h2 h3
       cases h
       split
       · exact absurd rfl (h1 _ _)
       · exact absurd rfl (h2 _ _ _ _ _)
       · exact absurd rfl (h3 _ _ _ _ _)
       · exact hK)
def frzAX : List V → St → Option St
  | [],σ=>some σ
  | x :: l,σ=>match frz1X σ x with
    | some σ'=>frzAX l σ'
    | none=>none
theorem frzAX_ok : ∀ (l : List V) {σ σ' : St}, frzAX l σ = some σ' → ∀ {K : St → Prop}, K σ' → frzA l σ K
  | [],_,_,h,_,hK=>by cases h;exact hK
  | x :: l,σ,σ',h,K,hK=>by
    simp only[frzAX]at h
    split at h
    · rename_i σ1 h1
      exact frz1X_ok h1 (frzAX_ok l h hK)
    · cases h
def aopX (E:Env) (q:FuncId->List V->Option V) (o:Oper) (σ:St):Option St :=
  match o.op with
  | .box T x=>match cellsV σ.bl E.r (σ.ev x)with
    | some l=>some ((σ.push ⟨T,l.length,1,0,0,boxF l⟩).put o.dst (.c (.p σ.bl.length 0 l.length 0 0)))
    | none=>none
  | .alloc T=>match E.ty T with
    | some ti=>match cellsV σ.bl E.r (.g ti.zero)with
      | some l=>some ((σ.push ⟨T,l.length,1,0,0,boxF l⟩).put o.dst (.c (.p σ.bl.length 0 l.length 0 0)))
      | none=>none
    | none=>none
  | .store T x y=>match E.ty T,σ.ev x,cellsV σ.bl E.r (σ.ev y)with
    | some ti,.c (.p k u sz i o'),some l=>match σ.bl[k]? with
      | some B=>chkX (B.u == u&&(B.sz == sz&&(B.st == 0&&(l.length == ti.size&&(o'+l.length).ble sz)))) (some (St.put { σ with bl:=σ.bl.set k { B with f:=updF B.f i o' l } } o.dst (.c .any)))
      | none=>none
    | _,_,_=>none
  | .makeSlice T ln cp=>match E.ty T with
    | some ti=>match ti.elem with
      | some e=>match E.ty e,σ.ev ln,σ.ev cp with
        | some te,.c (.int _ n),.c (.int _ c)=>chkX (decide (0≤n)&&(decide (n≤c)&&(decide (c≤281474976710656)&&(decide ((te.bytes:Int)*c≤281474976710656)&&te.zero.length == te.size)))) (match cellsV σ.bl E.r (.g te.zero)with
          | some l=>some ((σ.push ⟨e,te.size,n.toNat,0,0,zeroF l⟩).put o.dst (.c (.gs σ.bl.length 0)))
          | none=>none)
        | _,_,_=>none
      | none=>none
    | none=>none
  | .buildSlice T len parts=>match E.ty T with
    | some ti=>match ti.elem with
      | some e=>match E.ty e with
        | some te=>chkX (len.ble 16777216&&(len*te.size).ble 16777216) (match fillA σ.bl ((List.range len).map fun i=>some (i*te.size,te.size)) (List.replicate (len*te.size) .any) (parts.toList.map fun q=>(q.1,σ.ev q.2))with
          | some l=>match cellsV σ.bl E.r (.g l)with
            | some l=>some ((σ.push ⟨e,te.size,len,0,0,rowF te.size l⟩).put o.dst (.c (.gs σ.bl.length 0)))
            | none=>none
          | none=>none)
        | none=>none
      | none=>none
    | none=>none
  | .call { callee := .value g,args,.. }=>match wrB σ g with
    | true=>none
    | false=>match frzAX (args.toList.flatMap fun x=>partsV (σ.ev x)) σ with
      | some σ'=>match dopX E q o.op σ' with
        | some v=>some (σ'.put o.dst v)
        | none=>none
      | none=>none
  | .call { callee := .builtin .append,args,argTypes }=>appX E o.dst σ args.toList argTypes.toList
  | op=>match dopX E q op σ with
    | some v=>some (σ.put o.dst v)
    | none=>none
theorem aopX_ok {E:Env} {q:FuncId->List V->Option V} (hq:∀ f asl X,q f asl=some X->FnOK E.P E.r f asl X) {o:Oper} {σ σ':St} (h:aopX E q o σ=some σ') {K:St->Prop} (hK:K σ'):aop E o σ K:=by
  unfold aopX at h
  unfold aop
  split at h
  case h_1 T x hx =>
    rw[hx]
    simp only
    split at h
    · rename_i l hl
      rw[hl]
      cases h;exact hK
    · cases h
  case h_2 T hx =>
    rw[hx]
    simp only
    split at h
    · rename_i ti ht
      rw[ht]
      simp only
      split at h
      · rename_i l hl
        rw[hl]
        cases h;exact hK
      · cases h
    · cases h
  case h_3 T x y hx =>
    rw[hx]
    simp only
    split at h
    · rename_i e1 e2 e3
      rw[e1,e2,e3]
      simp only
      split at h
      · rename_i B hB
        obtain⟨h1,h⟩:=chkX_some h
        cases h
        simp only[hB]
        exact chk_mk h1 hK
      · cases h
    · cases h
  case h_4 T ln cp hx =>
    rw[hx]
    simp only
    split at h
    · rename_i ti ht
      rw[ht]
      simp only
      split at h
      · rename_i e he
        rw[he]
        simp only
        split at h
        · rename_i e1 e2 e3
          rw[e1,e2,e3]
          obtain⟨h1,h⟩:=chkX_some h
          simp only[Bool.and_eq_true,decide_eq_true_eq]at h1
          refine⟨h1.1,h1.2.1,h1.2.2.1,h1.2.2.2.1,chk_mk h1.2.2.2.2 ?_⟩
          split at h
          · rename_i l hl
            rw[hl]
            cases h;exact hK
          · cases h
        · cases h
      · cases h
    · cases h
  case h_5 T len parts hx =>
    rw[hx]
    simp only
    split at h
    · rename_i ti ht
      rw[ht]
      simp only
      split at h
      · rename_i e he
        rw[he]
        simp only
        split at h
        · rename_i te hte
          rw[hte]
          obtain⟨h1,h⟩:=chkX_some h
          refine chk_mk h1 ?_
          split at h
          · rename_i l hl
            rw[hl]
            simp only
            split at h
            · rename_i l' hl'
              rw[hl']
              cases h;exact hK
            · cases h
          · cases h
        · cases h
      · cases h
    · cases h
  case h_6 g args ts hx =>
    rw[hx]
    simp only
    split at h
    · cases h
    · rename_i e
      rw[e]
      simp only
      split at h
      · rename_i σ1 h1
        split at h
        · rename_i v hv
          cases h
          exact frzAX_ok _ h1 (dopX_ok hq hv hK)
        · cases h
      · cases h
  case h_7 args ts hx =>
    rw[hx]
    exact appX_ok h hK
  case h_8 h1 h2 h3 h4 h5 h6 h7 =>
    split at h
    · rename_i v hv
      cases h
      have hd:=dopX_ok hq (o:=o) hv (K:=fun v=>K (σ.put o.dst v)) hK
      split
      case h_1 hx=>exact absurd hx (h1 _ _)
      case h_2 hx=>exact absurd hx (h2 _)
      case h_3 hx=>exact absurd hx (h3 _ _ _)
      case h_4 hx=>exact absurd hx (h4 _ _ _)
      case h_5 hx=>exact absurd hx (h5 _ _ _)
      case h_6 hx=>exact absurd hx (h6 _ _ _)
      case h_7 hx=>exact absurd hx (h7 _ _)
      case h_8=>exact hd
    · cases h
def appSX (E:Env) (σ:St) (fr:Nat) (args:List Operand) (ts:List TypeId):Option (V × Option (Nat × Blk)):=match args,ts with
  | [x,y],[T,T']=>match E.ty T with
    | some ti=>match ti.elem with
      | some e=>match E.ty e with
        | some te=>chkX (T == T'&&(te.zero.length == te.size&&((1:Nat).ble te.size&&((!E.r||te.zero.all Cell.noU)&&te.bytes.ble 8388608)))) (match σ.ev x with
          | .c (.gs k u)=>match σ.bl[k]?,srcA σ.bl te.size k (σ.ev y)with
            | some B,some (m,fy)=>chkX (B.u == u&&(B.st == 0&&(B.sz == te.size&&B.t == e))) (chkX (decide (B.n+m≤16777216)&&allIJ m te.size fun i j=>St.one [] (fy i j)&&(!E.r||(fy i j).noU)) (some (.c (.gs k (u+1)),some (k,⟨B.t,B.sz,B.n+m,B.u+1,0,appF B.n B.f fy⟩))))
            | _,_=>none
          | .c .nil=>match srcA σ.bl te.size fr (σ.ev y)with
            | some (m,fy)=>chkX (decide (m≤16777216)&&allIJ m te.size fun i j=>St.one [] (fy i j)&&(!E.r||(fy i j).noU)) (some (.c (.gs fr 1),some (fr,⟨e,te.size,0+m,1,0,appF 0 (fun _ _ => .any) fy⟩)))
            | none=>none
          | _=>none)
        | none=>none
      | none=>none
    | none=>none
  | _,_=>none
theorem appSX_ok {E:Env} {σ:St} {fr:Nat} {args:List Operand} {ts:List TypeId} {v:V} {ub:Option (Nat × Blk)} (h:appSX E σ fr args ts=some (v,ub)) {K:V->Option (Nat × Blk)->Prop} (hK:K v ub):appS E σ fr args ts K:=by
  have all:∀ {m sz:Nat} {fy:Nat->Nat->Cell},(allIJ m sz fun i j=>St.one [] (fy i j)&&(!E.r||(fy i j).noU))=true->∀ i j,i<m->j<sz->St.one [] (fy i j)=true/\(E.r=true->(fy i j).noU=true):=by
    intro m sz fy h i j hi hj
    have:=allIJ_ok h hi hj
    simp only[Bool.and_eq_true,Bool.or_eq_true,Bool.not_eq_true']at this
    exact⟨this.1,fun hr=>this.2.resolve_left (by rw[hr];simp)⟩
  unfold appSX at h
  unfold appS
  split at h
  · split at h
    · rename_i ti ht
      simp only[ht]
      split at h
      · rename_i e he
        simp only[he]
        split at h
        · rename_i te hte
          simp only[hte]
          obtain⟨h1,h⟩:=chkX_some h
          refine chk_mk h1 ?_
          split at h
          · rename_i e1
            rw[e1]
            simp only
            split at h
            · rename_i B m fy e2 e3
              rw[e2,e3]
              obtain⟨h2,h⟩:=chkX_some h
              obtain⟨h3,h⟩:=chkX_some h
              cases h
              simp only[Bool.and_eq_true,decide_eq_true_eq]at h3
              exact chk_mk h2 ⟨h3.1,all h3.2,hK⟩
            · cases h
          · rename_i e1
            rw[e1]
            simp only
            split at h
            · rename_i m fy e3
              rw[e3]
              obtain⟨h3,h⟩:=chkX_some h
              cases h
              simp only[Bool.and_eq_true,decide_eq_true_eq]at h3
              exact⟨h3.1,all h3.2,hK⟩
            · cases h
          · cases h
        · cases h
      · cases h
    · cases h
  · cases h
def sopX (E:Env) (q:FuncId->List V->Option V) (cl:Bool) (o:Oper) (σ:St) (fr:Nat):Option (V × Option (Nat × Blk)) :=
  match o.op with
  | .box T x=>match cellsV σ.bl E.r (σ.ev x)with
    | some l=>some (.c (.p fr 1 l.length 0 0),some (fr,⟨T,l.length,1,1,0,boxF l⟩))
    | none=>none
  | .alloc T=>match E.ty T with
    | some ti=>match cellsV σ.bl E.r (.g ti.zero)with
      | some l=>some (.c (.p fr 1 l.length 0 0),some (fr,⟨T,l.length,1,1,0,boxF l⟩))
      | none=>none
    | none=>none
  | .store T x y=>match E.ty T,σ.ev x,cellsV σ.bl E.r (σ.ev y)with
    | some ti,.c (.p k u sz i o'),some l=>match σ.bl[k]? with
      | some B=>chkX (B.u == u&&(B.sz == sz&&(B.st == 0&&(l.length == ti.size&&(o'+l.length).ble sz)))) (some (.c .any,some (k,{ B with f:=updF B.f i o' l })))
      | none=>none
    | _,_,_=>none
  | .makeSlice T ln cp=>match E.ty T with
    | some ti=>match ti.elem with
      | some e=>match E.ty e,σ.ev ln,σ.ev cp with
        | some te,.c (.int _ n),.c (.int _ c)=>chkX (decide (0≤n)&&(decide (n≤c)&&(decide (c≤281474976710656)&&(decide ((te.bytes:Int)*c≤281474976710656)&&te.zero.length == te.size)))) (match cellsV σ.bl E.r (.g te.zero)with
          | some l=>some (.c (.gs fr 1),some (fr,⟨e,te.size,n.toNat,1,0,zeroF l⟩))
          | none=>none)
        | _,_,_=>none
      | none=>none
    | none=>none
  | .buildSlice T len parts=>match E.ty T with
    | some ti=>match ti.elem with
      | some e=>match E.ty e with
        | some te=>chkX (len.ble 16777216&&(len*te.size).ble 16777216) (match fillA σ.bl ((List.range len).map fun i=>some (i*te.size,te.size)) (List.replicate (len*te.size) .any) (parts.toList.map fun q=>(q.1,σ.ev q.2))with
          | some l=>match cellsV σ.bl E.r (.g l)with
            | some l=>match cl with
              | true=>chkX (l.all Cell.clos) (some (.c (.row te.size len (rowF te.size l)),none))
              | false=>some (.c (.gs fr 1),some (fr,⟨e,te.size,len,1,0,rowF te.size l⟩))
            | none=>none
          | none=>none)
        | none=>none
      | none=>none
    | none=>none
  | .call { callee := .value (.func f),args,argTypes }=>match fzF f with
    | true=>match dopX E q (.call { callee := .value (.func f),args,argTypes }) σ with
      | some v=>some (v,none)
      | none=>none
    | false=>match wrF f with
      | true=>none
      | false=>match frS f with
        | true=>none
        | false=>match dopX E q (.call { callee := .value (.func f),args,argTypes }) σ with
          | some v=>some (v,none)
          | none=>none
  | .call { callee := .builtin .append,args,argTypes }=>appSX E σ fr args.toList argTypes.toList
  | op=>match dopX E q op σ with
    | some v=>some (v,none)
    | none=>none
theorem sopX_ok {E:Env} {q:FuncId->List V->Option V} (hq:∀ f asl X,q f asl=some X->FnOK E.P E.r f asl X) {cl:Bool} {o:Oper} {σ:St} {fr:Nat} {v:V} {ub:Option (Nat × Blk)} (h:sopX E q cl o σ fr=some (v,ub)) {K:V->Option (Nat × Blk)->Prop} (hK:K v ub):sop E o σ fr K:=by
  unfold sopX at h
  unfold sop
  split at h
  case h_1 T x hx =>
    rw[hx]
    simp only
    split at h
    · rename_i l hl
      rw[hl]
      cases h;exact hK
    · cases h
  case h_2 T hx =>
    rw[hx]
    simp only
    split at h
    · rename_i ti ht
      rw[ht]
      simp only
      split at h
      · rename_i l hl
        rw[hl]
        cases h;exact hK
      · cases h
    · cases h
  case h_3 T x y hx =>
    rw[hx]
    simp only
    split at h
    · rename_i e1 e2 e3
      rw[e1,e2,e3]
      simp only
      split at h
      · rename_i B hB
        obtain⟨h1,h⟩:=chkX_some h
        cases h
        simp only[hB]
        exact chk_mk h1 hK
      · cases h
    · cases h
  case h_4 T ln cp hx =>
    rw[hx]
    simp only
    split at h
    · rename_i ti ht
      rw[ht]
      simp only
      split at h
      · rename_i e he
        rw[he]
        simp only
        split at h
        · rename_i e1 e2 e3
          rw[e1,e2,e3]
          obtain⟨h1,h⟩:=chkX_some h
          simp only[Bool.and_eq_true,decide_eq_true_eq]at h1
          refine⟨h1.1,h1.2.1,h1.2.2.1,h1.2.2.2.1,chk_mk h1.2.2.2.2 ?_⟩
          split at h
          · rename_i l hl
            rw[hl]
            cases h;exact hK
          · cases h
        · cases h
      · cases h
    · cases h
  case h_5 T len parts hx =>
    rw[hx]
    simp only
    split at h
    · rename_i ti ht
      rw[ht]
      simp only
      split at h
      · rename_i e he
        rw[he]
        simp only
        split at h
        · rename_i te hte
          rw[hte]
          obtain⟨h1,h⟩:=chkX_some h
          refine chk_mk h1 ?_
          split at h
          · rename_i l hl
            rw[hl]
            simp only
            split at h
            · rename_i l' hl'
              rw[hl']
              split at h
              · obtain⟨h2,h⟩:=chkX_some h
                cases h
                exact .inr ⟨h2,hK⟩
              · cases h;exact .inl hK
            · cases h
          · cases h
        · cases h
      · cases h
    · cases h
  case h_6 f args ts hx =>
    rw[hx]
    simp only
    split at h
    · rename_i e
      rw[e]
      simp only
      split at h
      · rename_i v' hv
        have hv':dopX E q o.op σ=some v':=by rw[hx];exact hv
        cases h
        exact .inr (dopX_ok hq hv' hK)
      · cases h
    rename_i e0
    rw[e0]
    simp only
    split at h
    · cases h
    · rename_i e
      rw[e]
      simp only
      split at h
      · cases h
      · rename_i e2
        rw[e2]
        simp only
        split at h
        · rename_i v' hv
          have hv':dopX E q o.op σ=some v':=by rw[hx];exact hv
          cases h
          exact dopX_ok hq hv' hK
        · cases h
  case h_7 args ts hx =>
    rw[hx]
    exact appSX_ok h hK
  case h_8 h1 h2 h3 h4 h5 h6 h7 =>
    split at h
    · rename_i v' hv
      cases h
      have hd:=dopX_ok hq (o:=o) hv (K:=fun v=>K v none) hK
      split
      case h_1 hx=>exact absurd hx (h1 _ _)
      case h_2 hx=>exact absurd hx (h2 _)
      case h_3 hx=>exact absurd hx (h3 _ _ _)
      case h_4 hx=>exact absurd hx (h4 _ _ _)
      case h_5 hx=>exact absurd hx (h5 _ _ _)
      case h_6 hx=>exact absurd hx (h6 _ _ _)
      case h_7 hx=>exact absurd hx (h7 _ _)
      case h_8=>exact hd
    · cases h
def isTmp (d : Nat) : Operand → Bool
  | .tmp t=>Nat.beq t d
  | _=>false
def argOnlyF (ops : Array Oper) : Nat → Option Nat → Bool
  | 0,_=>false
  | _,none=>false
  | k+1,some d=>ops.any fun o=>match o.op with
    | .call { callee := .value _,args,.. }=>args.any (isTmp d)
    | .buildSlice _ _ parts | .build _ parts=>(parts.any fun p=>isTmp d p.2)&&argOnlyF ops k o.dst
    | _=>false
def argOnly (ops:Array Oper) (dst:Option Nat):Bool:=argOnlyF ops 4 dst
def aheadX (E : Env) (q : FuncId → List V → Option V) (ops : Array Oper) (n0 : Nat) : List Oper → Nat → St → Option St
  | [],_,σ=>some σ
  | o :: rest,i,σ=>match o.guard with
    | none=>match sopX E q (argOnly ops o.dst) o σ (n0+i)with
      | some (v,ub)=>chkX (lateB ops o σ ub) (aheadX E q ops n0 rest (i+1) (St.put { σ with bl:=setO σ.bl ub } o.dst v))
      | none=>none
    | some (g,want)=>match guardV σ ops g with
      | some (_,b)=>match gw want b with
        | true=>match sopX E q (argOnly ops o.dst) o σ (n0+i)with
          | some (v,ub)=>chkX (lateB ops o σ ub) (aheadX E q ops n0 rest (i+1) (St.put { σ with bl:=setO σ.bl ub } o.dst v))
          | none=>none
        | false=>aheadX E q ops n0 rest (i+1) (σ.put o.dst .un)
      | none=>match guardU σ ops g with
        | true=>aheadX E q ops n0 rest (i+1) (σ.put o.dst .un)
        | false=>none
theorem aheadX_ok {E : Env} {q : FuncId → List V → Option V} (hq : ∀ f asl X, q f asl = some X → FnOK E.P E.r f asl X) {ops : Array Oper} {n0 : Nat} : ∀ (l : List Oper) (i : Nat) {σ σ' : St}, aheadX E q ops n0 l i σ = some σ' → ∀ {K : St → Prop}, K σ' → ahead E ops n0 l i σ K
  | [],_,_,_,h,_,hK=>by cases h;exact hK
  | o :: rest,i,σ,σ',h,K,hK=>by
    simp only[aheadX]at h
    rw[ahead_eq]
    split at h
    · rename_i hg
      rw[hg]
      simp only
      split at h
      · rename_i v ub hs
        obtain⟨h0,h⟩:=chkX_some h
        exact sopX_ok hq hs (K:=fun v ub=>chk (lateB ops o σ ub) (ahead E ops n0 rest (i+1) (St.put { σ with bl:=setO σ.bl ub } o.dst v) K)) (chk_mk h0 (aheadX_ok hq rest (i+1) h hK))
      · cases h
    · rename_i g want hg
      rw[hg]
      simp only
      split at h
      · rename_i d b hgv
        rw[hgv]
        simp only
        split at h
        · rename_i hb
          rw[hb]
          rw[← gw_true.1 hb,guard_same hgv]
          split at h
          · rename_i v ub hs
            obtain⟨h0,h⟩:=chkX_some h
            exact sopX_ok hq hs (K:=fun v ub=>chk (lateB ops o σ ub) (ahead E ops n0 rest (i+1) (St.put { σ with bl:=setO σ.bl ub } o.dst v) K)) (chk_mk h0 (aheadX_ok hq rest (i+1) h hK))
          · cases h
        · rename_i hb
          rw[hb]
          rw[← gw_false.1 hb,guard_same hgv]
          exact aheadX_ok hq rest (i+1) h hK
      · rename_i hgv
        rw[hgv]
        simp only
        split at h
        · rename_i hgu
          rw[hgu]
          exact aheadX_ok hq rest (i+1) h hK
        · cases h
end Go.Proofs.YtkmbnldginonbaaGreat
/- A run of code asl a function, and what it tells of the call: shared blocks, calls by contract or by running them. -/
namespace Go.Proofs.YtkmbnldginonbaaGreat
open Go.RowKit
/-! Freezing what hangs together -/
def nmC : Cell → List Nat
 | .p k .. | .gs k _ | .sl k .. => [k]
 | .cl _ m f=>(List.range m).flatMap fun j=>nmC (f j)
 | _=>[]
def nmV : V → List Nat
 | .c x=>nmC x
 | .g l=>l.flatMap nmC
 | .t2 a b=>nmV a++nmV b
 | .t3 a b d=>nmV a++(nmV b++nmV d)
 | .t4 a b d e=>nmV a++(nmV b++(nmV d++nmV e))
 | .un=>[]
def frzK (k:Nat) (σ:St):St:=match σ.bl[k]? with
 | some B=>match B.st with
  | 0=>match allIJ B.n B.sz fun i j=>(St.closeC σ.bl (B.f i j)).clos with
   | true=>{ σ with bl:=σ.bl.set k { B with st:=1,f:=fun i j=>St.closeC σ.bl (B.f i j) } }
   | false=>σ
  | _=>σ
 | none=>σ
theorem closeds_refl (b0 : List Blk) : ∀ l : List Blk, closeds b0 l l
 | []=>trivial
 | B :: l=>⟨Blk.closed.refl b0 B,closeds_refl b0 l⟩
theorem closeds_set {b0 : List Blk} {B B' : Blk} (h : B.closed b0 B') : ∀ {l : List Blk} {k : Nat}, l[k]? = some B → closeds b0 l (l.set k B')
 | [],k,hk=>by simp at hk
 | x :: l,0,hk=>by simp at hk;subst hk;exact⟨h,closeds_refl b0 l⟩
 | x :: l,k+1,hk=>⟨Blk.closed.refl b0 x,closeds_set h (by simpa using hk)⟩
theorem Lax.frzK (k:Nat) (σ:St):Lax σ (frzK k σ):=by
 unfold Go.Proofs.YtkmbnldginonbaaGreat.frzK
 split
 ·rename_i B hB
  split
  ·rename_i hst
   split
   ·rename_i hall
    have hkl:k<σ.bl.length:=(List.getElem?_eq_some_iff.1 hB).1
    have h1:Lax ⟨σ.tm,σ.bl⟩ ⟨σ.tm,σ.bl.set k { B with f:=fun i j=>St.closeC σ.bl (B.f i j) }⟩ :=
     Weak.lax fun m0=>Weak.close (closeds_set ⟨rfl,fun h=>absurd hst h,fun i j _ _ => .inr rfl⟩ hB) fun t => .inl rfl
    have h2:Lax ⟨σ.tm,σ.bl.set k { B with f:=fun i j=>St.closeC σ.bl (B.f i j) }⟩ ⟨σ.tm,(σ.bl.set k { B with f:=fun i j=>St.closeC σ.bl (B.f i j) }).set k { B with st:=1,f:=fun i j=>St.closeC σ.bl (B.f i j) }⟩ :=
     Weak.lax fun m0=>Weak.freeze k (B:={ B with f:=fun i j=>St.closeC σ.bl (B.f i j) }) (by rw[List.getElem?_set_self hkl]) hst fun i j hi hj=>allIJ_ok hall hi hj
    rw[List.set_set]at h2
    exact h1.trans h2
   ·exact Lax.refl _
  ·exact Lax.refl _
 ·exact Lax.refl _
def dfz : Nat → Nat → St → St
 | 0,_,σ=>σ
 | d+1,k,σ=>match σ.bl[k]? with
  | some B=>match B.st with
   | 0=>Go.Proofs.YtkmbnldginonbaaGreat.frzK k (((List.range B.n).flatMap fun i=>(List.range B.sz).flatMap fun j=>nmC (B.f i j)).foldl (fun s k'=>dfz d k' s) σ)
   | _=>σ
  | none=>σ
theorem foldl_lax {α : Type} {g : St → α → St} (hg : ∀ s x, Lax s (g s x)) : ∀ (l : List α) (σ : St), Lax σ (l.foldl g σ)
 | [],σ=>Lax.refl σ
 | x :: l,σ=>(hg σ x).trans (foldl_lax hg l (g σ x))
theorem Lax.dfz : ∀ (d k : Nat) (σ : St), Lax σ (dfz d k σ)
 | 0,_,σ=>Lax.refl σ
 | d+1,k,σ=>by
  simp only[Go.Proofs.YtkmbnldginonbaaGreat.dfz]
  split
  ·split
   ·exact(foldl_lax (fun s k'=>Lax.dfz d k' s) _ σ).trans (Lax.frzK k _)
   ·exact Lax.refl σ
  ·exact Lax.refl σ
def dfzL (l:List Nat) (σ:St):St:=l.foldl (fun s k=>dfz 8 k s) σ
theorem Lax.dfzL (l:List Nat) (σ:St):Lax σ (dfzL l σ):=foldl_lax (fun s k=>Lax.dfz 8 k s) l σ
/-! Calls that share the caller's blocks -/
def killB (bl:List Blk) (B:Blk):Blk:=match B.st with
 | 0=>{ B with f:=fun i j=>St.closeC bl (B.f i j) }
 | _=>phB
def closeAll (σ:St):St:=⟨fun t=>closeT σ.bl (σ.tm t),σ.bl.map (killB σ.bl)⟩
theorem closeAll_sat {D0:Nat->Prop} {w0:Base} {w:World} {r:Bool} {ρ:List Loc} {σ:St} (hs:Sat D0 w0 r ρ σ.bl w):Sat D0 w0 r ρ (closeAll σ).bl w/\(∀ b,Dof D0 ρ (closeAll σ).bl b->Dof D0 ρ σ.bl b) :=
 hs.less (killB σ.bl) (fun B hb=>by
  obtain⟨t,sz,n,u,st,f⟩:=B
  match st,hb with
  | 0,_=>exact⟨rfl,rfl,rfl,rfl,rfl⟩
  | _+1,hb=>exact absurd hb (by simp[killB,phB])) (fun B hB hb i j hi hj v hv=>by
  obtain⟨t,sz,n,u,st,f⟩:=B
  match st,hb with
  | 0,_=>simp only[if_true]at hv ⊢;exact closeC_rel hs hv
  | _+1,hb=>exact absurd hb (by simp[killB,phB]))
theorem closeAll_st {σ:St} {B:Blk} (h:B∈(closeAll σ).bl):B.st=0∨2≤B.st:=by
 obtain⟨B0,_,rfl⟩:=List.mem_map.1 h
 unfold killB
 split
 ·rename_i e;exact .inl e
 ·exact .inr (Nat.le_refl 2)
def liveM (ρ:List Loc) (bl:List Blk) (b:Nat):Prop:=∃(k:Nat) (l:Loc) (B:Blk),ρ[k]? = some l/\bl[k]? = some B/\B.st=0/\l.b=some b
theorem Sat.rebase {D0 : Nat → Prop} {w0 : Base} {w : World} {r : Bool} {ρ : List Loc} {bl : List Blk} (hs : Sat D0 w0 r ρ bl w) (hst : ∀ B ∈ bl, B.st = 0 ∨ 2 ≤ B.st) : Sat D0 ⟨w, liveM ρ bl⟩ r ρ bl w where
 below:=⟨rfl,rfl,rfl,Nat.le_refl _,fun _ _ _=>rfl⟩
 d0 b hb:=⟨Nat.lt_of_lt_of_le (hs.d0 b hb).1 hs.below.size,fun⟨k,l,B,h1,h2,h3,h4⟩=>by
  rcases hs.own h1 h2 (by omega) h4 with e | e
  ·have:=(hs.d0 b hb).1;omega
  ·exact(hs.d0 b hb).2 e⟩
 len:=hs.len
 at_ k l B h1 h2:=by
  intro hb
  obtain⟨g0,g1⟩:=hs.at_ k l B h1 h2 hb
  refine⟨g0,?_⟩
  rcases g1 with g1 | ⟨b,cap,cs,g2,g3,g4,g5,g6,g7,g8,g9⟩
  ·exact .inl g1
  ·exact .inr ⟨b,cap,cs,g2,.inr ⟨k,l,B,h1,h2,by rcases hst B (List.mem_of_getElem? h2)with e | e <;> omega,g2⟩,g4,g5,g6,g7,g8,g9⟩
 dist:=hs.dist
 noU:=hs.noU
theorem Sat.unbase {D0 : Nat → Prop} {w0 : Base} {w w' : World} {r : Bool} {ρ ρ' : List Loc} {bl bl' : List Blk} (h : Sat D0 w0 r ρ bl w) (h' : Sat D0 ⟨w, liveM ρ bl⟩ r ρ' bl' w') :
  Sat D0 w0 r ρ' bl' w'/\Ext (Dof D0 ρ bl) w w'/\(∀ b,b<w.heap.size->Dof D0 ρ' bl' b->Dof D0 ρ bl b):=by
 have hM:∀ b,liveM ρ bl b->w0.mine b/\Dof D0 ρ bl b:=fun b ⟨k,l,B,h1,h2,h3,h4⟩=>⟨h.own h1 h2 (by omega) h4,.inr ⟨k,l,B,h1,h2,h3,h4⟩⟩
 refine⟨⟨⟨h'.below.os.trans h.below.os,h'.below.tape.trans h.below.tape,h'.below.output.trans h.below.output,Nat.le_trans h.below.size h'.below.size,fun k hk hm=>?_⟩,h.d0,h'.len,fun k l B h1 h2 hb=>?_,h'.dist,h'.noU⟩,⟨h'.below.size,fun b hb hn=>h'.below.block b hb fun hm=>hn (hM b hm).2⟩,fun b hb hd=>?_⟩
 ·refine(h'.below.block k (Nat.lt_of_lt_of_le hk h.below.size) fun hm'=>?_).trans (h.below.block k hk hm)
  rcases(hM k hm').1 with e | e
  ·omega
  ·exact hm e
 ·obtain⟨g0,g1⟩:=h'.at_ k l B h1 h2 hb
  refine⟨g0,?_⟩
  rcases g1 with g1 | ⟨b,cap,cs,g2,g3,g4,g5,g6,g7,g8,g9⟩
  ·exact .inl g1
  ·refine .inr ⟨b,cap,cs,g2,?_,g4,g5,g6,g7,g8,g9⟩
   rcases g3 with e | e
   ·exact .inl (Nat.le_trans h.below.size e)
   ·exact(hM b e).1
 ·rcases hd with hd | ⟨k,l,B,h1,h2,h3,h4⟩
  ·exact .inl hd
  ·rcases h'.own h1 h2 (by omega) h4 with e | e
   ·have e:w.heap.size≤b:=e
    omega
   ·exact(hM b e).2
theorem FnS.nil {P:Program} {r:Bool} {f:FuncId} {args:List V} {X Y:V} {bl':List Blk} (h:FnS P r f [] args X bl') {σ:St} (hσ:Lax ⟨asg [(0,X)],bl'⟩ σ) (h1:closT (closeT σ.bl (σ.tm 0))=true) (hY:∀ D w v,VRel D w [] (closeT σ.bl (σ.tm 0)) v->VRel D w [] Y v):FnOK P r f args Y:=by
 refine⟨h.1,fun D w vs hD hU hargs=>?_⟩
 have hDof:∀ b,Dof D [] [] b->D b:=by
  rintro b (h | ⟨k,l,B,h1,_⟩)
  ·exact h
  ·simp at h1
 have hs0:Sat D ⟨w,fun _=>False⟩ r [] [] w:=⟨⟨rfl,rfl,rfl,Nat.le_refl _,fun _ _ _=>rfl⟩,fun b hb=>⟨hD b hb,id⟩,rfl,fun k l B h1 _=>by simp at h1,fun i j li lj Bi Bj b h1=>by simp at h1,fun hr b o d hb=>hU hr b o d (hDof b hb)⟩
 have hargs':VRels (Dof D [] []) w [] args vs:=VRels.step (fun b _ hb=>hDof b hb) hargs
 refine(h.2 D _ [] w vs hs0 hargs').mono ?_
 rintro e w' ⟨v,ρ',rfl,hs,_,hv⟩
 have hrel:Rel ⟨D,⟨w,fun _=>False⟩,r,0,[]⟩ ⟨asg [(0,X)],bl'⟩ ⟨#[v],[]⟩ w':=by
  refine⟨ρ',hs,⟨Nat.zero_le _,fun i l hi=>by simp at hi⟩,rfl,fun t=>?_⟩
  show VRel _ _ _ (if t=0 then X else .c .any) _
  split
  ·rename_i e;subst e;exact hv
  ·trivial
 obtain⟨ρ2,hs2,_,_,hf2⟩:=hσ _ _ _ hrel
 have h3:VRel (Dof D ρ2 σ.bl) w' ρ2 (σ.tm 0) v:=hf2 0
 have h4:=closT_rel (ρ':=[]) (closeT_rel hs2 h3) h1
 exact⟨v,rfl,hY D w' v (h4.step (Ext.refl _ _) (fun b _ hb => .inl hb) (LocsLe.refl _)),⟨hs2.below.os,hs2.below.tape,hs2.below.output,hs2.below.size,fun k hk=>hs2.below.block k hk id⟩⟩
def calleeX (σ:St) (g:Operand):Option (FuncId × List Cell):=match calleeA σ g with
 | some f=>some (f,[])
 | none=>capsA σ g
theorem calleeX_eval {D:Nat->Prop} {w:World} {ρ:List Loc} {σ:St} {a:Act} {g:Operand} {f:FuncId} {cs:List Cell} (h:calleeX σ g=some (f,cs)) (hx:VRel D w ρ (σ.ev g) (a.eval g)):∃ caps:Array Value,a.eval g = .func (.func f) #[] caps/\CRels D w ρ cs caps.toList:=by
 unfold calleeX at h
 split at h
 ·rename_i f' hf
  cases h
  exact⟨#[],callee_eval hf hx,trivial⟩
 ·exact(caps_eval h hx).2
def OpGo (E:Env) (o:Oper) (σ σ':St):Prop:=∀ {C:Ctx} {a:Act} {w:World} {next:Act->World->Prop} {Q:Exit->Act->World->Prop},C.r=E.r->dstOK C.N o.dst->Rel C σ a w->(∀ a' w',Rel C σ' a' w'->next a' w')->o.wp E.P a w next Q
theorem OpGo.lax {E:Env} {o:Oper} {σ σ1 σ':St} (h:Lax σ σ1) (k:OpGo E o σ1 σ'):OpGo E o σ σ':=fun hC hd hr hn=>k hC hd (h _ _ _ hr) hn
theorem OpGo.aop {E:Env} (hE:EnvOK E) {o:Oper} {σ σ':St} (h:aop E o σ fun s=>s=σ'):OpGo E o σ σ':=fun hC hd hr hn=>aop_sound hE hC h hd hr fun s a w hs hrel=>hn a w (by rw[← hs];exact hrel)
theorem OpGo.call {E : Env} {o : Oper} {σ : St} {g : Operand} {args : Array Operand} {ts : Array TypeId} (hx : o.op = .call { callee := .value g, args, argTypes := ts }) {f : FuncId} {cs : List Cell} (hg : calleeX σ g = some (f, cs)) {X : V} {bl' : List Blk}
  (hS:FnS E.P E.r f (closeAll σ).bl ((args.toList.map fun x=>closeT σ.bl (σ.ev x))++cs.map fun c=>V.c (St.closeC σ.bl c)) X bl'):OpGo E o σ (St.put ⟨(closeAll σ).tm,bl'⟩ o.dst X):=by
 intro C a w next Q hC hd hr hn
 obtain⟨ρ0,hs0,hN,hdf,hf0⟩:=hr
 have hev:∀ x,VRel (Dof C.D0 ρ0 σ.bl) w ρ0 (σ.ev x) (a.eval x):=fun x=>ev_rel hf0 x
 obtain⟨caps,hca,hcr⟩:=calleeX_eval hg (hev g)
 obtain⟨s1,s2⟩:=closeAll_sat hs0
 have s3:=s1.rebase fun B hB=>closeAll_st hB
 have hv1:VRels (Dof C.D0 ρ0 σ.bl) w ρ0 ((args.toList.map fun x=>closeT σ.bl (σ.ev x))++cs.map fun c=>V.c (St.closeC σ.bl c)) (args.toList.map a.eval++caps.toList) :=
  (VRels.map args.toList fun x _=>closeT_rel hs0 (hev x)).append (VRels.cells (closeCs_rel hs0 hcr))
 have hv2:=VRels.step (fun b _ hb=>s2 b hb) hv1
 rw[← hC]at hS
 unfold Oper.wp
 rw[exec_callc hx hca hS.1,Oper.upon_enter]
 have:=hS.2 _ _ _ _ _ s3 hv2
 rw[show(args.toList.map a.eval++caps.toList).toArray=args.map a.eval++caps by
  rw[← Array.toList_map,← Array.toList_append,Array.toArray_toList]]at this
 refine this.mono ?_
 rintro e w' ⟨v,ρ',rfl,q1,q2,q3⟩
 obtain⟨b1,b2,b3⟩:=s1.unbase q1
 refine hn _ _ ?_
 have hf1:∀ t,VRel (Dof C.D0 ρ' bl') w' ρ' ((closeAll σ).tm t) (a.tmps.getD t undef):=fun t =>
  ((closeT_rel hs0 (hf0 t)).step (Ext.refl _ _) (fun b _ hb=>s2 b hb) (LocsLe.refl _)).step b2 b3 q2
 exact Rel.put (σ:=⟨(closeAll σ).tm,bl'⟩) b1 ⟨hN.1,hN.2.trans q2⟩ hdf hf1 hd q3
end Go.Proofs.YtkmbnldginonbaaGreat
/- A run of code asl a function: regions, branches, loops, calls. -/
namespace Go.Proofs.YtkmbnldginonbaaGreat
open Go.RowKit
def opX (E:Env) (q:FuncId->List V->Option V) (qs:FuncId->List Blk->List V->Option (V × List Blk)) (inl:FuncId->Bool) (o:Oper) (σ:St):Option St :=
 match o.op with
 | .call { callee := .value g,args,.. }=>match calleeX σ g with
  | some (f,cs)=>match inl f with
   | true=>match qs f (closeAll σ).bl ((args.toList.map fun x=>closeT σ.bl (σ.ev x))++cs.map fun c=>V.c (St.closeC σ.bl c))with
    | some (X,bl')=>some (St.put ⟨(closeAll σ).tm,bl'⟩ o.dst X)
    | none=>none
   | false=>aopX E q o (dfzL ((args.toList.flatMap fun x=>nmV (σ.ev x))++cs.flatMap nmC) σ)
  | none=>none
 | _=>aopX E q o σ
theorem opX_ok {E:Env} (hE:EnvOK E) {q:FuncId->List V->Option V} {qs:FuncId->List Blk->List V->Option (V × List Blk)} (hq:∀ f asl X,q f asl=some X->FnOK E.P E.r f asl X) (hqs:∀ f bl asl X bl',qs f bl asl=some (X,bl')->FnS E.P E.r f bl asl X bl') {inl:FuncId->Bool} {o:Oper} {σ σ':St} (h:opX E q qs inl o σ=some σ'):OpGo E o σ σ':=by
 unfold opX at h
 split at h
 ·rename_i g args ts hx
  split at h
  ·rename_i f cs hg
   split at h
   ·split at h
    ·rename_i X bl' hr
     cases h
     exact OpGo.call hx hg (hqs _ _ _ _ _ hr)
    ·cases h
   ·exact OpGo.lax (Lax.dfzL _ σ) (OpGo.aop hE (aopX_ok hq h rfl))
  ·cases h
 ·exact OpGo.aop hE (aopX_ok hq h rfl)
def regX (E : Env) (q : FuncId → List V → Option V) (qs : FuncId → List Blk → List V → Option (V × List Blk)) (inl : FuncId → Bool) (ops : Array Oper) : List Oper → St → Option St
 | [],σ=>some σ
 | o :: rest,σ=>match o.guard with
  | none=>match opX E q qs inl o σ with
   | some σ'=>regX E q qs inl ops rest σ'
   | none=>none
  | some (g,want)=>match guardV σ ops g with
   | some (d,b)=>match gw want b with
    | true=>match opX E q qs inl o (σ.put (some d) (.c (.bool want)))with
     | some σ'=>regX E q qs inl ops rest σ'
     | none=>none
    | false=>regX E q qs inl ops rest ((σ.put (some d) (.c (.bool !want))).put o.dst .un)
   | none=>match guardU σ ops g with
    | true=>regX E q qs inl ops rest (σ.put o.dst .un)
    | false=>none
theorem regX_ok {E : Env} (hE : EnvOK E) {q : FuncId → List V → Option V} {qs : FuncId → List Blk → List V → Option (V × List Blk)} (hq : ∀ f asl X, q f asl = some X → FnOK E.P E.r f asl X) (hqs : ∀ f bl asl X bl', qs f bl asl = some (X, bl') → FnS E.P E.r f bl asl X bl') {inl : FuncId → Bool} {ops : Array Oper} {C : Ctx} (hC : C.r = E.r) {Q : Exit → Act → World → Prop} {σ1 : St} (hQ : ∀ a w, Rel C σ1 a w → Q .normal a w) :
  ∀(l:List Oper) (σ:St) (a:Act) (w:World),(∀ o∈l,dstOK C.N o.dst)->regX E q qs inl ops l σ=some σ1->Rel C σ a w->wpList E.P ops Q l a w
 | [],σ,a,w,_,h,hr=>by cases h;exact hQ a w hr
 | o :: rest,σ,a,w,hd,h,hr=>by
  have ih:=fun σ a w=>regX_ok (inl:=inl) (ops:=ops) hE hq hqs hC hQ rest σ a w (fun o ho=>hd o (by simp[ho]))
  unfold wpList
  simp only[regX]at h
  split at h
  ·rename_i hg
   rw[if_pos (by simp[Region.wanted,hg])]
   split at h
   ·rename_i σ2 h2
    exact .inl (opX_ok hE hq hqs h2 hC (hd o (by simp)) hr fun a' w' hrel=>ih σ2 a' w' h hrel)
   ·cases h
  ·rename_i g want hg
   split at h
   ·rename_i d b hgv
    obtain⟨hy,hv,hlt,htm⟩:=guard_val (a:=a) (w:=w) hgv (by obtain⟨ρ,hs,hN,hdf,hf⟩:=hr;exact fun d _=>⟨_,ρ,hf d⟩)
    have hwt:Region.wanted o (yielded ops a.tmps)=(b == want):=by
     unfold Region.wanted
     rw[hg]
     simp only[hy]
     rfl
    rw[hwt]
    split at h
    ·rename_i hb
     have e:=gw_true.1 hb
     rw[if_pos (by simp[e])]
     split at h
     ·rename_i σ2 h2
      refine .inl (opX_ok hE hq hqs h2 hC (hd o (by simp)) (put_same hr fun D ρ=>?_) fun a' w' hrel=>ih σ2 a' w' h hrel)
      rw[hv,e];rfl
     ·cases h
    ·rename_i hb
     have e':=gw_false.1 hb
     have e:¬ b=want:=by rw[e'];cases want <;> simp
     rw[if_neg (by simpa using e)]
     have h2:Rel C (σ.put (some d) (.c (.bool !want))) a w:=put_same hr fun D ρ=>by rw[hv,e'];rfl
     obtain⟨ρ,hs,hN,hdf,hf⟩:=h2
     exact ih _ _ _ h (Rel.put hs hN hdf hf (hd o (by simp)) rfl)
   ·split at h
    ·rename_i hgu
     have hy:=guard_un (a:=a) (w:=w) hgu (by obtain⟨ρ,hs,hN,hdf,hf⟩:=hr;exact fun d _=>⟨_,ρ,hf d⟩)
     have hwt:Region.wanted o (yielded ops a.tmps)=false:=by
      unfold Region.wanted
      rw[hg]
      simp only[hy]
      rfl
     rw[hwt,if_neg (by simp)]
     obtain⟨ρ,hs,hN,hdf,hf⟩:=hr
     exact ih _ _ _ h (Rel.put hs hN hdf hf (hd o (by simp)) rfl)
    ·cases h
def loopX (N : Nat) (body : St → Option (Exit × St)) : Nat → St → Option (Exit × St)
 | 0,_=>none
 | n+1,σ=>fSt N σ fun σ=>match body σ with
  | some (.normal,σ')=>loopX N body n σ'
  | r=>r
def codeX (E : Env) (q : FuncId → List V → Option V) (qs : FuncId → List Blk → List V → Option (V × List Blk)) (inl : FuncId → Bool) (N lf : Nat) : Code → St → Option (Exit × St)
 | .skip,σ=>some (.normal,σ)
 | .region _ ops draw,σ=>match draw with
  | true=>match aheadX E q ops σ.bl.length ops.toList 0 { σ with bl:=σ.bl++List.replicate (freshN ops.toList) phB } with
   | some σ'=>some (.normal,σ')
   | none=>none
  | false=>match regX E q qs inl ops ops.toList σ with
   | some σ'=>some (.normal,σ')
   | none=>none
 | .seq a b,σ=>match codeX E q qs inl N lf a σ with
  | some (.normal,σ')=>codeX E q qs inl N lf b σ'
  | r=>r
 | .cond c x y,σ=>match σ.ev c with
  | .c (.bool true)=>codeX E q qs inl N lf x σ
  | .c (.bool false)=>codeX E q qs inl N lf y σ
  | _=>none
 | .block id c,σ=>match codeX E q qs inl N lf c σ with
  | some (.exit i,σ')=>match Nat.beq i id with
   | true=>some (.normal,σ')
   | false=>some (.exit i,σ')
  | r=>r
 | .exit id,σ=>some (.exit id,σ)
 | .ret,σ=>some (.ret,σ)
 | .label _,σ=>some (.normal,σ)
 | .loop c,σ=>loopX N (codeX E q qs inl N lf c) lf σ
 | _,_=>none
def QX (C:Ctx) (r:Exit × St) (e:Exit) (a:Act) (w:World):Prop:=e=r.1/\Rel C r.2 a w
theorem codeX_ok {E : Env} (hE : EnvOK E) {q : FuncId → List V → Option V} {qs : FuncId → List Blk → List V → Option (V × List Blk)} (hq : ∀ f asl X, q f asl = some X → FnOK E.P E.r f asl X) (hqs : ∀ f bl asl X bl', qs f bl asl = some (X, bl') → FnS E.P E.r f bl asl X bl') {inl : FuncId → Bool} {N lf : Nat} (hm : E.P.follows .mixedOrders = true) {C : Ctx} (hC : C.r = E.r) :
  ∀(c:Code) {σ:St} {r:Exit × St} {a:Act} {w:World},codeB C.N c=true->codeX E q qs inl N lf c σ=some r->Rel C σ a w->c.wp E.P (QX C r) a w
 | .skip,σ,r,a,w,_,h,hr=>by cases h;exact wp_skip ⟨rfl,hr⟩
 | .region id ops draw,σ,r,a,w,hc,h,hr=>by
  simp only[codeB,Bool.and_eq_true]at hc
  simp only[codeX]at h
  cases draw with
  | true =>
   simp only at h
   split at h
   ·rename_i σ' h1
    cases h
    refine adraw_sound hE hC (K:=fun s=>s=σ') hm (fun s a w hs hrel=>⟨rfl,by rw[← hs];exact hrel⟩) hc.1 (by simpa using hc.2) ?_ hr
    exact aheadX_ok hq _ _ h1 rfl
   ·cases h
  | false =>
   simp only at h
   split at h
   ·rename_i σ' h1
    cases h
    refine wp_region_list (regX_ok hE hq hqs hC (fun a w hrel=>⟨rfl,hrel⟩) ops.toList σ a w (fun o ho d hd'=>?_) h1 hr)
    have:=List.all_eq_true.1 hc.1 o ho
    unfold dstB at this
    rw[hd']at this
    simpa using this
   ·cases h
 | .seq x y,σ,r,a,w,hc,h,hr=>by
  simp only[codeB,Bool.and_eq_true]at hc
  simp only[codeX]at h
  split at h
  ·rename_i σ' h1
   refine wp_seq (wp_mono (codeX_ok hE hq hqs hm hC x hc.1 h1 hr) ?_)
   rintro e a' w' ⟨rfl,hrel⟩
   exact codeX_ok hE hq hqs hm hC y hc.2 h hrel
  ·rename_i hno
   refine wp_seq (wp_mono (codeX_ok hE hq hqs hm hC x hc.1 h hr) ?_)
   rintro e a' w' ⟨rfl,hrel⟩
   obtain⟨e,σ'⟩:=r
   cases e with
   | normal=>exact absurd h (hno σ')
   | _=>exact⟨rfl,hrel⟩
 | .cond c x y,σ,r,a,w,hc,h,hr=>by
  simp only[codeB,Bool.and_eq_true]at hc
  simp only[codeX]at h
  have he:∀ b,σ.ev c = .c (.bool b)->a.eval c = .bool b:=by
   intro b hb
   obtain⟨ρ,hs,hN,hdf,hf⟩:=hr
   have:=ev_rel hf c
   rw[hb]at this
   exact this
  split at h
  ·rename_i hb
   exact wp_cond_split (he _ hb) (fun _=>codeX_ok hE hq hqs hm hC x hc.1 h hr) (fun e=>by cases e)
  ·rename_i hb
   exact wp_cond_split (he _ hb) (fun e=>by cases e) (fun _=>codeX_ok hE hq hqs hm hC y hc.2 h hr)
  ·cases h
 | .block id c,σ,r,a,w,hc,h,hr=>by
  simp only[codeB]at hc
  simp only[codeX]at h
  split at h
  ·rename_i i σ' h1
   refine wp_block (wp_mono (codeX_ok hE hq hqs hm hC c hc h1 hr) ?_)
   rintro e a' w' ⟨rfl,hrel⟩
   simp only[Exit.inBlock]
   split at h
   ·rename_i hb
    cases h
    rw[if_pos (Nat.eq_of_beq_eq_true hb)]
    exact⟨rfl,hrel⟩
   ·rename_i hb
    cases h
    rw[if_neg (Nat.ne_of_beq_eq_false hb)]
    exact⟨rfl,hrel⟩
  ·rename_i hno
   refine wp_block (wp_mono (codeX_ok hE hq hqs hm hC c hc h hr) ?_)
   rintro e a' w' ⟨rfl,hrel⟩
   obtain⟨e,σ'⟩:=r
   cases e with
   | exit i=>exact absurd h (hno i σ')
   | _=>exact⟨rfl,hrel⟩
 | .exit id,σ,r,a,w,_,h,hr=>by cases h;exact wp_exit ⟨rfl,hr⟩
 | .ret,σ,r,a,w,_,h,hr=>by cases h;exact wp_ret ⟨rfl,hr⟩
 | .label l,σ,r,a,w,_,h,hr=>by cases h;exact wp_label ⟨rfl,hr⟩
 | .loop c,σ,r,a,w,hc,h,hr=>by
  simp only[codeB]at hc
  simp only[codeX]at h
  refine wp_loop_ghost (fun n a w=>∃ σ,Rel C σ a w/\loopX N (codeX E q qs inl N lf c) n σ=some r) lf ⟨σ,hr,h⟩ ?_
  rintro n a w ⟨σ1,hrel,hn⟩
  cases n with
  | zero=>cases hn
  | succ n =>
   simp only[loopX,fSt_eq]at hn
   have hrel2:=Lax.nrm N σ1 C a w hrel
   split at hn
   ·rename_i σ2 h2
    refine wp_mono (codeX_ok hE hq hqs hm hC c hc h2 hrel2) ?_
    rintro e a' w' ⟨rfl,hrel3⟩
    exact⟨n,Nat.lt_succ_self n,σ2,hrel3,hn⟩
   ·rename_i hno
    refine wp_mono (codeX_ok hE hq hqs hm hC c hc hn hrel2) ?_
    rintro e a' w' ⟨rfl,hrel3⟩
    obtain⟨e,σ2⟩:=r
    cases e with
    | normal=>exact absurd hn (hno σ2)
    | _=>exact⟨rfl,hrel3⟩
 | .rangeFunc ..,_,_,_,_,_,h,_=>by cases h
 | .scope _,_,_,_,_,_,h,_=>by cases h
 | .goto _,_,_,_,_,_,h,_=>by cases h
 | .refuse _,_,_,_,_,_,h,_=>by cases h
def trimX (v:V) (bl:List Blk) (m:Nat):V × List Blk :=
 match v.lt m&&(bl.take m).all fun B=>!(B.st == 0)||allIJ B.n B.sz fun i j=>(B.f i j).lt m with
 | true=>(v,bl.take m)
 | false=>(v,bl)
def fVs {β : Type} : List V → (List V → β) → β
 | [],k=>k []
 | x :: l,k=>fV x fun x=>fVs l fun l=>k (x :: l)
theorem fVs_eq {β : Type} : ∀ (l : List V) (k : List V → β), fVs l k = k (l.map nrmV)
 | [],_=>rfl
 | x :: l,k=>by simp only[fVs,fV_eq,fVs_eq l,List.map_cons]
theorem nrmVs_rel {D : Nat → Prop} {w : World} {ρ : List Loc} : ∀ {l : List V} {vs : List Value}, VRels D w ρ l vs → VRels D w ρ (l.map nrmV) vs
 | [],[],_=>trivial
 | _ :: _,_ :: _,h=>⟨nrmV_rel h.1,nrmVs_rel h.2⟩
 | [],_ :: _,h=>h.elim
 | _ :: _,[],h=>h.elim
def pureF (σ:St):Option V:=match closT (closeT σ.bl (σ.tm 0))with
 | true=>fV (closeT σ.bl (σ.tm 0)) fun Y=>some Y
 | false=>none
def pureX (orc:FuncId->List V->Option V) (run:FuncId->List Blk->List V->Option (V × List Blk)) (f:FuncId) (asl:List V):Option V :=
 match orc f asl with
 | some X=>some X
 | none=>match run f [] asl with
  | some (X,bl)=>pureF (dfzL (nmV X) ⟨asg [(0,X)],bl⟩)
  | none=>none
def runX (E : Env) (orc : FuncId → List V → Option V) (ok inl : FuncId → Bool) (lf : Nat) : Nat → FuncId → List Blk → List V → Option (V × List Blk)
 | 0,_,_,_=>none
 | d+1,f,bl,asl=>match ok f with
  | false=>none
  | true=>match E.P.funcs[f]? with
   | some fn=>match fn.body with
    | some c=>fVs asl fun asl=>match codeX E (pureX orc (runX E orc ok inl lf d)) (runX E orc ok inl lf d) inl fn.ntmps lf c ⟨frame0 asl,bl⟩with
     | some (e,σ)=>match e with
      | .normal | .ret=>match retV E σ fn.results.toList with
       | some v=>fV v fun v=>fBs σ.bl fun bl'=>some (trimX v bl' bl.length)
       | none=>none
      | _=>none
     | none=>none
    | none=>none
   | none=>none
theorem pureX_ok {P:Program} {r:Bool} {orc:FuncId->List V->Option V} {run:FuncId->List Blk->List V->Option (V × List Blk)} (ho:∀ f asl X,orc f asl=some X->FnOK P r f asl X) (hrun:∀ f bl asl X bl',run f bl asl=some (X,bl')->FnS P r f bl asl X bl') (f:FuncId) (asl:List V) (X:V) (h:pureX orc run f asl=some X):FnOK P r f asl X:=by
 unfold pureX at h
 split at h
 ·rename_i X' h1;cases h;exact ho _ _ _ h1
 ·split at h
  ·rename_i X1 bl h1
   unfold pureF at h
   split at h
   ·rename_i hcl
    rw[fV_eq]at h
    cases h
    exact(hrun _ _ _ _ _ h1).nil (Lax.dfzL _ _) hcl fun D w v hv=>nrmV_rel hv
   ·cases h
  ·cases h
theorem runX_ok {E : Env} (hE : EnvOK E) (hm : E.P.follows .mixedOrders = true) {orc : FuncId → List V → Option V} (ho : ∀ f asl X, orc f asl = some X → FnOK E.P E.r f asl X) {ok inl : FuncId → Bool} (hok : ∀ f fn c, ok f = true → E.P.funcs[f]? = some fn → fn.body = some c → codeB fn.ntmps c = true ∧ hasBody E.P f = true) {lf : Nat} :
  ∀(d:Nat) (f:FuncId) (bl:List Blk) (asl:List V) (X:V) (bl':List Blk),runX E orc ok inl lf d f bl asl=some (X,bl')->FnS E.P E.r f bl asl X bl'
 | 0,_,_,_,_,_,h=>by cases h
 | d+1,f,bl,asl,X,bl',h=>by
  simp only[runX]at h
  split at h
  ·cases h
  rename_i hokf
  split at h
  case h_2=>cases h
  rename_i fn hfn
  split at h
  case h_2=>cases h
  rename_i c hc
  rw[fVs_eq]at h
  split at h
  case h_2=>cases h
  rename_i e σ hrun
  obtain⟨hcb,hbd⟩:=hok f fn c hokf hfn hc
  have ih:=runX_ok hE hm ho hok (inl:=inl) (lf:=lf) d
  refine⟨hbd,fun D0 w0 ρ w vs hs hargs=>?_⟩
  refine calls_of_wp hfn hc ?_
  let C:Ctx:=⟨D0,w0,E.r,fn.ntmps,ρ⟩
  have hlen:=hargs.length
  have hargs':=nrmVs_rel hargs
  have hrel:Rel C ⟨frame0 (asl.map nrmV),bl⟩ { tmps:=vs.toArray++Array.replicate (fn.ntmps-vs.toArray.size) undef,defers:=[] } w:=by
   refine⟨ρ,hs,⟨by simp[C];omega,LocsLe.refl _⟩,rfl,fun t=>?_⟩
   have h1:=hargs'.get t
   show VRel (Dof D0 ρ bl) w ρ ((asl.map nrmV).getD t (.c .any)) _
   rcases Nat.lt_or_ge t vs.length with hlt | hge
   ·have:(vs.toArray++Array.replicate (fn.ntmps-vs.toArray.size) undef).getD t undef=vs.getD t undef:=by
     rw[Array.getD_eq_getD_getElem?,Array.getElem?_append_left (by simpa using hlt)]
     simp[List.getD]
    rw[this];exact h1
   ·rw[show(asl.map nrmV).getD t (V.c .any) = .c .any by rw[List.getD,List.getElem?_eq_none (by simp;omega)];rfl]
    trivial
  refine wp_mono (codeX_ok hE (pureX_ok ho ih) ih hm rfl c hcb hrun hrel) ?_
  rintro e' a w' ⟨rfl,hr⟩
  have fin:(match retV E σ fn.results.toList with
    | some v=>fV v fun v=>fBs σ.bl fun bl'=>some (trimX v bl' bl.length)
    | none=>none)=some (X,bl')->a.defers=[]/\∃ v,(results fn a.tmps).run E.P w' = .ok v w'/\∃ u ρ',Ending.returned v = .returned u/\Sat D0 w0 E.r ρ' bl' w'/\LocsLe ρ ρ'/\VRel (Dof D0 ρ' bl') w' ρ' X u:=by
   intro hk
   split at hk
   ·rename_i v hv
    rw[fV_eq,fBs_eq]at hk
    obtain⟨ρ1,hs1,hN1,hdf1,hf1⟩:=hr
    obtain⟨x,hx,hxr⟩:=ret_run hE hs1 hf1 hv
    have hrel2:Rel ⟨D0,w0,E.r,0,ρ⟩ ⟨asg [(0,v)],σ.bl⟩ ⟨#[x],[]⟩ w':=by
     refine⟨ρ1,hs1,⟨Nat.zero_le _,hN1.2⟩,rfl,fun t=>?_⟩
     show VRel _ _ _ (if t=0 then v else .c .any) _
     split
     ·rename_i e;subst e;exact hxr
     ·trivial
    obtain⟨ρ2,hs2,hN2,_,hf2⟩:=Lax.nrm 1 _ _ _ _ hrel2
    have h3:VRel (Dof D0 ρ2 (σ.bl.map nrmB)) w' ρ2 (nrmV v) x:=hf2 0
    refine⟨hdf1,x,hx,x,?_⟩
    unfold trimX at hk
    split at hk
    ·rename_i hb
     cases hk
     simp only[Bool.and_eq_true]at hb
     obtain⟨t1,t2⟩:=hs2.take bl.length fun k B hk hB hst i j hi hj=>by
      have hmem:B∈(σ.bl.map nrmB).take bl.length:=List.mem_of_getElem? (by rw[List.getElem?_take_of_lt hk];exact hB)
      have:=List.all_eq_true.1 hb.2 B hmem
      simp only[hst,beq_self_eq_true,Bool.not_true,Bool.false_or]at this
      exact allIJ_ok this hi hj
     exact⟨_,rfl,t1,hN2.2.take (Nat.le_of_eq hs.len),(h3.take hb.1).step (Ext.refl _ _) (fun b _ hb=>t2 b hb) (LocsLe.refl _)⟩
    ·cases hk
     exact⟨ρ2,rfl,hs2,hN2.2,h3⟩
   ·cases hk
  cases e' with
  | normal=>exact fin h
  | ret=>exact fin h
  | exit i=>cases h
  | goto l=>cases h
  | panic ch=>cases h
  | outgrown=>cases h
end Go.Proofs.YtkmbnldginonbaaGreat
