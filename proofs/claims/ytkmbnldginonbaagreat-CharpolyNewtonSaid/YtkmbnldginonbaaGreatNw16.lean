/- charpoly.CharPoly at matrices of at most five rows. -/
import Derived.Test.YtkmbnldginonbaaGreatNw12
import Derived.Test.YtkmbnldginonbaaGreatNw13
import Derived.Test.YtkmbnldginonbaaGreatNw14
import Derived.Test.YtkmbnldginonbaaGreatNw15
import Derived.Test.YtkmbnldginonbaaGreatNw10
import Derived.Test.YtkmbnldginonbaaGreatNw5
import Derived.Test.YtkmbnldginonbaaGreatRows
import Derived.ProofKit
import Derived.OpenShut
import Derived.Carry
import Derived.ChangeSame
import Derived.Test.YtkmbnldginonbaaGreatNw9
namespace Go.Proofs.YtkmbnldginonbaaGreat
open Go.RowKit
namespace Mx
open Rf
abbrev gR (n:Nat) (H:Nat->Nat->Rat):Gx:=⟨22,1,n,fun i _=>nql n (H i)⟩
abbrev gL (k:Nat) (P:Nat->Nat->Rat):Gx:=⟨27,1,k,fun i _=>nql (i+1) (P i)⟩
theorem poly_keep {q:Nat} {bl:List Blk} {ks:List (Option Nat)} {P:Nat->Nat->Rat} {i:Nat}:regC q bl ks (nql (i+1) (P i)) fun y=>nql (i+1) (P i)=y := .inl ⟨_,_,rfl,rfl,fun _ _ _ _=>rfl⟩
theorem poly_app {q:Nat} {bl:List Blk} {ks:List (Option Nat)} {P:Nat->Nat->Rat} {k i j:Nat} {v:Nat->Rat} (hv:∀ x,x<k+1->v x=P k x) (hi:i<k+1) (hj:j<1):regC q bl ks (nql (i+1) (P i)) fun y=>appF k (fun i _=>nql (i+1) (P i)) (rowF 1 [nql (k+1) v]) i j=y:=by
 obtain rfl:j=0:=by omega
 unfold appF
 by_cases h:i<k
 ·rw[if_pos h]
  exact .inl ⟨_,_,rfl,rfl,fun _ _ _ _=>rfl⟩
 ·rw[if_neg h]
  obtain rfl:i=k:=by omega
  rw[Nat.sub_self]
  exact .inl ⟨_,_,rfl,rfl,fun x y hx _=>congrArg (fun z=>(rr (ofR z)).getD y .any) (hv x hx)⟩
theorem poly_first {q:Nat} {bl:List Blk} {ks:List (Option Nat)} {P:Nat->Nat->Rat} (hp:∀ x,x<1->(1:Rat)=P 0 x):regC q bl ks (nql (0+1) (P 0)) fun y=>rowF 1 [nql 1 fun _=>1] 0 0=y := .inl ⟨_,_,rfl,rfl,fun x y hx _=>congrArg (fun z=>(rr (ofR z)).getD y .any) (hp x hx)⟩
theorem one_poly {bl:List Blk} {r:Prop} {k:Nat} {v:Nat->Rat} {x y:Nat} (hx:x<1) (hy:y<1):St.one bl (rowF 1 [nql k v] x y)=true/\(r->(rowF 1 [nql k v] x y).noU=true):=by
 obtain rfl:x=0:=by omega
 obtain rfl:y=0:=by omega
 exact⟨rfl,fun _=>rfl⟩
theorem box_eq {q k t u:Nat} {bl:List Blk} {ks:List (Option Nat)} {x y:Rat} (e:x=y) (h:bl[k]? = some ⟨t,4,1,u,0,boxF (nq x)⟩:=by rfl):srcG q bl ks ⟨t,4,1,boxF (nq y)⟩ (some k):=by
 subst e
 exact Rf.boxK h rfl
theorem reg_nql {q:Nat} {bl:List Blk} {ks:List (Option Nat)} {n:Nat} {v w:Nat->Rat} (h:∀ i,i<n->w i=v i):regV q bl ks (.c (nql n w)) (.c (nql n v)) := .inl ⟨_,_,rfl,rfl,fun i j hi _=>congrArg (fun x=>(rr (ofR x)).getD j .any) (h i hi)⟩

structure Ch (n : Nat) (H W D P : Nat → Nat → Rat) (N : Nat → Nat → Nat → Rat) (K Bd : Nat) : Prop where
 hH:Bq n K H
 hW:∀ i k,i≤k->k<n->qlen (W i k)≤6*K
 hD:∀ i k,i≤k->k<n->qlen (D i k)≤5*K
 hN:∀ k,k<n->∀ i,i≤k->∀ j,qlen (N k i j)≤Bd
 hP:∀ k,k≤n->∀ j,qlen (P k j)≤Bd
 pz:∀ k j,k<j->P k j=0
 pt:∀ k,P k k=1
 nt:∀ k i,N k i (k+1)=1
 wd:∀ i k,W i k=D i k*H i k
 dl:∀ i k,i<k->D i k=D (i+1) k*H (i+1) i
 ds:∀ k,D k k=1
 br:∀ i k j,D i k=0->i≤k->N k (i+1) j=P (k+1) j
 nf:∀ k j,xs (P k) j-P k j*W k k=N k k j
 nn:∀ k i j,i<k->N k (i+1) j-P i j*W i k=N k i j
 nl:∀ k j,N k 0 j=P (k+1) j
theorem ch_of {n K:Nat} {H:Nat->Nat->Rat} (hn:n≤5) (hK:1≤K) (hH:Bq n K H):Ch n H (wd H) (dd H) (fun k=>(hp (wd H) k).f) (nx (wd H)) K (PB K n):=by
 have h3:∀ k,k≤n->PB K k≤PB K n:=fun k hk=>Nat.mul_le_mul_right _ (Nat.mul_le_mul_left 8 (Nat.pow_le_pow_right (by omega) hk))
 have hPb:=hp_bq hH hn hK
 refine⟨hH,fun i k hi hk=>wd_bq hH hn hK hi hk,fun i k hi hk=>dd_b5 hH hn hK hi hk,fun k hk i hi j=>?_,fun k hk j=>Nat.le_trans (hPb k hk j) (h3 k hk),fun k j h=>(hp_deg (wd H) k).1 j h,fun k=>(hp_deg (wd H) k).2,fun k i=>(nx_deg (wd H)).2,fun _ _=>rfl,fun i k h=>dd_left H h,dd_self H,fun i k j h hi=>nx_break _ (wd_zero H h hi) hi j,fun k j=>?_,fun k i j h=>?_,fun k j=>nx_last _ k j⟩
 ·have h:=nx_bq hH hn hK hk (fun a ha=>hPb a (by omega)) (k-i) (by omega) j
  rw[show k-(k-i)=i by omega]at h
  refine Nat.le_trans h (Nat.le_trans ?_ (h3 (k+1) (by omega)))
  unfold PB
  rw[show 8*3^(k+1)=24*3^k by rw[Nat.pow_succ];omega]
  exact Nat.mul_le_mul_right _ (ck_le (by omega) hi)
 ·rw[nx_first,Rat.mul_comm]
  rfl
 ·rw[nx_next _ h,Rat.mul_comm]
set_option maxHeartbeats 64000000 in
set_option maxRecDepth 100000 in
theorem charpoly_ch {n:Nat} {p:Nat->RawR} {A W D P:Nat->Nat->Rat} {N:Nat->Nat->Nat->Rat} {L Bd:Nat} (hn:n≤5) (hfit:∀ k,k<n*n->(p k).Fit L) (h1:1≤L) (hA:∀ i j,i<n->j<n->(p (i*n+j)).val=A i j) (hB:Bq n L A) (hBd:8*KB n L≤Bd) (hL:4*Bd+64≤LIM) (ch:Ch n (hsn n A) W D P N (KB n L) Bd):FnOK Tryz.prog true 10 [.g (rmat n n p)] (.t2 (.c (nql (n+1) (P n))) (.c (.int .i64 0))):=by
 have hK:1≤KB n L:=KB_pos h1
 have hLK:L≤KB n L:=by
  have:=KB_le (n:=n) (L:=L) (e:=0) (Nat.zero_le _)
  rwa [Nat.pow_zero,Nat.one_mul]at this
 have hL16:16*KB n L+16≤LIM:=by omega
 have k0:FnOK Tryz.prog true 38 [.g (rmat n n p)] (.c (.int .i64 0)):=by
  have h:=check_ok (r:=n) (c:=n) (len:=n*n) (f:=qlF p)
  rwa [show firstErr (n:Int) n ((n*n:Nat):Int)=0 by
   unfold firstErr
   rw[if_pos ⟨⟨⟨by omega,by omega⟩,⟨by omega,by omega⟩,by rw[Int.natCast_mul]⟩,rfl⟩,if_neg (by omega)]]at h
 have k1:=q1_ok
 have k2:=one_ok
 refine fn_okS (E:=E1) E1_ok Tryz.func10 rfl (by kernel_rfl) ?_
 refine swp_seq E1_ok mixed (by kernel_rfl) ?_
 conv=>whnf
 refine⟨gst [(1,.c (.p 0 0 3 0 0))] [⟨24,3,1,boxF (rmat n n p)⟩],Weak.gen [some 0] rfl ⟨Rf.boxK rfl rfl,trivial⟩ ⟨⟨_,rfl,rfl,rfl⟩,trivial⟩,?_⟩
 refine swp_seq E1_ok mixed (by kernel_rfl) ?_
 conv=>whnf
 refine⟨_,k0,?_⟩
 conv=>whnf
 refine⟨gst [(1,.c (.p 0 0 3 0 0))] [⟨24,3,1,boxF (rmat n n p)⟩],Weak.gen [some 0] rfl ⟨Rf.boxK rfl rfl,trivial⟩ ⟨⟨_,rfl,rfl,rfl⟩,trivial⟩,?_⟩
 refine swp_mid2 (fun _:Unit=>gst [(5,.c (.gs 0 0))] [gR n (hsn n A)]) (fun _=>True) ?_ fun _ _=>?_
 ·clear ch k1 k2
  rcases(show n=0∨n=1∨n=2∨n=3∨n=4∨n=5 by omega)with rfl | rfl | rfl | rfl | rfl | rfl
  ·refine swp_goT E1_ok (pre:=[_]) (post:=[_]) rfl rfl (by kernel_rfl) ?_
   conv=>whnf
   refine⟨0,_,by decide,OpGoT.weak (σ1:=gst [(16,.g [.int .i64 0,.int .i64 0,ql 0 p])] []) (Weak.gen [] rfl trivial ⟨.inl ⟨rfl,rfl⟩,trivial⟩) (OpGoT.call0 (f:=39) (cs:=[]) rfl rfl (fun B hB=>absurd hB List.not_mem_nil) (grid_0 (A:=A) hfit (by omega) hA) (lt_asg (tl:=[(16,.g [.int .i64 0,.int .i64 0,ql 0 p])]) ⟨rfl,trivial⟩)),?_⟩
   conv=>whnf
   refine swp_weak (σ2:=gst [(5,.c (.gs 0 0))] [gG 0 idn]) (Weak.gen [some 0] rfl ⟨⟨_,rfl,rfl,rfl,rfl,rfl,cells0⟩,trivial⟩ ⟨⟨_,rfl,rfl,rfl⟩,trivial⟩) ?_
   refine swp_goT E1_ok (pre:=[_]) (post:=[]) rfl rfl (by kernel_rfl) ?_
   conv=>whnf
   refine⟨1,_,by decide,OpGoT.call0 (f:=40) (cs:=[]) rfl rfl live_all (hess_0 A hB h1 hL16) (lt_put (lt_asg (tl:=[(5,.c (.gs 0 0))]) ⟨rfl,trivial⟩) rfl),?_⟩
   conv=>whnf
   exact⟨(),trivial,Weak.gen [some 0] rfl ⟨⟨_,rfl,rfl,rfl,rfl,rfl,cells0⟩,trivial⟩ ⟨⟨_,rfl,rfl,rfl⟩,trivial⟩⟩
  ·refine swp_goT E1_ok (pre:=[_]) (post:=[_]) rfl rfl (by kernel_rfl) ?_
   conv=>whnf
   refine⟨0,_,by decide,OpGoT.weak (σ1:=gst [(16,.g [.int .i64 1,.int .i64 1,ql 1 p])] []) (Weak.gen [] rfl trivial ⟨.inl ⟨rfl,rfl⟩,trivial⟩) (OpGoT.call0 (f:=39) (cs:=[]) rfl rfl (fun B hB=>absurd hB List.not_mem_nil) (grid_1 (A:=A) hfit (by omega) hA) (lt_asg (tl:=[(16,.g [.int .i64 1,.int .i64 1,ql 1 p])]) ⟨rfl,trivial⟩)),?_⟩
   conv=>whnf
   refine swp_weak (σ2:=gst [(5,.c (.gs 0 0))] [gG 1 idn,gq 1 (A 0)]) (Weak.gen [some 0,some 1] rfl ⟨⟨_,rfl,rfl,rfl,rfl,rfl,cells1 ⟨_,rfl,rfl,rfl⟩⟩,⟨_,rfl,rfl,rfl,rfl,rfl,fun x y hx hy=>row_keep rfl⟩,trivial⟩ ⟨⟨_,rfl,rfl,rfl⟩,trivial⟩) ?_
   refine swp_goT E1_ok (pre:=[_]) (post:=[]) rfl rfl (by kernel_rfl) ?_
   conv=>whnf
   refine⟨1,_,by decide,OpGoT.call0 (f:=40) (cs:=[]) rfl rfl live_all (hess_1 A hB h1 hL16) (lt_put (lt_asg (tl:=[(5,.c (.gs 0 0))]) ⟨rfl,trivial⟩) rfl),?_⟩
   conv=>whnf
   exact⟨(),trivial,Weak.gen [some 0] rfl ⟨⟨_,rfl,rfl,rfl,rfl,rfl,cells1 (.inr (.inr ⟨1,_,rfl,rfl,rfl,rfl,Nat.zero_le 1,rfl,rfl,fun x y hx hy=>⟨rfl,q_clos _ x y⟩⟩))⟩,trivial⟩ ⟨⟨_,rfl,rfl,rfl⟩,trivial⟩⟩
  ·refine swp_goT E1_ok (pre:=[_]) (post:=[_]) rfl rfl (by kernel_rfl) ?_
   conv=>whnf
   refine⟨0,_,by decide,OpGoT.weak (σ1:=gst [(16,.g [.int .i64 2,.int .i64 2,ql 4 p])] []) (Weak.gen [] rfl trivial ⟨.inl ⟨rfl,rfl⟩,trivial⟩) (OpGoT.call0 (f:=39) (cs:=[]) rfl rfl (fun B hB=>absurd hB List.not_mem_nil) (grid_2 (A:=A) hfit (by omega) hA) (lt_asg (tl:=[(16,.g [.int .i64 2,.int .i64 2,ql 4 p])]) ⟨rfl,trivial⟩)),?_⟩
   conv=>whnf
   refine swp_weak (σ2:=gst [(5,.c (.gs 0 0))] [gG 2 idn,gq 2 (A 0),gq 2 (A 1)]) (Weak.gen [some 0,some 1,some 2] rfl ⟨⟨_,rfl,rfl,rfl,rfl,rfl,cells2 ⟨_,rfl,rfl,rfl⟩ ⟨_,rfl,rfl,rfl⟩⟩,⟨_,rfl,rfl,rfl,rfl,rfl,fun x y hx hy=>row_keep rfl⟩,⟨_,rfl,rfl,rfl,rfl,rfl,fun x y hx hy=>row_keep rfl⟩,trivial⟩ ⟨⟨_,rfl,rfl,rfl⟩,trivial⟩) ?_
   refine swp_goT E1_ok (pre:=[_]) (post:=[]) rfl rfl (by kernel_rfl) ?_
   conv=>whnf
   refine⟨1,_,by decide,OpGoT.call0 (f:=40) (cs:=[]) rfl rfl live_all (hess_2 A hB h1 hL16) (lt_put (lt_asg (tl:=[(5,.c (.gs 0 0))]) ⟨rfl,trivial⟩) rfl),?_⟩
   conv=>whnf
   exact⟨(),trivial,Weak.gen [some 0] rfl ⟨⟨_,rfl,rfl,rfl,rfl,rfl,cells2 (.inr (.inr ⟨1,_,rfl,rfl,rfl,rfl,Nat.zero_le 1,rfl,rfl,fun x y hx hy=>⟨rfl,q_clos _ x y⟩⟩)) (.inr (.inr ⟨2,_,rfl,rfl,rfl,rfl,Nat.zero_le 1,rfl,rfl,fun x y hx hy=>⟨rfl,q_clos _ x y⟩⟩))⟩,trivial⟩ ⟨⟨_,rfl,rfl,rfl⟩,trivial⟩⟩
  ·refine swp_goT E1_ok (pre:=[_]) (post:=[_]) rfl rfl (by kernel_rfl) ?_
   conv=>whnf
   refine⟨0,_,by decide,OpGoT.weak (σ1:=gst [(16,.g [.int .i64 3,.int .i64 3,ql 9 p])] []) (Weak.gen [] rfl trivial ⟨.inl ⟨rfl,rfl⟩,trivial⟩) (OpGoT.call0 (f:=39) (cs:=[]) rfl rfl (fun B hB=>absurd hB List.not_mem_nil) (grid_3 (A:=A) hfit (by omega) hA) (lt_asg (tl:=[(16,.g [.int .i64 3,.int .i64 3,ql 9 p])]) ⟨rfl,trivial⟩)),?_⟩
   conv=>whnf
   refine swp_weak (σ2:=gst [(5,.c (.gs 0 0))] [gG 3 idn,gq 3 (A 0),gq 3 (A 1),gq 3 (A 2)]) (Weak.gen [some 0,some 1,some 2,some 3] rfl ⟨⟨_,rfl,rfl,rfl,rfl,rfl,cells3 ⟨_,rfl,rfl,rfl⟩ ⟨_,rfl,rfl,rfl⟩ ⟨_,rfl,rfl,rfl⟩⟩,⟨_,rfl,rfl,rfl,rfl,rfl,fun x y hx hy=>row_keep rfl⟩,⟨_,rfl,rfl,rfl,rfl,rfl,fun x y hx hy=>row_keep rfl⟩,⟨_,rfl,rfl,rfl,rfl,rfl,fun x y hx hy=>row_keep rfl⟩,trivial⟩ ⟨⟨_,rfl,rfl,rfl⟩,trivial⟩) ?_
   refine swp_goT E1_ok (pre:=[_]) (post:=[]) rfl rfl (by kernel_rfl) ?_
   conv=>whnf
   refine⟨1,_,by decide,OpGoT.call0 (f:=40) (cs:=[]) rfl rfl live_all (hess_3 A hB h1 hL16) (lt_put (lt_asg (tl:=[(5,.c (.gs 0 0))]) ⟨rfl,trivial⟩) rfl),?_⟩
   conv=>whnf
   exact⟨(),trivial,Weak.gen [some 0] rfl ⟨⟨_,rfl,rfl,rfl,rfl,rfl,cells3 (.inr (.inr ⟨1,_,rfl,rfl,rfl,rfl,Nat.zero_le 1,rfl,rfl,fun x y hx hy=>⟨rfl,q_clos _ x y⟩⟩)) (.inr (.inr ⟨2,_,rfl,rfl,rfl,rfl,Nat.zero_le 1,rfl,rfl,fun x y hx hy=>⟨rfl,q_clos _ x y⟩⟩)) (.inr (.inr ⟨3,_,rfl,rfl,rfl,rfl,Nat.zero_le 1,rfl,rfl,fun x y hx hy=>⟨rfl,q_clos _ x y⟩⟩))⟩,trivial⟩ ⟨⟨_,rfl,rfl,rfl⟩,trivial⟩⟩
  ·refine swp_goT E1_ok (pre:=[_]) (post:=[_]) rfl rfl (by kernel_rfl) ?_
   conv=>whnf
   refine⟨0,_,by decide,OpGoT.weak (σ1:=gst [(16,.g [.int .i64 4,.int .i64 4,ql 16 p])] []) (Weak.gen [] rfl trivial ⟨.inl ⟨rfl,rfl⟩,trivial⟩) (OpGoT.call0 (f:=39) (cs:=[]) rfl rfl (fun B hB=>absurd hB List.not_mem_nil) (grid_4 (A:=A) hfit (by omega) hA) (lt_asg (tl:=[(16,.g [.int .i64 4,.int .i64 4,ql 16 p])]) ⟨rfl,trivial⟩)),?_⟩
   conv=>whnf
   refine swp_weak (σ2:=gst [(5,.c (.gs 0 0))] [gG 4 idn,gq 4 (A 0),gq 4 (A 1),gq 4 (A 2),gq 4 (A 3)]) (Weak.gen [some 0,some 1,some 2,some 3,some 4] rfl ⟨⟨_,rfl,rfl,rfl,rfl,rfl,cells4 ⟨_,rfl,rfl,rfl⟩ ⟨_,rfl,rfl,rfl⟩ ⟨_,rfl,rfl,rfl⟩ ⟨_,rfl,rfl,rfl⟩⟩,⟨_,rfl,rfl,rfl,rfl,rfl,fun x y hx hy=>row_keep rfl⟩,⟨_,rfl,rfl,rfl,rfl,rfl,fun x y hx hy=>row_keep rfl⟩,⟨_,rfl,rfl,rfl,rfl,rfl,fun x y hx hy=>row_keep rfl⟩,⟨_,rfl,rfl,rfl,rfl,rfl,fun x y hx hy=>row_keep rfl⟩,trivial⟩ ⟨⟨_,rfl,rfl,rfl⟩,trivial⟩) ?_
   refine swp_goT E1_ok (pre:=[_]) (post:=[]) rfl rfl (by kernel_rfl) ?_
   conv=>whnf
   refine⟨1,_,by decide,OpGoT.call0 (f:=40) (cs:=[]) rfl rfl live_all (hess_4 A hB h1 hL16) (lt_put (lt_asg (tl:=[(5,.c (.gs 0 0))]) ⟨rfl,trivial⟩) rfl),?_⟩
   conv=>whnf
   exact⟨(),trivial,Weak.gen [some 0] rfl ⟨⟨_,rfl,rfl,rfl,rfl,rfl,cells4 (.inr (.inr ⟨1,_,rfl,rfl,rfl,rfl,Nat.zero_le 1,rfl,rfl,fun x y hx hy=>⟨rfl,q_clos _ x y⟩⟩)) (.inr (.inr ⟨2,_,rfl,rfl,rfl,rfl,Nat.zero_le 1,rfl,rfl,fun x y hx hy=>⟨rfl,q_clos _ x y⟩⟩)) (.inr (.inr ⟨3,_,rfl,rfl,rfl,rfl,Nat.zero_le 1,rfl,rfl,fun x y hx hy=>⟨rfl,q_clos _ x y⟩⟩)) (.inr (.inr ⟨4,_,rfl,rfl,rfl,rfl,Nat.zero_le 1,rfl,rfl,fun x y hx hy=>⟨rfl,q_clos _ x y⟩⟩))⟩,trivial⟩ ⟨⟨_,rfl,rfl,rfl⟩,trivial⟩⟩
  ·refine swp_goT E1_ok (pre:=[_]) (post:=[_]) rfl rfl (by kernel_rfl) ?_
   conv=>whnf
   refine⟨0,_,by decide,OpGoT.weak (σ1:=gst [(16,.g [.int .i64 5,.int .i64 5,ql 25 p])] []) (Weak.gen [] rfl trivial ⟨.inl ⟨rfl,rfl⟩,trivial⟩) (OpGoT.call0 (f:=39) (cs:=[]) rfl rfl (fun B hB=>absurd hB List.not_mem_nil) (grid_5 (A:=A) hfit (by omega) hA) (lt_asg (tl:=[(16,.g [.int .i64 5,.int .i64 5,ql 25 p])]) ⟨rfl,trivial⟩)),?_⟩
   conv=>whnf
   refine swp_weak (σ2:=gst [(5,.c (.gs 0 0))] [gG 5 idn,gq 5 (A 0),gq 5 (A 1),gq 5 (A 2),gq 5 (A 3),gq 5 (A 4)]) (Weak.gen [some 0,some 1,some 2,some 3,some 4,some 5] rfl ⟨⟨_,rfl,rfl,rfl,rfl,rfl,cells5 ⟨_,rfl,rfl,rfl⟩ ⟨_,rfl,rfl,rfl⟩ ⟨_,rfl,rfl,rfl⟩ ⟨_,rfl,rfl,rfl⟩ ⟨_,rfl,rfl,rfl⟩⟩,⟨_,rfl,rfl,rfl,rfl,rfl,fun x y hx hy=>row_keep rfl⟩,⟨_,rfl,rfl,rfl,rfl,rfl,fun x y hx hy=>row_keep rfl⟩,⟨_,rfl,rfl,rfl,rfl,rfl,fun x y hx hy=>row_keep rfl⟩,⟨_,rfl,rfl,rfl,rfl,rfl,fun x y hx hy=>row_keep rfl⟩,⟨_,rfl,rfl,rfl,rfl,rfl,fun x y hx hy=>row_keep rfl⟩,trivial⟩ ⟨⟨_,rfl,rfl,rfl⟩,trivial⟩) ?_
   refine swp_goT E1_ok (pre:=[_]) (post:=[]) rfl rfl (by kernel_rfl) ?_
   conv=>whnf
   refine⟨1,_,by decide,OpGoT.call0 (f:=40) (cs:=[]) rfl rfl live_all (hess_5 A hB h1 hL16) (lt_put (lt_asg (tl:=[(5,.c (.gs 0 0))]) ⟨rfl,trivial⟩) rfl),?_⟩
   conv=>whnf
   exact⟨(),trivial,Weak.gen [some 0] rfl ⟨⟨_,rfl,rfl,rfl,rfl,rfl,cells5 (.inr (.inr ⟨1,_,rfl,rfl,rfl,rfl,Nat.zero_le 1,rfl,rfl,fun x y hx hy=>⟨rfl,q_clos _ x y⟩⟩)) (.inr (.inr ⟨2,_,rfl,rfl,rfl,rfl,Nat.zero_le 1,rfl,rfl,fun x y hx hy=>⟨rfl,q_clos _ x y⟩⟩)) (.inr (.inr ⟨3,_,rfl,rfl,rfl,rfl,Nat.zero_le 1,rfl,rfl,fun x y hx hy=>⟨rfl,q_clos _ x y⟩⟩)) (.inr (.inr ⟨4,_,rfl,rfl,rfl,rfl,Nat.zero_le 1,rfl,rfl,fun x y hx hy=>⟨rfl,q_clos _ x y⟩⟩)) (.inr (.inr ⟨5,_,rfl,rfl,rfl,rfl,Nat.zero_le 1,rfl,rfl,fun x y hx hy=>⟨rfl,q_clos _ x y⟩⟩))⟩,trivial⟩ ⟨⟨_,rfl,rfl,rfl⟩,trivial⟩⟩
 clear hfit hA hB k0
 generalize hsn n A=H at *
 generalize KB n L=K at *
 have hww:∀ k,W k k=H k k:=fun k=>by rw[ch.wd,ch.ds,Rat.one_mul]
 have hsc:=fun k (hk:k<n)=>scale_step (m:=k+1) (F:=P k) (w:=H k k) (L:=Bd) (L':=K) (by omega) (fun i _=>ch.hP k (by omega) i) (ch.hH k k hk hk) (by omega)
 have hsh:=fun k (hk:k<n)=>shift_step (n:=k) (v:=P k) (L:=Bd) (by omega) (fun i _=>ch.hP k (by omega) i) (by omega) (by omega) (by rw[ch.pt];decide)
 have hs0:=fun k (hk:k<n)=>sub_step (m:=k+1) (N:=k+2) (F:=xs (P k)) (Z:=fun i=>P k i*H k k) (v:=N k k) (L:=2*Bd) (by omega) (by omega) (by omega) (fun i _=>by
  unfold xs
  split
  ·exact Nat.le_trans (ch.hP k (by omega) _) (by omega)
  ·exact Nat.le_trans q_zero (by omega)) (fun i _=>Nat.le_trans (q_mul (ch.hP k (by omega) i) (ch.hH k k hk hk) (by omega)) (by omega)) (by omega) (by omega) (fun i hi=>by rw[ch.pz k i (by omega),Rat.zero_mul]) (fun i _=>by rw[← ch.nf,hww]) (by show N k k (k+1)≠0;rw[ch.nt];decide)
 have hc2:=fun k i (hk:k<n) (hi:i<k)=>scale_step (m:=i+1) (F:=P i) (w:=W i k) (L:=Bd) (L':=6*K) (by omega) (fun j _=>ch.hP i (by omega) j) (ch.hW i k (by omega) hk) (by omega)
 have hs2:=fun k i (hk:k<n) (hi:i<k)=>sub_step (m:=i+1) (N:=k+2) (F:=N k (i+1)) (Z:=fun j=>P i j*W i k) (v:=N k i) (L:=2*Bd) (by omega) (by omega) (by omega) (fun j _=>Nat.le_trans (ch.hN k hk (i+1) (by omega) j) (by omega)) (fun j _=>Nat.le_trans (q_mul (ch.hP i (by omega) j) (ch.hW i k (by omega) hk) (by omega)) (by omega)) (by omega) (by omega) (fun j hj=>by rw[ch.pz i j (by omega),Rat.zero_mul]) (fun j _=>ch.nn k i j hi) (by show N k i (k+1)≠0;rw[ch.nt];decide)
 have hm1:=fun k i (hk:k<n) (hi:i<k)=>qmul_n (x:=D (i+1) k) (y:=H (i+1) i) (z:=D i k) (ch.hD (i+1) k (by omega) hk) (ch.hH (i+1) i (by omega) (by omega)) (by omega) (ch.dl i k hi).symm
 have hm2:=fun k i (hk:k<n) (hi:i<k)=>qmul_n (x:=D i k) (y:=H i k) (z:=W i k) (ch.hD i k (by omega) hk) (ch.hH i k (by omega) (by omega)) (by omega) (ch.wd i k).symm
 have hnz:=fun k i (hk:k<n) (hi:i<k)=>nz_ok (x:=D i k) (ch.hD i k (by omega) hk) (by omega)
 have hp0:∀ x,x<1->(1:Rat)=P 0 x:=fun x hx=>by
  obtain rfl:x=0:=by omega
  exact(ch.pt 0).symm
 have hbr:=ch.br
 have hnl:=ch.nl
 have hds:=ch.ds
 clear ch hww hL hBd h1
 refine swp_seq E1_ok mixed (by kernel_rfl) ?_
 conv=>whnf
 refine⟨_,k2,?_⟩
 conv=>whnf
 refine⟨gst [(5,.c (.gs 0 0)),(6,.c (.gs 1 0))] [gR n H,gL (1) P],Weak.gen [some 0,some 1] rfl ⟨⟨_,rfl,rfl,rfl,rfl,rfl,fun x y hx hy => .inl ⟨_,_,rfl,rfl,fun _ _ _ _=>rfl⟩⟩,⟨_,rfl,rfl,rfl,rfl,rfl,cells1 (poly_first hp0)⟩,trivial⟩ ⟨⟨_,rfl,rfl,rfl⟩,⟨_,rfl,rfl,rfl⟩,trivial⟩,?_⟩
 refine swp_mid (fun _:Unit=>gst [(5,.c (.gs 0 0)),(6,.c (.gs 1 0))] [gR n H,gL (n+1) P]) (fun _=>True) ?_ fun _ _=>?_
 rotate_left
 ·refine swp_of E1_ok mixed (by kernel_rfl) ?_
  conv=>whnf
  refine⟨by omega,by show(n:Int)<((n+1:Nat):Int);omega,?_⟩
  conv=>whnf
  exact⟨rfl,Sub.refl _⟩
 refine swp_seq E1_ok mixed (by kernel_rfl) ?_
 conv=>whnf
 refine⟨(fun k:Nat=>gst [(5,.c (.gs 0 0)),(6,.c (.gs 1 0)),(22,.c (.gs 0 0)),(23,.c (.int .i64 ((n:Nat):Int))),(24,.c (.int .i64 ((k:Nat):Int)))] [gR n H,gL (k+1) P]) 0,Weak.gen [some 0,some 1] rfl ⟨⟨_,rfl,rfl,rfl,rfl,rfl,fun x y hx hy => .inl ⟨_,_,rfl,rfl,fun _ _ _ _=>rfl⟩⟩,⟨_,rfl,rfl,rfl,rfl,rfl,fun x y hx hy=>poly_keep⟩,trivial⟩ ⟨⟨_,rfl,rfl,rfl⟩,⟨_,rfl,rfl,rfl⟩,⟨_,rfl,rfl,rfl⟩,⟨_,rfl,rfl⟩,⟨_,rfl,rfl⟩,trivial⟩,?_⟩
 refine swp_block (swp_loop (fun k:Nat=>gst [(5,.c (.gs 0 0)),(6,.c (.gs 1 0)),(22,.c (.gs 0 0)),(23,.c (.int .i64 ((n:Nat):Int))),(24,.c (.int .i64 ((k:Nat):Int)))] [gR n H,gL (k+1) P]) (fun k=>n-k) (fun k=>k≤n) 0 (Weak.refl _) (Nat.zero_le _) fun k hk=>?_)
 have hsc:=hsc k
 have hsh:=hsh k
 have hs0:=hs0 k
 have hc2:=hc2 k
 have hs2:=hs2 k
 have hm1:=hm1 k
 have hm2:=hm2 k
 have hnz:=hnz k
 refine swp_seq0 E1_ok mixed (by kernel_rfl) ?_
 conv=>whnf
 refine swp_seq E1_ok mixed (by kernel_rfl) ?_
 conv=>whnf
 refine bcase (fun(h:decide ((k:Int)<(n:Int))=true)=>?_) fun(h:decide ((k:Int)<(n:Int))=false)=>?_
 rotate_left
 ·have h:=of_decide_eq_false h
  obtain rfl:k=n:=by omega
  conv=>whnf
  exact⟨(),trivial,Weak.gen [some 0,some 1] rfl ⟨⟨_,rfl,rfl,rfl,rfl,rfl,fun x y hx hy => .inl ⟨_,_,rfl,rfl,fun _ _ _ _=>rfl⟩⟩,⟨_,rfl,rfl,rfl,rfl,rfl,fun x y hx hy=>poly_keep⟩,trivial⟩ ⟨⟨_,rfl,rfl,rfl⟩,⟨_,rfl,rfl,rfl⟩,trivial⟩⟩
 have h:=of_decide_eq_true h
 have hk:k<n:=by omega
 have hsc:=hsc hk
 have hsh:=hsh hk
 have hs0:=hs0 hk
 conv=>whnf
 refine⟨gst [(5,.c (.gs 0 0)),(6,.c (.gs 1 0)),(22,.c (.gs 0 0)),(23,.c (.int .i64 ((n:Nat):Int))),(24,.c (.int .i64 ((k:Nat):Int)))] [gR n H,gL (k+1) P],Weak.gen [some 0,some 1] rfl ⟨⟨_,rfl,rfl,rfl,rfl,rfl,fun x y hx hy => .inl ⟨_,_,rfl,rfl,fun _ _ _ _=>rfl⟩⟩,⟨_,rfl,rfl,rfl,rfl,rfl,fun x y hx hy=>poly_keep⟩,trivial⟩ ⟨⟨_,rfl,rfl,rfl⟩,⟨_,rfl,rfl,rfl⟩,⟨_,rfl,rfl,rfl⟩,⟨_,rfl,rfl⟩,⟨_,rfl,rfl⟩,trivial⟩,?_⟩
 refine swp_mid (fun _:Unit=>gst [(5,.c (.gs 0 0)),(6,.c (.gs 1 0)),(22,.c (.gs 0 0)),(23,.c (.int .i64 ((n:Nat):Int))),(24,.c (.int .i64 ((k:Nat):Int)))] [gR n H,gL (k+2) P]) (fun _=>True) ?_ fun _ _=>?_
 rotate_left
 ·refine swp_of E1_ok mixed (by kernel_rfl) ?_
  conv=>whnf
  refine⟨i64_range (by omega) (by omega),?_⟩
  conv=>whnf
  exact⟨k+1,by omega,Weak.gen [some 0,some 1] rfl ⟨⟨_,rfl,rfl,rfl,rfl,rfl,fun x y hx hy => .inl ⟨_,_,rfl,rfl,fun _ _ _ _=>rfl⟩⟩,⟨_,rfl,rfl,rfl,rfl,rfl,fun x y hx hy=>poly_keep⟩,trivial⟩ ⟨⟨_,rfl,rfl,rfl⟩,⟨_,rfl,rfl,rfl⟩,⟨_,rfl,rfl,rfl⟩,⟨_,rfl,rfl⟩,⟨_,rfl,rfl⟩,trivial⟩,by omega⟩
 refine swp_block ?_
 refine swp_seq E1_ok mixed (by kernel_rfl) ?_
 conv=>whnf
 refine⟨gst [(5,.c (.gs 0 0)),(6,.c (.gs 1 0)),(22,.c (.gs 0 0)),(23,.c (.int .i64 ((n:Nat):Int))),(24,.c (.int .i64 ((k:Nat):Int))),(7,.c (.int .i64 ((k:Nat):Int)))] [gR n H,gL (k+1) P],Weak.gen [some 0,some 1] rfl ⟨⟨_,rfl,rfl,rfl,rfl,rfl,fun x y hx hy => .inl ⟨_,_,rfl,rfl,fun _ _ _ _=>rfl⟩⟩,⟨_,rfl,rfl,rfl,rfl,rfl,fun x y hx hy=>poly_keep⟩,trivial⟩ ⟨⟨_,rfl,rfl,rfl⟩,⟨_,rfl,rfl,rfl⟩,⟨_,rfl,rfl,rfl⟩,⟨_,rfl,rfl⟩,⟨_,rfl,rfl⟩,⟨_,rfl,rfl⟩,trivial⟩,?_⟩
 have j0:(0:Int)≤(k:Int):=by omega
 have j1:(k:Int)<((k+1:Nat):Int):=by omega
 have j2:(k:Int)<(n:Int):=by omega
 refine swp_seq E1_ok mixed (by kernel_rfl) ?_
 conv=>whnf
 repeat (refine⟨by first | exact j0 | exact j1 | exact j2,?_⟩;conv=>whnf)
 refine⟨_,hsh,?_⟩
 conv=>whnf
 repeat (refine⟨by first | exact j0 | exact j1 | exact j2,?_⟩;conv=>whnf)
 refine⟨_,hsc,?_⟩
 conv=>whnf
 refine⟨_,hs0,?_⟩
 conv=>whnf
 refine⟨gst [(5,.c (.gs 0 0)),(6,.c (.gs 1 0)),(22,.c (.gs 0 0)),(23,.c (.int .i64 ((n:Nat):Int))),(24,.c (.int .i64 ((k:Nat):Int))),(7,.c (.int .i64 ((k:Nat):Int))),(8,.c (nql (k+2) (N k k)))] [gR n H,gL (k+1) P],Weak.gen [some 0,some 1] rfl ⟨⟨_,rfl,rfl,rfl,rfl,rfl,fun x y hx hy => .inl ⟨_,_,rfl,rfl,fun _ _ _ _=>rfl⟩⟩,⟨_,rfl,rfl,rfl,rfl,rfl,fun x y hx hy=>poly_keep⟩,trivial⟩ ⟨⟨_,rfl,rfl,rfl⟩,⟨_,rfl,rfl,rfl⟩,⟨_,rfl,rfl,rfl⟩,⟨_,rfl,rfl⟩,⟨_,rfl,rfl⟩,⟨_,rfl,rfl⟩,.inl ⟨_,_,rfl,rfl,fun _ _ _ _=>rfl⟩,trivial⟩,?_⟩
 refine swp_seq E1_ok mixed (by kernel_rfl) ?_
 conv=>whnf
 refine⟨_,k1,?_⟩
 conv=>whnf
 refine⟨gst [(5,.c (.gs 0 0)),(6,.c (.gs 1 0)),(22,.c (.gs 0 0)),(23,.c (.int .i64 ((n:Nat):Int))),(24,.c (.int .i64 ((k:Nat):Int))),(7,.c (.int .i64 ((k:Nat):Int))),(8,.c (nql (k+2) (N k k))),(9,.c (.p 2 0 4 0 0))] [gR n H,gL (k+1) P,⟨38,4,1,boxF (nq (1))⟩],Weak.gen [some 0,some 1,some 2] rfl ⟨⟨_,rfl,rfl,rfl,rfl,rfl,fun x y hx hy => .inl ⟨_,_,rfl,rfl,fun _ _ _ _=>rfl⟩⟩,⟨_,rfl,rfl,rfl,rfl,rfl,fun x y hx hy=>poly_keep⟩,Rf.boxU rfl rfl rfl,trivial⟩ ⟨⟨_,rfl,rfl,rfl⟩,⟨_,rfl,rfl,rfl⟩,⟨_,rfl,rfl,rfl⟩,⟨_,rfl,rfl⟩,⟨_,rfl,rfl⟩,⟨_,rfl,rfl⟩,.inl ⟨_,_,rfl,rfl,fun _ _ _ _=>rfl⟩,⟨_,rfl,rfl,rfl⟩,trivial⟩,?_⟩
 refine swp_mid (fun _:Unit=>gst [(5,.c (.gs 0 0)),(6,.c (.gs 1 0)),(22,.c (.gs 0 0)),(23,.c (.int .i64 ((n:Nat):Int))),(24,.c (.int .i64 ((k:Nat):Int))),(7,.c (.int .i64 ((k:Nat):Int))),(8,.c (nql (k+2) (P (k+1))))] [gR n H,gL (k+1) P]) (fun _=>True) ?_ fun _ _=>?_
 rotate_left
 ·refine swp_of E1_ok mixed (by kernel_rfl) ?_
  conv=>whnf
  refine⟨by show k+1+1≤16777216;omega,fun x y hx hy=>one_poly (k:=k+2) (v:=P (k+1)) hx hy,?_⟩
  conv=>whnf
  exact⟨(),trivial,Weak.gen [some 0,some 1] rfl ⟨⟨_,rfl,rfl,rfl,rfl,rfl,fun x y hx hy => .inl ⟨_,_,rfl,rfl,fun _ _ _ _=>rfl⟩⟩,⟨_,rfl,rfl,rfl,rfl,rfl,fun x y hx hy=>poly_app (k:=k+1) (v:=P (k+1)) (fun _ _=>rfl) hx hy⟩,trivial⟩ ⟨⟨_,rfl,rfl,rfl⟩,⟨_,rfl,rfl,rfl⟩,⟨_,rfl,rfl,rfl⟩,⟨_,rfl,rfl⟩,⟨_,rfl,rfl⟩,trivial⟩⟩
 refine swp_seq E1_ok mixed (by kernel_rfl) ?_
 conv=>whnf
 refine⟨i64_range (by omega) (by omega),?_⟩
 conv=>whnf
 refine⟨(fun i:Nat=>gst [(5,.c (.gs 0 0)),(6,.c (.gs 1 0)),(22,.c (.gs 0 0)),(23,.c (.int .i64 ((n:Nat):Int))),(24,.c (.int .i64 ((k:Nat):Int))),(7,.c (.int .i64 ((k:Nat):Int))),(8,.c (nql (k+2) (N k i))),(9,.c (.p 2 0 4 0 0)),(10,.c (.int .i64 ((i:Int)-1)))] [gR n H,gL (k+1) P,⟨38,4,1,boxF (nq (D i k))⟩]) k,Weak.gen [some 0,some 1,some 2] rfl ⟨⟨_,rfl,rfl,rfl,rfl,rfl,fun x y hx hy => .inl ⟨_,_,rfl,rfl,fun _ _ _ _=>rfl⟩⟩,⟨_,rfl,rfl,rfl,rfl,rfl,fun x y hx hy=>poly_keep⟩,box_eq (hds k).symm,trivial⟩ ⟨⟨_,rfl,rfl,rfl⟩,⟨_,rfl,rfl,rfl⟩,⟨_,rfl,rfl,rfl⟩,⟨_,rfl,rfl⟩,⟨_,rfl,rfl⟩,⟨_,rfl,rfl⟩,.inl ⟨_,_,rfl,rfl,fun _ _ _ _=>rfl⟩,⟨_,rfl,rfl,rfl⟩,⟨_,rfl,rfl⟩,trivial⟩,?_⟩
 refine swp_block (swp_loop (fun i:Nat=>gst [(5,.c (.gs 0 0)),(6,.c (.gs 1 0)),(22,.c (.gs 0 0)),(23,.c (.int .i64 ((n:Nat):Int))),(24,.c (.int .i64 ((k:Nat):Int))),(7,.c (.int .i64 ((k:Nat):Int))),(8,.c (nql (k+2) (N k i))),(9,.c (.p 2 0 4 0 0)),(10,.c (.int .i64 ((i:Int)-1)))] [gR n H,gL (k+1) P,⟨38,4,1,boxF (nq (D i k))⟩]) (fun i=>i) (fun i=>i≤k) k (Weak.refl _) (Nat.le_refl k) fun i hi=>?_)
 cases i with
 | zero =>
  refine swp_of E1_ok mixed (by kernel_rfl) ?_
  conv=>whnf
  exact⟨(),trivial,Weak.gen [some 0,some 1] rfl ⟨⟨_,rfl,rfl,rfl,rfl,rfl,fun x y hx hy => .inl ⟨_,_,rfl,rfl,fun _ _ _ _=>rfl⟩⟩,⟨_,rfl,rfl,rfl,rfl,rfl,fun x y hx hy=>poly_keep⟩,trivial⟩ ⟨⟨_,rfl,rfl,rfl⟩,⟨_,rfl,rfl,rfl⟩,⟨_,rfl,rfl,rfl⟩,⟨_,rfl,rfl⟩,⟨_,rfl,rfl⟩,⟨_,rfl,rfl⟩,reg_nql fun x _=>hnl k x,trivial⟩⟩
 | succ q =>
  have hq:q<k:=by have hi:q+1≤k:=hi;omega
  have hc2:=hc2 q hk hq
  have hs2:=hs2 q hk hq
  have hm1:=hm1 q hk hq
  have hm2:=hm2 q hk hq
  have hnz:=hnz q hk hq
  have hbr:=fun h0 x=>hbr q k x h0 (Nat.le_of_lt hq)
  have j3:(0:Int)≤(q:Int)+1:=by omega
  have j4:(q:Int)+1<(n:Int):=by omega
  have j5:(0:Int)≤(q:Int):=by omega
  have j6:(q:Int)<(n:Int):=by omega
  have j7:(q:Int)<((k+1:Nat):Int):=by omega
  refine swp_seq E1_ok mixed (by kernel_rfl) ?_
  conv=>whnf
  refine bpos (show decide ((0:Int)≤((q+1:Nat):Int)-1)=true from decide_eq_true (by omega)) ?_
  conv=>whnf
  refine⟨gst [(5,.c (.gs 0 0)),(6,.c (.gs 1 0)),(22,.c (.gs 0 0)),(23,.c (.int .i64 ((n:Nat):Int))),(24,.c (.int .i64 ((k:Nat):Int))),(7,.c (.int .i64 ((k:Nat):Int))),(8,.c (nql (k+2) (N k (q+1)))),(9,.c (.p 2 0 4 0 0)),(10,.c (.int .i64 ((q:Nat):Int)))] [gR n H,gL (k+1) P,⟨38,4,1,boxF (nq (D (q+1) k))⟩],Weak.gen [some 0,some 1,some 2] rfl ⟨⟨_,rfl,rfl,rfl,rfl,rfl,fun x y hx hy => .inl ⟨_,_,rfl,rfl,fun _ _ _ _=>rfl⟩⟩,⟨_,rfl,rfl,rfl,rfl,rfl,fun x y hx hy=>poly_keep⟩,Rf.boxK rfl rfl,trivial⟩ ⟨⟨_,rfl,rfl,rfl⟩,⟨_,rfl,rfl,rfl⟩,⟨_,rfl,rfl,rfl⟩,⟨_,rfl,rfl⟩,⟨_,rfl,rfl⟩,⟨_,rfl,rfl⟩,.inl ⟨_,_,rfl,rfl,fun _ _ _ _=>rfl⟩,⟨_,rfl,rfl,rfl⟩,⟨_,rfl,by omega⟩,trivial⟩,?_⟩
  refine swp_mid (fun _:Unit=>gst [(5,.c (.gs 0 0)),(6,.c (.gs 1 0)),(22,.c (.gs 0 0)),(23,.c (.int .i64 ((n:Nat):Int))),(24,.c (.int .i64 ((k:Nat):Int))),(7,.c (.int .i64 ((k:Nat):Int))),(8,.c (nql (k+2) (N k q))),(9,.c (.p 2 0 4 0 0)),(10,.c (.int .i64 ((q:Nat):Int)))] [gR n H,gL (k+1) P,⟨38,4,1,boxF (nq (D q k))⟩]) (fun _=>True) ?_ fun _ _=>?_
  rotate_left
  ·refine swp_of E1_ok mixed (by kernel_rfl) ?_
   conv=>whnf
   refine⟨i64_range (by omega) (by omega),?_⟩
   conv=>whnf
   exact⟨q,Nat.lt_succ_self q,Weak.gen [some 0,some 1,some 2] rfl ⟨⟨_,rfl,rfl,rfl,rfl,rfl,fun x y hx hy => .inl ⟨_,_,rfl,rfl,fun _ _ _ _=>rfl⟩⟩,⟨_,rfl,rfl,rfl,rfl,rfl,fun x y hx hy=>poly_keep⟩,Rf.boxK rfl rfl,trivial⟩ ⟨⟨_,rfl,rfl,rfl⟩,⟨_,rfl,rfl,rfl⟩,⟨_,rfl,rfl,rfl⟩,⟨_,rfl,rfl⟩,⟨_,rfl,rfl⟩,⟨_,rfl,rfl⟩,.inl ⟨_,_,rfl,rfl,fun _ _ _ _=>rfl⟩,⟨_,rfl,rfl,rfl⟩,⟨_,rfl,rfl⟩,trivial⟩,Nat.le_of_lt hq⟩
  refine swp_block ?_
  refine swp_seq E1_ok mixed (by kernel_rfl) ?_
  conv=>whnf
  repeat (refine⟨by first | exact j0 | exact j1 | exact j2 | exact j3 | exact j4 | exact j5 | exact j6 | exact j7 | exact i64_range (by omega) (by omega),?_⟩;conv=>whnf)
  refine⟨_,hm1,?_⟩
  conv=>whnf
  refine⟨gst [(5,.c (.gs 0 0)),(6,.c (.gs 1 0)),(22,.c (.gs 0 0)),(23,.c (.int .i64 ((n:Nat):Int))),(24,.c (.int .i64 ((k:Nat):Int))),(7,.c (.int .i64 ((k:Nat):Int))),(8,.c (nql (k+2) (N k (q+1)))),(9,.c (.p 2 0 4 0 0)),(10,.c (.int .i64 ((q:Nat):Int)))] [gR n H,gL (k+1) P,⟨38,4,1,boxF (nq (D q k))⟩],Weak.gen [some 0,some 1,some 2] rfl ⟨⟨_,rfl,rfl,rfl,rfl,rfl,fun x y hx hy => .inl ⟨_,_,rfl,rfl,fun _ _ _ _=>rfl⟩⟩,⟨_,rfl,rfl,rfl,rfl,rfl,fun x y hx hy=>poly_keep⟩,Rf.boxU rfl rfl rfl,trivial⟩ ⟨⟨_,rfl,rfl,rfl⟩,⟨_,rfl,rfl,rfl⟩,⟨_,rfl,rfl,rfl⟩,⟨_,rfl,rfl⟩,⟨_,rfl,rfl⟩,⟨_,rfl,rfl⟩,.inl ⟨_,_,rfl,rfl,fun _ _ _ _=>rfl⟩,⟨_,rfl,rfl,rfl⟩,⟨_,rfl,rfl⟩,trivial⟩,?_⟩
  refine swp_seq E1_ok mixed (by kernel_rfl) ?_
  conv=>whnf
  refine⟨_,hnz,?_⟩
  conv=>whnf
  refine bcase (fun(h:(!decide (D q k≠0))=true)=>?_) fun(h:(!decide (D q k≠0))=false)=>?_
  ·have h0:D q k=0:=by simpa using h
   conv=>whnf
   exact⟨(),trivial,Weak.gen [some 0,some 1] rfl ⟨⟨_,rfl,rfl,rfl,rfl,rfl,fun x y hx hy => .inl ⟨_,_,rfl,rfl,fun _ _ _ _=>rfl⟩⟩,⟨_,rfl,rfl,rfl,rfl,rfl,fun x y hx hy=>poly_keep⟩,trivial⟩ ⟨⟨_,rfl,rfl,rfl⟩,⟨_,rfl,rfl,rfl⟩,⟨_,rfl,rfl,rfl⟩,⟨_,rfl,rfl⟩,⟨_,rfl,rfl⟩,⟨_,rfl,rfl⟩,reg_nql fun x _=>hbr h0 x,trivial⟩⟩
  conv=>whnf
  refine⟨gst [(5,.c (.gs 0 0)),(6,.c (.gs 1 0)),(22,.c (.gs 0 0)),(23,.c (.int .i64 ((n:Nat):Int))),(24,.c (.int .i64 ((k:Nat):Int))),(7,.c (.int .i64 ((k:Nat):Int))),(8,.c (nql (k+2) (N k (q+1)))),(9,.c (.p 2 0 4 0 0)),(10,.c (.int .i64 ((q:Nat):Int)))] [gR n H,gL (k+1) P,⟨38,4,1,boxF (nq (D q k))⟩],Weak.gen [some 0,some 1,some 2] rfl ⟨⟨_,rfl,rfl,rfl,rfl,rfl,fun x y hx hy => .inl ⟨_,_,rfl,rfl,fun _ _ _ _=>rfl⟩⟩,⟨_,rfl,rfl,rfl,rfl,rfl,fun x y hx hy=>poly_keep⟩,Rf.boxK rfl rfl,trivial⟩ ⟨⟨_,rfl,rfl,rfl⟩,⟨_,rfl,rfl,rfl⟩,⟨_,rfl,rfl,rfl⟩,⟨_,rfl,rfl⟩,⟨_,rfl,rfl⟩,⟨_,rfl,rfl⟩,.inl ⟨_,_,rfl,rfl,fun _ _ _ _=>rfl⟩,⟨_,rfl,rfl,rfl⟩,⟨_,rfl,rfl⟩,trivial⟩,?_⟩
  refine swp_of E1_ok mixed (by kernel_rfl) ?_
  conv=>whnf
  repeat (refine⟨by first | exact j0 | exact j1 | exact j2 | exact j3 | exact j4 | exact j5 | exact j6 | exact j7 | exact i64_range (by omega) (by omega),?_⟩;conv=>whnf)
  refine⟨_,hm2,?_⟩
  conv=>whnf
  repeat (refine⟨by first | exact j0 | exact j1 | exact j2 | exact j3 | exact j4 | exact j5 | exact j6 | exact j7 | exact i64_range (by omega) (by omega),?_⟩;conv=>whnf)
  refine⟨_,hc2,?_⟩
  conv=>whnf
  refine⟨_,hs2,?_⟩
  conv=>whnf
  exact⟨(),trivial,Weak.gen [some 0,some 1,some 2] rfl ⟨⟨_,rfl,rfl,rfl,rfl,rfl,fun x y hx hy => .inl ⟨_,_,rfl,rfl,fun _ _ _ _=>rfl⟩⟩,⟨_,rfl,rfl,rfl,rfl,rfl,fun x y hx hy=>poly_keep⟩,Rf.boxK rfl rfl,trivial⟩ ⟨⟨_,rfl,rfl,rfl⟩,⟨_,rfl,rfl,rfl⟩,⟨_,rfl,rfl,rfl⟩,⟨_,rfl,rfl⟩,⟨_,rfl,rfl⟩,⟨_,rfl,rfl⟩,.inl ⟨_,_,rfl,rfl,fun _ _ _ _=>rfl⟩,⟨_,rfl,rfl,rfl⟩,⟨_,rfl,rfl⟩,trivial⟩⟩
theorem pb8 (K n:Nat):8*K≤PB K n:=by
 unfold PB
 exact Nat.mul_le_mul_right K (Nat.le_mul_of_pos_right 8 (Nat.pow_pos (by omega)))
theorem charpoly_ok {n:Nat} {p:Nat->RawR} {A:Nat->Nat->Rat} {L:Nat} (hn:n≤5) (hfit:∀ k,k<n*n->(p k).Fit L) (h1:1≤L) (hA:∀ i j,i<n->j<n->(p (i*n+j)).val=A i j) (hL:4*PB (KB n L) n+64≤LIM):FnOK Tryz.prog true 10 [.g (rmat n n p)] (.t2 (.c (nql (n+1) (hp (wd (hsn n A)) n).f)) (.c (.int .i64 0))):=by
 have hB:Bq n L A:=fun i j hi hj=>by
  rw[← hA i j hi hj]
  exact(hfit _ (mat_idx hi hj).1).qlen h1
 have hK:1≤KB n L:=KB_pos h1
 have hH:Bq n (KB n L) (hsn n A):=fun i j hi hj=>hs_kb hB h1 (show n-1+1≤n by omega) i j hi hj
 have hC:=ch_of hn hK hH
 have h8:=pb8 (KB n L) n
 have h:=charpoly_ch (W:=wd (hsn n A)) (D:=dd (hsn n A)) (P:=fun k=>(hp (wd (hsn n A)) k).f) (N:=nx (wd (hsn n A))) (Bd:=PB (KB n L) n) hn hfit h1 hA hB h8 hL hC
 exact h
end Mx
end Go.Proofs.YtkmbnldginonbaaGreat
/- The document's places and traces of a matrix. -/
namespace Go.Proofs.YtkmbnldginonbaaGreat
open Go.RowKit
namespace Mx
open Rf
set_option maxHeartbeats 4000000 in
theorem rat_at {n m i j:Nat} {q:Nat->RawR} {x:Rat} (hn:n≤64) (hm:m≤64) (hi:i<n) (hj:j<m) (hw:wq (q (i*m+j))) (hx:(q (i*m+j)).val=x):FnOK Tryz.prog false 54 [.g (rmat n m q),.c (.int .i64 (i:Nat)),.c (.int .i64 (j:Nat))] (.g (nq x)):=by
 have hidx:=(mat_idx hi hj).1
 have e:(i:Int)*(m:Int)+(j:Int)=((i*m+j:Nat):Int):=by rw[Int.natCast_add,Int.natCast_mul]
 have hb:n*m≤4096:=Nat.le_trans (Nat.mul_le_mul hn hm) (by decide)
 have hb1:(i:Int)*(m:Int)=((i*m:Nat):Int):=(Int.natCast_mul i m).symm
 have k:FnOK Tryz.prog false 102 [.g (rr (q ((i:Int)*(m:Int)+(j:Int)).toNat))] (.g (nq x)):=by
  rw[e,Int.toNat_natCast,← hx]
  exact rqnormal_ok hw
 have j0:(0:Int)≤(i:Int)*(m:Int)+(j:Int):=by omega
 have j1:(i:Int)*(m:Int)+(j:Int)<((n*m:Nat):Int):=by omega
 have j2:inR .i64 ((i:Int)*(m:Int)):=i64_range (by omega) (by omega)
 have j3:inR .i64 ((i:Int)*(m:Int)+(j:Int)):=i64_range (by omega) (by omega)
 refine fn_ok (E:=E0) E0_ok Tryz.func54 rfl mixed (by kernel_rfl) (by kernel_rfl) ?_
 conv=>whnf
 repeat (refine⟨by first | exact j0 | exact j1 | exact j2 | exact j3,?_⟩;conv=>whnf)
 refine⟨_,k,?_⟩
 conv=>whnf
 exact⟨rfl,Sub.refl _⟩
set_option maxHeartbeats 8000000 in
theorem rat_trace {n:Nat} {q:Nat->RawR} {G:Nat->Rat} (hn:n≤64) (hw:∀ i,i<n->wq (q (i*n+i))) (hG:∀ i,i<n->(q (i*n+i)).val=G i) (hq:∀ i,i<n->qlen (G i)≤65535) (hs:∀ i,i≤n->qlen (Crg.sm G i)≤65535):FnOK Tryz.prog false 13 [.g (rmat n n q)] (.g (nq (Crg.sm G n))):=by
 have k0:=rqof_zero
 have k1:=fun i (hi:i<n)=>rat_at (n:=n) (m:=n) (q:=q) hn hn hi hi (hw i hi) (hG i hi)
 have k2:=fun i (hi:i<n)=>rqadd_n (x:=Crg.sm G i) (y:=G i) (Nat.le_trans (hs i (by omega)) (by decide)) (Nat.le_trans (hq i hi) (by decide))
 refine fn_okS (E:=E0) E0_ok Tryz.func13 rfl (by kernel_rfl) ?_
 refine swp_seq E0_ok mixed (by kernel_rfl) ?_
 conv=>whnf
 refine⟨gst [(1,.c (.p 0 0 3 0 0)),(2,.c (.p 1 0 4 0 0))] [⟨24,3,1,boxF (rmat n n q)⟩,⟨38,4,1,boxF zcells⟩],Weak.gen [some 0,some 1] rfl ⟨boxK rfl rfl,boxK rfl rfl,trivial⟩ ⟨⟨_,rfl,rfl,rfl⟩,⟨_,rfl,rfl,rfl⟩,trivial⟩,?_⟩
 refine swp_seq E0_ok mixed (by kernel_rfl) ?_
 conv=>whnf
 refine⟨_,k0,?_⟩
 conv=>whnf
 refine⟨gst [(1,.c (.p 0 0 3 0 0)),(2,.c (.p 1 0 4 0 0)),(3,.c (.p 2 0 4 0 0))] [⟨24,3,1,boxF (rmat n n q)⟩,⟨38,4,1,boxF zcells⟩,⟨38,4,1,boxF (nq 0)⟩],Weak.gen [some 0,some 1,some 2] rfl ⟨boxK rfl rfl,boxK rfl rfl,boxU rfl rfl rfl,trivial⟩ ⟨⟨_,rfl,rfl,rfl⟩,⟨_,rfl,rfl,rfl⟩,⟨_,rfl,rfl,rfl⟩,trivial⟩,?_⟩
 refine swp_mid (fun _:Unit=>gst [(2,.c (.p 0 0 4 0 0)),(3,.c (.p 1 0 4 0 0))] [⟨38,4,1,boxF zcells⟩,⟨38,4,1,boxF (nq (Crg.sm G n))⟩]) (fun _=>True) ?_ fun _ _=>?_
 rotate_left
 ·refine swp_of E0_ok mixed (by kernel_rfl) ?_
  conv=>whnf
  exact⟨rfl,Sub.refl _⟩
 refine swp_seq E0_ok mixed (by kernel_rfl) ?_
 conv=>whnf
 refine⟨(fun i:Nat=>gst [(1,.c (.p 0 0 3 0 0)),(2,.c (.p 1 0 4 0 0)),(3,.c (.p 2 0 4 0 0)),(4,.c (.int .i64 ((i:Nat):Int)))] [⟨24,3,1,boxF (rmat n n q)⟩,⟨38,4,1,boxF zcells⟩,⟨38,4,1,boxF (nq (Crg.sm G i))⟩]) 0,Weak.gen [some 0,some 1,some 2] rfl ⟨boxK rfl rfl,boxK rfl rfl,boxK rfl rfl,trivial⟩ ⟨⟨_,rfl,rfl,rfl⟩,⟨_,rfl,rfl,rfl⟩,⟨_,rfl,rfl,rfl⟩,⟨_,rfl,rfl⟩,trivial⟩,?_⟩
 refine swp_block (swp_loop (fun i:Nat=>gst [(1,.c (.p 0 0 3 0 0)),(2,.c (.p 1 0 4 0 0)),(3,.c (.p 2 0 4 0 0)),(4,.c (.int .i64 ((i:Nat):Int)))] [⟨24,3,1,boxF (rmat n n q)⟩,⟨38,4,1,boxF zcells⟩,⟨38,4,1,boxF (nq (Crg.sm G i))⟩]) (fun i=>n-i) (fun i=>i≤n) 0 (Weak.refl _) (Nat.zero_le _) fun i hi=>?_)
 rcases Nat.lt_or_ge i n with h | h
 ·have k1:=k1 i h
  have k2:=k2 i h
  refine swp_of E0_ok mixed (by kernel_rfl) ?_
  conv=>whnf
  refine bpos (show decide ((i:Int)<(n:Int))=true from decide_eq_true (by omega)) ?_
  conv=>whnf
  refine⟨_,k1,?_⟩
  conv=>whnf
  refine⟨_,k2,?_⟩
  conv=>whnf
  refine⟨i64_range (by omega) (by omega),?_⟩
  conv=>whnf
  exact⟨i+1,by omega,Weak.gen [some 0,some 1,some 2] rfl ⟨boxK rfl rfl,boxK rfl rfl,boxU rfl rfl rfl,trivial⟩ ⟨⟨_,rfl,rfl,rfl⟩,⟨_,rfl,rfl,rfl⟩,⟨_,rfl,rfl,rfl⟩,⟨_,rfl,rfl⟩,trivial⟩,h⟩
 ·obtain rfl:i=n:=by have hi:i≤n:=hi;omega
  refine swp_of E0_ok mixed (by kernel_rfl) ?_
  conv=>whnf
  refine bneg (show decide ((i:Int)<(i:Int))=false from decide_eq_false (by omega)) ?_
  conv=>whnf
  exact⟨(),trivial,Weak.gen [some 1,some 2] rfl ⟨boxK rfl rfl,boxK rfl rfl,trivial⟩ ⟨⟨_,rfl,rfl,rfl⟩,⟨_,rfl,rfl,rfl⟩,trivial⟩⟩
end Mx
end Go.Proofs.YtkmbnldginonbaaGreat
/- The program's power sums of a monic polynomial. -/
namespace Go.Proofs.YtkmbnldginonbaaGreat
open Go.RowKit
namespace Mx
open Rf
theorem norm_mon {n:Nat} {c:Nat->Rat} {L:Nat} (hn:n≤64) (hc:∀ i,i<n+1->qlen (c i)≤L) (hL:L+3≤LIM) (ht:c n≠0):FnOK Tryz.prog true 48 [.c (nql (n+1) c)] (.c (nql (n+1) c)):=by
 have h:=qnorm_ok (n:=n+1) (q:=fun i=>ofR (c i)) (L:=L) (v:=c) (funext fun i=>ofR_val _) (by omega) (fun i hi=>ofR_fit (hc i hi)) hL
 rwa [Q.tq_self (v:=c) (n:=n+1) (fun k hk=>by rw[show k=n by omega];exact ht)]at h
set_option maxHeartbeats 8000000 in
theorem monic_ok {n:Nat} {c:Nat->Rat} {L:Nat} (hn:n≤64) (hc:∀ i,i<n+1->qlen (c i)≤L) (hL:L+8≤LIM) (ht:c n=1):FnOK Tryz.prog true 49 [.c (nql (n+1) c)] (.c (nql (n+1) c)):=by
 have k1:=q1_ok
 have k2:FnOK Tryz.prog true 59 [.g (nq 1),.g (nq (c (((n+1:Nat):Int)-1).toNat))] (.t2 (.g (nq 1)) (.c (.int .i64 0))):=by
  rw[show(((n+1:Nat):Int)-1).toNat=n by omega,ht]
  exact div_one_ok 1 (L:=1) q_one (by decide)
 have k3:FnOK Tryz.prog true 44 [.c (nql (n+1) c),.g (nq 1)] (.c (nql (n+1) c)):=by
  have h:=scale_step (m:=n+1) (F:=c) (w:=1) (L:=L) (L':=1) (by omega) hc q_one (by omega)
  have e:(fun i=>c i*1)=c:=funext fun i=>Rat.mul_one _
  rw[e,Q.tq_self (v:=c) (n:=n+1) (fun k hk=>by rw[show k=n by omega,ht];decide)]at h
  exact h
 have j0:(0:Int)≤((n+1:Nat):Int)-1:=by omega
 have j1:((n+1:Nat):Int)-1<((n+1:Nat):Int):=by omega
 refine fn_ok (E:=E1) E1_ok Tryz.func49 rfl mixed (by kernel_rfl) (by kernel_rfl) ?_
 conv=>whnf
 refine⟨_,k1,?_⟩
 conv=>whnf
 refine⟨i64_range (by omega) (by omega),?_⟩
 conv=>whnf
 repeat (refine⟨by first | exact j0 | exact j1,?_⟩;conv=>whnf)
 refine⟨_,k2,?_⟩
 conv=>whnf
 refine⟨_,k3,?_⟩
 conv=>whnf
 exact⟨rfl,Sub.refl _⟩
def ac (n : Nat) (c s : Nat → Rat) (k : Nat) : Nat → Rat
 | 0=>0
 | t+1=>ac n c s k t-c (n-(t+1))*s (k-(t+1))

set_option maxHeartbeats 32000000 in
theorem psums_ok {n:Nat} {c s:Nat->Rat} {L:Nat} (hn:n≤60) (h1:1≤L) (hL:4*L+64≤LIM) (hc:∀ i,qlen (c i)≤L) (hs:∀ k,qlen (s k)≤L) (hac:∀ k t,1≤k->k≤6->t≤min (k-1) n->qlen (ac n c s k t)≤L) (ht:c n=1) (hS:∀ k,1≤k->k≤6->s k=ac n c s k (min (k-1) n)-(if k≤n then(k:Rat)*c (n-k)else 0)):FnOK Tryz.prog true 11 [.c (nql (n+1) c),.c (.int .i64 6)] (.t2 (.c (nql 6 fun j=>s (j+1))) (.c (.int .i64 0))):=by
 have k1:=norm_mon (n:=n) (c:=c) (L:=L) (by omega) (fun i _=>hc i) (by omega) (by rw[ht];decide)
 have k2:=monic_ok (n:=n) (c:=c) (L:=L) (by omega) (fun i _=>hc i) (by omega) ht
 have k3:FnOK Tryz.prog true 45 [.c (.int .i64 0)] (.g (nq 0)):=qof0
 have k4:∀ k:Nat,k≤6->FnOK Tryz.prog true 45 [.c (.int .i64 (k:Nat))] (.g (nq ((k:Nat):Rat))):=fun k hk=>qof_ok (n:=(k:Nat)) (by omega) (by omega)
 have m1:=fun k t=>qmul_n (x:=c (n-(t+1))) (y:=s (k-(t+1))) (z:=c (n-(t+1))*s (k-(t+1))) (hc _) (hs _) (by omega) rfl
 refine fn_okS (E:=E1) E1_ok Tryz.func11 rfl (by kernel_rfl) ?_
 refine swp_seq E1_ok mixed (by kernel_rfl) ?_
 conv=>whnf
 refine⟨gst [(0,.c (nql (n+1) c)),(1,.c (.int .i64 6))] [],Weak.gen [] rfl trivial ⟨.inl ⟨_,_,rfl,rfl,fun _ _ _ _=>rfl⟩,⟨_,rfl,rfl⟩,trivial⟩,?_⟩
 refine swp_seq E1_ok mixed (by kernel_rfl) ?_
 conv=>whnf
 refine .inr ?_
 conv=>whnf
 refine⟨_,k1,?_⟩
 conv=>whnf
 refine⟨gst [(0,.c (nql (n+1) c)),(1,.c (.int .i64 6))] [],Weak.gen [] rfl trivial ⟨.inl ⟨_,_,rfl,rfl,fun _ _ _ _=>rfl⟩,⟨_,rfl,rfl⟩,trivial⟩,?_⟩
 refine swp_seq0 E1_ok mixed (by kernel_rfl) ?_
 conv=>whnf
 refine swp_seq0 E1_ok mixed (by kernel_rfl) ?_
 conv=>whnf
 refine swp_seq E1_ok mixed (by kernel_rfl) ?_
 conv=>whnf
 refine⟨_,k2,?_⟩
 conv=>whnf
 refine⟨gst [(0,.c (nql (n+1) c)),(1,.c (.int .i64 6))] [],Weak.gen [] rfl trivial ⟨.inl ⟨_,_,rfl,rfl,fun _ _ _ _=>rfl⟩,⟨_,rfl,rfl⟩,trivial⟩,?_⟩
 refine swp_seq E1_ok mixed (by kernel_rfl) ?_
 conv=>whnf
 refine⟨i64_range (by omega) (by omega),?_⟩
 conv=>whnf
 refine⟨gst [(0,.c (nql (n+1) c)),(1,.c (.int .i64 6)),(6,.c (.int .i64 ((n:Nat):Int)))] [],Weak.gen [] rfl trivial ⟨.inl ⟨_,_,rfl,rfl,fun _ _ _ _=>rfl⟩,⟨_,rfl,rfl⟩,⟨_,rfl,by omega⟩,trivial⟩,?_⟩
 refine swp_seq E1_ok mixed (by kernel_rfl) ?_
 conv=>whnf
 refine⟨gst [(0,.c (nql (n+1) c)),(1,.c (.int .i64 6)),(6,.c (.int .i64 ((n:Nat):Int))),(7,.c (.gs 0 0))] [⟨38,4,0,qlF fun j=>ofR (s (j+1))⟩],Weak.gen [none] rfl ⟨rfl,trivial⟩ ⟨.inl ⟨_,_,rfl,rfl,fun _ _ _ _=>rfl⟩,⟨_,rfl,rfl⟩,⟨_,rfl,rfl⟩,rfl,trivial⟩,?_⟩
 refine swp_mid (fun _:Unit=>gst [(0,.c (nql (n+1) c)),(1,.c (.int .i64 6)),(6,.c (.int .i64 ((n:Nat):Int))),(7,.c (.gs 0 0))] [⟨38,4,6,qlF fun j=>ofR (s (j+1))⟩]) (fun _=>True) ?_ fun _ _=>?_
 rotate_left
 ·refine swp_of E1_ok mixed (by kernel_rfl) ?_
  conv=>whnf
  refine⟨fun i j _ _=>q_clos (fun j=>s (j+1)) i j,?_⟩
  conv=>whnf
  exact⟨rfl,Sub.refl _⟩
 refine swp_seq E1_ok mixed (by kernel_rfl) ?_
 conv=>whnf
 refine⟨(fun κ:Nat=>gst [(0,.c (nql (n+1) c)),(1,.c (.int .i64 6)),(6,.c (.int .i64 ((n:Nat):Int))),(7,.c (.gs 0 0)),(8,.c (.int .i64 ((κ+1:Nat):Int)))] [⟨38,4,κ,qlF fun j=>ofR (s (j+1))⟩]) 0,Weak.gen [some 0] rfl ⟨⟨_,rfl,rfl,rfl,rfl,rfl,fun x y hx hy=>row_keep rfl⟩,trivial⟩ ⟨.inl ⟨_,_,rfl,rfl,fun _ _ _ _=>rfl⟩,⟨_,rfl,rfl⟩,⟨_,rfl,rfl⟩,⟨_,rfl,rfl,rfl⟩,⟨_,rfl,rfl⟩,trivial⟩,?_⟩
 refine swp_block (swp_loop (fun κ:Nat=>gst [(0,.c (nql (n+1) c)),(1,.c (.int .i64 6)),(6,.c (.int .i64 ((n:Nat):Int))),(7,.c (.gs 0 0)),(8,.c (.int .i64 ((κ+1:Nat):Int)))] [⟨38,4,κ,qlF fun j=>ofR (s (j+1))⟩]) (fun κ=>6-κ) (fun κ=>κ≤6) 0 (Weak.refl _) (by decide) fun κ hκ6=>?_)
 rcases Nat.lt_or_ge κ 6 with hκ | hκ
 rotate_left
 ·obtain rfl:κ=6:=by have hκ6:κ≤6:=hκ6;omega
  refine swp_of E1_ok mixed (by kernel_rfl) ?_
  conv=>whnf
  exact⟨(),trivial,Weak.gen [some 0] rfl ⟨⟨_,rfl,rfl,rfl,rfl,rfl,fun x y hx hy=>row_keep rfl⟩,trivial⟩ ⟨.inl ⟨_,_,rfl,rfl,fun _ _ _ _=>rfl⟩,⟨_,rfl,rfl⟩,⟨_,rfl,rfl⟩,⟨_,rfl,rfl,rfl⟩,trivial⟩⟩
 refine swp_seq E1_ok mixed (by kernel_rfl) ?_
 conv=>whnf
 refine bpos (show decide (((κ+1:Nat):Int)≤6)=true from decide_eq_true (by omega)) ?_
 conv=>whnf
 refine⟨gst [(0,.c (nql (n+1) c)),(1,.c (.int .i64 6)),(6,.c (.int .i64 ((n:Nat):Int))),(7,.c (.gs 0 0)),(8,.c (.int .i64 ((κ+1:Nat):Int)))] [⟨38,4,κ,qlF fun j=>ofR (s (j+1))⟩],Weak.gen [some 0] rfl ⟨⟨_,rfl,rfl,rfl,rfl,rfl,fun x y hx hy=>row_keep rfl⟩,trivial⟩ ⟨.inl ⟨_,_,rfl,rfl,fun _ _ _ _=>rfl⟩,⟨_,rfl,rfl⟩,⟨_,rfl,rfl⟩,⟨_,rfl,rfl,rfl⟩,⟨_,rfl,rfl⟩,trivial⟩,?_⟩
 refine swp_mid (fun _:Unit=>gst [(0,.c (nql (n+1) c)),(1,.c (.int .i64 6)),(6,.c (.int .i64 ((n:Nat):Int))),(7,.c (.gs 0 0)),(8,.c (.int .i64 ((κ+1:Nat):Int)))] [⟨38,4,κ+1,qlF fun j=>ofR (s (j+1))⟩]) (fun _=>True) ?_ fun _ _=>?_
 rotate_left
 ·refine swp_of E1_ok mixed (by kernel_rfl) ?_
  conv=>whnf
  refine⟨i64_range (by omega) (by omega),?_⟩
  conv=>whnf
  exact⟨κ+1,by omega,Weak.gen [some 0] rfl ⟨⟨_,rfl,rfl,rfl,rfl,rfl,fun x y hx hy=>row_keep rfl⟩,trivial⟩ ⟨.inl ⟨_,_,rfl,rfl,fun _ _ _ _=>rfl⟩,⟨_,rfl,rfl⟩,⟨_,rfl,rfl⟩,⟨_,rfl,rfl,rfl⟩,⟨_,rfl,rfl⟩,trivial⟩,by omega⟩
 refine swp_block ?_
 refine swp_seq E1_ok mixed (by kernel_rfl) ?_
 conv=>whnf
 refine⟨_,k3,?_⟩
 conv=>whnf
 refine⟨gst [(0,.c (nql (n+1) c)),(1,.c (.int .i64 6)),(6,.c (.int .i64 ((n:Nat):Int))),(7,.c (.gs 0 0)),(8,.c (.int .i64 ((κ+1:Nat):Int))),(9,.c (.p 1 0 4 0 0))] [⟨38,4,κ,qlF fun j=>ofR (s (j+1))⟩,⟨38,4,1,boxF (nq (0))⟩],Weak.gen [some 0,some 1] rfl ⟨⟨_,rfl,rfl,rfl,rfl,rfl,fun x y hx hy=>row_keep rfl⟩,Rf.boxU rfl rfl rfl,trivial⟩ ⟨.inl ⟨_,_,rfl,rfl,fun _ _ _ _=>rfl⟩,⟨_,rfl,rfl⟩,⟨_,rfl,rfl⟩,⟨_,rfl,rfl,rfl⟩,⟨_,rfl,rfl⟩,⟨_,rfl,rfl,rfl⟩,trivial⟩,?_⟩
 have m2:=fun t (h:t+1≤min κ n)=>qsub_n (x:=ac n c s (κ+1) t) (y:=c (n-(t+1))*s (κ+1-(t+1))) (z:=ac n c s (κ+1) (t+1)) (hac (κ+1) t (by omega) (by omega) (by omega)) (q_mul (hc _) (hs _) (by omega)) (by omega) (by omega) rfl
 have hSk:=hS (κ+1) (by omega) (by omega)
 have hacf:=hac (κ+1) (min κ n) (by omega) (by omega) (by omega)
 rw[Nat.add_sub_cancel]at hSk
 refine swp_mid (fun _:Unit=>gst [(0,.c (nql (n+1) c)),(1,.c (.int .i64 6)),(6,.c (.int .i64 ((n:Nat):Int))),(7,.c (.gs 0 0)),(8,.c (.int .i64 ((κ+1:Nat):Int))),(9,.c (.p 1 0 4 0 0))] [⟨38,4,κ,qlF fun j=>ofR (s (j+1))⟩,⟨38,4,1,boxF (nq (ac n c s (κ+1) (min κ n)))⟩]) (fun _=>True) ?_ fun _ _=>?_
 ·refine swp_seq E1_ok mixed (by kernel_rfl) ?_
  conv=>whnf
  refine⟨(fun t:Nat=>gst [(0,.c (nql (n+1) c)),(1,.c (.int .i64 6)),(6,.c (.int .i64 ((n:Nat):Int))),(7,.c (.gs 0 0)),(8,.c (.int .i64 ((κ+1:Nat):Int))),(9,.c (.p 1 0 4 0 0)),(10,.c (.int .i64 ((t+1:Nat):Int)))] [⟨38,4,κ,qlF fun j=>ofR (s (j+1))⟩,⟨38,4,1,boxF (nq (ac n c s (κ+1) t))⟩]) 0,Weak.gen [some 0,some 1] rfl ⟨⟨_,rfl,rfl,rfl,rfl,rfl,fun x y hx hy=>row_keep rfl⟩,Rf.boxK rfl rfl,trivial⟩ ⟨.inl ⟨_,_,rfl,rfl,fun _ _ _ _=>rfl⟩,⟨_,rfl,rfl⟩,⟨_,rfl,rfl⟩,⟨_,rfl,rfl,rfl⟩,⟨_,rfl,rfl⟩,⟨_,rfl,rfl,rfl⟩,⟨_,rfl,rfl⟩,trivial⟩,?_⟩
  refine swp_block (swp_loop (fun t:Nat=>gst [(0,.c (nql (n+1) c)),(1,.c (.int .i64 6)),(6,.c (.int .i64 ((n:Nat):Int))),(7,.c (.gs 0 0)),(8,.c (.int .i64 ((κ+1:Nat):Int))),(9,.c (.p 1 0 4 0 0)),(10,.c (.int .i64 ((t+1:Nat):Int)))] [⟨38,4,κ,qlF fun j=>ofR (s (j+1))⟩,⟨38,4,1,boxF (nq (ac n c s (κ+1) t))⟩]) (fun t=>min κ n-t) (fun t=>t≤min κ n) 0 (Weak.refl _) (Nat.zero_le _) fun t ht=>?_)
  have ht:t≤min κ n:=ht
  have m2:=m2 t
  have m1:=m1 (κ+1) t
  by_cases h1:t<κ
  rotate_left
  ·have e:t=min κ n:=by omega
   refine swp_of E1_ok mixed (by kernel_rfl) ?_
   conv=>whnf
   refine bneg (show gw true (decide (((t+1:Nat):Int)<((κ+1:Nat):Int)))=false by rw[decide_eq_false (by omega)];rfl) ?_
   conv=>whnf
   exact⟨(),trivial,Weak.gen [some 0,some 1] rfl ⟨⟨_,rfl,rfl,rfl,rfl,rfl,fun x y hx hy=>row_keep rfl⟩,box_eq (congrArg (ac n c s (κ+1)) e),trivial⟩ ⟨.inl ⟨_,_,rfl,rfl,fun _ _ _ _=>rfl⟩,⟨_,rfl,rfl⟩,⟨_,rfl,rfl⟩,⟨_,rfl,rfl,rfl⟩,⟨_,rfl,rfl⟩,⟨_,rfl,rfl,rfl⟩,trivial⟩⟩
  by_cases h2:t<n
  rotate_left
  ·have e:t=min κ n:=by omega
   refine swp_of E1_ok mixed (by kernel_rfl) ?_
   conv=>whnf
   refine bpos (show gw true (decide (((t+1:Nat):Int)<((κ+1:Nat):Int)))=true by rw[decide_eq_true (by omega)];rfl) ?_
   conv=>whnf
   refine bneg (show decide (((t+1:Nat):Int)≤(n:Int))=false from decide_eq_false (by omega)) ?_
   conv=>whnf
   exact⟨(),trivial,Weak.gen [some 0,some 1] rfl ⟨⟨_,rfl,rfl,rfl,rfl,rfl,fun x y hx hy=>row_keep rfl⟩,box_eq (congrArg (ac n c s (κ+1)) e),trivial⟩ ⟨.inl ⟨_,_,rfl,rfl,fun _ _ _ _=>rfl⟩,⟨_,rfl,rfl⟩,⟨_,rfl,rfl⟩,⟨_,rfl,rfl,rfl⟩,⟨_,rfl,rfl⟩,⟨_,rfl,rfl,rfl⟩,trivial⟩⟩
  have m2:=m2 (by omega)
  have e1:((n:Int)-((t+1:Nat):Int)).toNat=n-(t+1):=by omega
  have e2:(((κ+1:Nat):Int)-((t+1:Nat):Int)-1).toNat+1=κ+1-(t+1):=by omega
  have m1:FnOK Tryz.prog true 46 [.g (nq (c ((n:Int)-((t+1:Nat):Int)).toNat)),.g (nq (s ((((κ+1:Nat):Int)-((t+1:Nat):Int)-1).toNat+1)))] (.g (nq (c (n-(t+1))*s (κ+1-(t+1))))):=by
   rw[e1,e2]
   exact m1
  have j0:(0:Int)≤(n:Int)-((t+1:Nat):Int):=by omega
  have j1:(n:Int)-((t+1:Nat):Int)<((n+1:Nat):Int):=by omega
  have j2:(0:Int)≤((κ+1:Nat):Int)-((t+1:Nat):Int)-1:=by omega
  have j3:((κ+1:Nat):Int)-((t+1:Nat):Int)-1<(κ:Int):=by omega
  refine swp_of E1_ok mixed (by kernel_rfl) ?_
  conv=>whnf
  refine bpos (show gw true (decide (((t+1:Nat):Int)<((κ+1:Nat):Int)))=true by rw[decide_eq_true (by omega)];rfl) ?_
  conv=>whnf
  refine bpos (show decide (((t+1:Nat):Int)≤(n:Int))=true from decide_eq_true (by omega)) ?_
  conv=>whnf
  repeat (refine⟨by first | exact j0 | exact j1 | exact j2 | exact j3 | exact i64_range (by omega) (by omega),?_⟩;conv=>whnf)
  refine⟨_,m1,?_⟩
  conv=>whnf
  refine⟨_,m2,?_⟩
  conv=>whnf
  refine⟨i64_range (by omega) (by omega),?_⟩
  conv=>whnf
  exact⟨t+1,by omega,Weak.gen [some 0,some 1] rfl ⟨⟨_,rfl,rfl,rfl,rfl,rfl,fun x y hx hy=>row_keep rfl⟩,Rf.boxU rfl rfl rfl,trivial⟩ ⟨.inl ⟨_,_,rfl,rfl,fun _ _ _ _=>rfl⟩,⟨_,rfl,rfl⟩,⟨_,rfl,rfl⟩,⟨_,rfl,rfl,rfl⟩,⟨_,rfl,rfl⟩,⟨_,rfl,rfl,rfl⟩,⟨_,rfl,rfl⟩,trivial⟩,by show t+1≤min κ n;omega⟩
 refine swp_mid (fun _:Unit=>gst [(0,.c (nql (n+1) c)),(1,.c (.int .i64 6)),(6,.c (.int .i64 ((n:Nat):Int))),(7,.c (.gs 0 0)),(8,.c (.int .i64 ((κ+1:Nat):Int))),(9,.c (.p 1 0 4 0 0))] [⟨38,4,κ,qlF fun j=>ofR (s (j+1))⟩,⟨38,4,1,boxF (nq (s (κ+1)))⟩]) (fun _=>True) ?_ fun _ _=>?_
 ·by_cases h3:κ+1≤n
  ·rw[if_pos h3]at hSk
   have k4:=k4 (κ+1) (by omega)
   have e1:((n:Int)-((κ+1:Nat):Int)).toNat=n-(κ+1):=by omega
   have hq:qlen ((κ+1:Nat):Rat)≤1:=qlen_int (x:=((κ+1:Nat):Int)) (zlen_le (by show((κ+1:Nat):Int).natAbs<4294967296;omega)) (by omega)
   have m3:FnOK Tryz.prog true 46 [.g (nq ((κ+1:Nat):Rat)),.g (nq (c ((n:Int)-((κ+1:Nat):Int)).toNat))] (.g (nq (((κ+1:Nat):Rat)*c (n-(κ+1))))):=by
    rw[e1]
    exact qmul_n hq (hc _) (by omega) rfl
   have m4:=qsub_n (x:=ac n c s (κ+1) (min κ n)) (y:=((κ+1:Nat):Rat)*c (n-(κ+1))) (z:=s (κ+1)) hacf (q_mul hq (hc _) (by omega)) (by omega) (by omega) hSk.symm
   have j0:(0:Int)≤(n:Int)-((κ+1:Nat):Int):=by omega
   have j1:(n:Int)-((κ+1:Nat):Int)<((n+1:Nat):Int):=by omega
   refine swp_of E1_ok mixed (by kernel_rfl) ?_
   conv=>whnf
   refine bpos (show decide (((κ+1:Nat):Int)≤(n:Int))=true from decide_eq_true (by omega)) ?_
   conv=>whnf
   repeat (refine⟨by first | exact j0 | exact j1 | exact i64_range (by omega) (by omega),?_⟩;conv=>whnf)
   refine⟨_,k4,?_⟩
   conv=>whnf
   repeat (refine⟨by first | exact j0 | exact j1 | exact i64_range (by omega) (by omega),?_⟩;conv=>whnf)
   refine⟨_,m3,?_⟩
   conv=>whnf
   refine⟨_,m4,?_⟩
   conv=>whnf
   exact⟨(),trivial,Weak.gen [some 0,some 1] rfl ⟨⟨_,rfl,rfl,rfl,rfl,rfl,fun x y hx hy=>row_keep rfl⟩,Rf.boxU rfl rfl rfl,trivial⟩ ⟨.inl ⟨_,_,rfl,rfl,fun _ _ _ _=>rfl⟩,⟨_,rfl,rfl⟩,⟨_,rfl,rfl⟩,⟨_,rfl,rfl,rfl⟩,⟨_,rfl,rfl⟩,⟨_,rfl,rfl,rfl⟩,trivial⟩⟩
  ·rw[if_neg h3]at hSk
   have hSk:=hSk.trans (Crg.sub_zero (α:=Rat) _)
   refine swp_of E1_ok mixed (by kernel_rfl) ?_
   conv=>whnf
   refine bneg (show decide (((κ+1:Nat):Int)≤(n:Int))=false from decide_eq_false (by omega)) ?_
   conv=>whnf
   exact⟨(),trivial,Weak.gen [some 0,some 1] rfl ⟨⟨_,rfl,rfl,rfl,rfl,rfl,fun x y hx hy=>row_keep rfl⟩,box_eq hSk.symm,trivial⟩ ⟨.inl ⟨_,_,rfl,rfl,fun _ _ _ _=>rfl⟩,⟨_,rfl,rfl⟩,⟨_,rfl,rfl⟩,⟨_,rfl,rfl,rfl⟩,⟨_,rfl,rfl⟩,⟨_,rfl,rfl,rfl⟩,trivial⟩⟩
 refine swp_of E1_ok mixed (by kernel_rfl) ?_
 conv=>whnf
 refine⟨by show κ+1≤16777216;omega,fun a b ha hb=>Rf.one_nq (s (κ+1)) true a b ha hb,?_⟩
 conv=>whnf
 exact⟨(),trivial,Weak.gen [some 0] rfl ⟨⟨_,rfl,rfl,rfl,rfl,rfl,fun x y hx hy=>row_app (v:=fun j=>s (j+1)) hx hy⟩,trivial⟩ ⟨.inl ⟨_,_,rfl,rfl,fun _ _ _ _=>rfl⟩,⟨_,rfl,rfl⟩,⟨_,rfl,rfl⟩,⟨_,rfl,rfl,rfl⟩,⟨_,rfl,rfl⟩,trivial⟩⟩
end Mx
end Go.Proofs.YtkmbnldginonbaaGreat
/- Powers of a small matrix and their traces: values and sizes. -/
namespace Go.Proofs.YtkmbnldginonbaaGreat
open Go.RowKit
namespace Mx
open Rf
theorem su_crg (f : Nat → Rat) : ∀ n, Q.su f n = Crg.sm f n
 | 0=>rfl
 | n+1=>congrArg (·+f n) (su_crg f n)
def xw (n : Nat) (A : Nat → Nat → Rat) : Nat → Nat → Nat → Rat
 | 0=>A
 | t+1=>fun r j=>sumR (xw n A t r) A n j
theorem xw_pow (n : Nat) (A : Nat → Nat → Rat) : ∀ t, Eqn n (xw n A t) (mpw n A (t + 1))
 | 0=>fun i j _ hj=>(mm_I hj i).symm
 | t+1=>fun i j hi hj=>by
  have e1:xw n A (t+1) i j=mm n (xw n A t) A i j:=su_crg _ n
  have e2:Eqn n A (mpw n A 1):=fun i j _ hj=>(mm_I hj i).symm
  rw[e1,mm_congr (xw_pow n A t) e2 i j hi hj,mpw_add A (t+1) 1 i j hi hj]
theorem sm_fits {D N n:Nat} {f:Nat->Rat} (h:∀ i,i<n->Fits D N (f i)):∀ i,i≤n->Fits D (i*N) (Crg.sm f i):=fun i hi=>by
 rw[← su_crg,su_sm]
 exact fits_sm i fun j hj=>h j (by omega)
theorem xw_fits {n D N : Nat} {A : Nat → Nat → Rat} (hA : ∀ i j, i < n → j < n → Fits D N (A i j)) : ∀ t i j, i < n → j < n → Fits (D ^ (t + 1)) ((n * N) ^ t * N) (xw n A t i j)
 | 0,i,j,hi,hj=>by
  rw[Nat.zero_add,Nat.pow_one,Nat.pow_zero,Nat.one_mul]
  exact hA i j hi hj
 | t+1,i,j,hi,hj=>by
  have h:=sm_fits (n:=n) (f:=fun a=>xw n A t i a*A a j) (fun a ha=>(xw_fits hA t i a hi ha).mul (hA a j ha hj)) n (Nat.le_refl n)
  rw[← su_crg,← Nat.pow_succ,show n*((n*N)^t*N*N)=(n*N)^(t+1)*N by rw[Nat.pow_succ,Nat.mul_assoc,Nat.mul_assoc,Nat.mul_left_comm n,← Nat.mul_assoc n N N]]at h
  exact h
theorem fl {D N a b e:Nat} {x:Rat} (h:Fits D N x) (h0:0<D) (hD:D≤2^a) (hN:N≤2^b) (ha:a≤e) (hb:b≤e) (he:e<2097120):qlen x≤65535 :=
 fits_len h h0 (Nat.le_trans hD (le_two ha)) (Nat.le_trans hN (le_two hb)) he
structure Pq (n : Nat) (A : Nat → Nat → Rat) : Prop where
 one:∀ t i j,t≤6->i<n->j<n->qlen (xw n A t i j)≤65535
 mul:∀ t r i j,t≤5->r<n->i≤n->j<n->qlen (sumR (xw n A t r) A i j)≤65535
 tr:∀ t i,t≤5->i≤n->qlen (Crg.sm (fun i=>xw n A t i i) i)≤65535
theorem pq_of {n D E:Nat} {A:Nat->Nat->Rat} (hn:n≤5) (hE:E≤800) (h0:0<D) (hD:D≤2^E) (hA:∀ i j,i<n->j<n->Fits D (2^E) (A i j)):Pq n A:=by
 have hn8:n≤2^3:=by omega
 have hp:∀ t,0<D^t:=fun t=>Nat.pow_pos h0
 have hb:∀ t,(n*2^E)^t*2^E≤2^((3+E)*t+E):=fun t=>by
  refine mul_le_two (pow_le_two ?_) (Nat.le_refl _)
  exact mul_le_two hn8 (Nat.le_refl _)
 have e1:∀ t,t≤6->(3+E)*t≤(3+E)*6:=fun t ht=>Nat.mul_le_mul_left _ ht
 have e2:∀ t,t≤7->E*t≤E*7:=fun t ht=>Nat.mul_le_mul_left _ ht
 refine⟨fun t i j ht hi hj=>?_,fun t r i j ht hr hi hj=>?_,fun t i ht hi=>?_⟩
 ·have:=e1 t ht
  have:=e2 (t+1) (by omega)
  exact fl (e:=20000) (xw_fits hA t i j hi hj) (hp _) (pow_le_two hD) (hb t) (by omega) (by omega) (by omega)
 ·have h:=sm_fits (n:=n) (f:=fun a=>xw n A t r a*A a j) (fun a ha=>(xw_fits hA t r a hr ha).mul (hA a j ha hj)) i hi
  rw[← su_crg,← Nat.pow_succ]at h
  change Fits (D^(t+1+1)) _ _ at h
  have h3:=e1 t (by omega)
  have h4:=e2 (t+1+1) (by omega)
  exact fl (e:=20000) h (hp _) (pow_le_two hD) (mul_le_two (Nat.le_trans hi hn8) (mul_le_two (hb t) (Nat.le_refl _))) (by omega) (by omega) (by omega)
 ·have h:=sm_fits (n:=n) (f:=fun i=>xw n A t i i) (fun a ha=>xw_fits hA t a a ha ha) i hi
  have h3:=e1 t (by omega)
  have h4:=e2 (t+1) (by omega)
  exact fl (e:=20000) h (hp _) (pow_le_two hD) (mul_le_two (Nat.le_trans hi hn8) (hb t)) (by omega) (by omega) (by omega)
def sk (n:Nat) (A:Nat->Nat->Rat) (k:Nat):Rat:=if 1≤k/\k≤6 then tr n (mpw n A k)else 0
theorem sk_tr {n t:Nat} {A:Nat->Nat->Rat} (ht:t≤5):sk n A (t+1)=Crg.sm (fun i=>xw n A t i i) n:=by
 unfold sk
 rw[if_pos (by omega)]
 exact(tr_congr (xw_pow n A t)).symm
theorem sk_len {n:Nat} {A:Nat->Nat->Rat} (h:Pq n A) (k:Nat):qlen (sk n A k)≤65535:=by
 by_cases hk:1≤k/\k≤6
 ·obtain⟨t,rfl⟩:∃ t,k=t+1:=⟨k-1,by omega⟩
  rw[sk_tr (by omega)]
  exact h.tr t n (by omega) (Nat.le_refl n)
 ·unfold sk
  rw[if_neg hk]
  exact Nat.le_trans q_zero (by omega)
theorem ac_sm (n : Nat) (c s : Nat → Rat) (k : Nat) : ∀ t, ac n c s k t = -Crg.sm (fun i => c (n - (i + 1)) * s (k - (i + 1))) t
 | 0=>Crg.neg_zero.symm
 | t+1=>by
  show ac n c s k t-c (n-(t+1))*s (k-(t+1)) = -(Crg.sm _ t+c (n-(t+1))*s (k-(t+1)))
  rw[ac_sm n c s k t]
  exact Crg.RE.eq [Crg.sm (fun i=>c (n-(i+1))*s (k-(i+1))) t,c (n-(t+1))*s (k-(t+1))] (-Crg.t0-Crg.t1) (-(Crg.t0+Crg.t1)) rfl
theorem ac_len {n : Nat} {c s : Nat → Rat} {Lc Ls k : Nat} (hc : ∀ i, qlen (c i) ≤ Lc) (hs : ∀ i, qlen (s i) ≤ Ls) (h1 : 1 ≤ Lc) : ∀ t, qlen (ac n c s k t) ≤ t * (Lc + Ls + 1) + 1
 | 0=>by rw[Nat.zero_mul];exact q_zero
 | t+1=>by
  have h:=q_sub (ac_len (n:=n) (k:=k) hc hs h1 t) (q_mul (hc (n-(t+1))) (hs (k-(t+1))) (by omega)) (by omega)
  rw[Nat.succ_mul]
  exact Nat.le_trans h (by omega)
theorem sk_rec {n:Nat} {A:Nat->Nat->Rat} {c:Nat->Rat} (h:Newt n A c) {k:Nat} (h1:1≤k) (h6:k≤6):sk n A k=ac n c (sk n A) k (min (k-1) n)-(if k≤n then(k:Rat)*c (n-k)else 0):=by
 have e:=psum h h1
 rw[ac_sm]
 have e1:sk n A k=tr n (mpw n A k):=if_pos ⟨h1,h6⟩
 rw[e1,e,nc_rat]
 refine congrArg (fun z => -z-(if k≤n then(k:Rat)*c (n-k)else 0)) (Crg.sm_congr fun i hi=>?_)
 show c (n-(i+1))*tr n (mpw n A (k-(i+1)))=c (n-(i+1))*(if 1≤k-(i+1)/\k-(i+1)≤6 then tr n (mpw n A (k-(i+1)))else 0)
 rw[if_pos (by omega)]
end Mx
end Go.Proofs.YtkmbnldginonbaaGreat
/- What the statements of charpoly begin with: fixed calls, run. -/
namespace Go.Proofs.YtkmbnldginonbaaGreat
open Go.RowKit
def inlAwake (f:FuncId):Bool:=[39,40,92,151,58,108,48,100].contains f
theorem awake_run:(pureX orcC (runX ER orcC okF inlAwake 1000 40) 8 []).map (fun x=>match x with | .c (.bool b)=>b | _=>false)=some true:=by kernel_rfl
theorem awake_ok:FnOK Tryz.prog false 8 [] (.c (.bool true)):=by
 have h:=awake_run
 cases hx:pureX orcC (runX ER orcC okF inlAwake 1000 40) 8 []with
 | none=>rw[hx]at h;cases h
 | some X =>
  rw[hx]at h
  have hX:X = .c (.bool true):=by
   simp only[Option.map_some,Option.some.injEq]at h
   split at h
   ·rename_i b;subst h;rfl
   ·cases h
  subst hX
  exact run_call orcC_ok hx
end Go.Proofs.YtkmbnldginonbaaGreat
/- The law CharpolyNewton over abstract arguments. -/
namespace Go.Proofs.YtkmbnldginonbaaGreat
open Go.RowKit
namespace Mx
open Rf
def qs (n : Nat) (p : Nat → RawR) (A : Nat → Nat → Rat) : Nat → Nat → RawR
 | 0=>p
 | t+1=>fun k=>ofR (xw n A (t+1) (k / n) (k%n))
theorem qs_val {n : Nat} {p : Nat → RawR} {A : Nat → Nat → Rat} (hA : ∀ i j, i < n → j < n → (p (i * n + j)).val = A i j) : ∀ t i j, i < n → j < n → (qs n p A t (i * n + j)).val = xw n A t i j
 | 0,i,j,hi,hj=>hA i j hi hj
 | t+1,i,j,hi,hj=>val_mat (G:=xw n A (t+1)) i j hi hj
theorem qs_wq {n : Nat} {p : Nat → RawR} {A : Nat → Nat → Rat} (hp : ∀ k, k < n * n → wq (p k)) (hq : Pq n A) : ∀ t, t ≤ 6 → ∀ k, k < n * n → wq (qs n p A t k)
 | 0,_,k,hk=>hp k hk
 | t+1,ht,k,hk=>wq_mat (G:=xw n A (t+1)) (fun i j hi hj=>Nat.le_trans (hq.one (t+1) i j ht hi hj) (by decide)) k hk
set_option maxRecDepth 100000 in
set_option maxHeartbeats 8000000 in
theorem nw_no {p:Nat->RawR} {r c:Int} {len:Nat} (h1:FnOK Tryz.prog true 9 [.c (.int .i64 5),oneM r c len p] (.c (.bool false))):FnOK Tryz.prog true 3 [.g [.int .i64 r,.int .i64 c,ql len p]] (.c (.bool true)):=by
 have h0:=awake_ok.weak (r:=true)
 refine fn_okS (E:=E1v) E1v_ok Tryz.func3 rfl (by kernel_rfl) ?_
 refine swp_seq0 E1v_ok mixed (by kernel_rfl) ?_
 conv=>whnf
 refine swp_seq0 E1v_ok mixed (by kernel_rfl) ?_
 conv=>whnf
 refine⟨_,h0,?_⟩
 conv=>whnf
 refine swp_of E1v_ok mixed (by kernel_rfl) ?_
 conv=>whnf
 refine⟨fun i j hi hj=>?_,?_⟩
 ·match i,j,hi,hj with
  | 0,0,_,_=>rfl
  | 0,1,_,_=>rfl
  | 0,2,_,_=>rfl
 conv=>whnf
 refine⟨_,h1,?_⟩
 conv=>whnf
 exact⟨rfl,Sub.refl _⟩
set_option maxRecDepth 100000 in
set_option maxHeartbeats 16000000 in
theorem nw_yes {n:Nat} {p:Nat->RawR} {q:Nat->Nat->RawR} {c s:Nat->Rat} (h1:FnOK Tryz.prog true 9 [.c (.int .i64 5),oneM n n (n*n) p] (.c (.bool true))) (kc:FnOK Tryz.prog true 10 [.g (rmat n n p)] (.t2 (.c (nql (n+1) c)) (.c (.int .i64 0)))) (kp:FnOK Tryz.prog true 11 [.c (nql (n+1) c),.c (.int .i64 6)] (.t2 (.c (nql 6 fun j=>s (j+1))) (.c (.int .i64 0)))) (hq0:q 0=p) (kt:∀ t,t<6->FnOK Tryz.prog true 13 [.g (rmat n n (q t))] (.g (nq (s (t+1))))) (ks:∀ t,t<6->FnOK Tryz.prog true 12 [.g (nq (s (t+1))),.g (nq (s (t+1)))] (.c (.bool true))) (km:∀ t,t<6->FnOK Tryz.prog true 14 [.g (rmat n n (q t)),.g (rmat n n p)] (.g (rmat n n (q (t+1))))):FnOK Tryz.prog true 3 [.g [.int .i64 n,.int .i64 n,ql (n*n) p]] (.c (.bool true)):=by
 have h0:=awake_ok.weak (r:=true)
 refine fn_okS (E:=E1v) E1v_ok Tryz.func3 rfl (by kernel_rfl) ?_
 refine swp_seq0 E1v_ok mixed (by kernel_rfl) ?_
 conv=>whnf
 refine swp_seq0 E1v_ok mixed (by kernel_rfl) ?_
 conv=>whnf
 refine⟨_,h0,?_⟩
 conv=>whnf
 refine swp_seq E1v_ok mixed (by kernel_rfl) ?_
 conv=>whnf
 refine⟨fun i j hi hj=>?_,?_⟩
 ·match i,j,hi,hj with
  | 0,0,_,_=>rfl
  | 0,1,_,_=>rfl
  | 0,2,_,_=>rfl
 conv=>whnf
 refine⟨_,h1,?_⟩
 conv=>whnf
 refine⟨gst [(1,.c (.p 0 0 3 0 0))] [⟨24,3,1,boxF (rmat n n p)⟩],Weak.gen [some 0] rfl ⟨boxK rfl rfl,trivial⟩ ⟨⟨_,rfl,rfl,rfl⟩,trivial⟩,?_⟩
 refine swp_seq E1v_ok mixed (by kernel_rfl) ?_
 conv=>whnf
 refine⟨_,kc,?_⟩
 conv=>whnf
 refine⟨gst [(1,.c (.p 0 0 3 0 0)),(3,.c (nql (n+1) c)),(4,.c (.int .i64 0))] [⟨24,3,1,boxF (rmat n n p)⟩],Weak.gen [some 0] rfl ⟨boxK rfl rfl,trivial⟩ ⟨⟨_,rfl,rfl,rfl⟩,.inl ⟨_,_,rfl,rfl,fun _ _ _ _=>rfl⟩,⟨_,rfl,rfl⟩,trivial⟩,?_⟩
 refine swp_seq E1v_ok mixed (by kernel_rfl) ?_
 conv=>whnf
 refine⟨_,kp,?_⟩
 conv=>whnf
 refine⟨gst [(1,.c (.p 0 0 3 0 0)),(4,.c (.int .i64 0)),(5,.c (nql 6 fun j=>s (j+1))),(6,.c (.int .i64 0))] [⟨24,3,1,boxF (rmat n n p)⟩],Weak.gen [some 0] rfl ⟨boxK rfl rfl,trivial⟩ ⟨⟨_,rfl,rfl,rfl⟩,⟨_,rfl,rfl⟩,.inl ⟨_,_,rfl,rfl,fun _ _ _ _=>rfl⟩,⟨_,rfl,rfl⟩,trivial⟩,?_⟩
 refine swp_seq E1v_ok mixed (by kernel_rfl) ?_
 conv=>whnf
 refine⟨gst [(1,.c (.p 0 0 3 0 0)),(5,.c (nql 6 fun j=>s (j+1)))] [⟨24,3,1,boxF (rmat n n p)⟩],Weak.gen [some 0] rfl ⟨boxK rfl rfl,trivial⟩ ⟨⟨_,rfl,rfl,rfl⟩,.inl ⟨_,_,rfl,rfl,fun _ _ _ _=>rfl⟩,trivial⟩,?_⟩
 refine swp_seq E1v_ok mixed (by kernel_rfl) ?_
 conv=>whnf
 refine⟨gst [(1,.c (.p 0 0 3 0 0)),(5,.c (nql 6 fun j=>s (j+1))),(7,.c (.p 1 0 3 0 0))] [⟨24,3,1,boxF (rmat n n p)⟩,⟨24,3,1,boxF (rmat n n p)⟩],Weak.gen [some 0,some 1] rfl ⟨boxK rfl rfl,boxU rfl rfl rfl,trivial⟩ ⟨⟨_,rfl,rfl,rfl⟩,.inl ⟨_,_,rfl,rfl,fun _ _ _ _=>rfl⟩,⟨_,rfl,rfl,rfl⟩,trivial⟩,?_⟩
 refine swp_mid (fun _:Unit=>gst [(1,.c (.p 0 0 3 0 0))] [⟨24,3,1,boxF (rmat n n p)⟩]) (fun _=>True) ?_ fun _ _=>?_
 rotate_left
 ·refine swp_of E1v_ok mixed (by kernel_rfl) ?_
  conv=>whnf
  exact⟨rfl,Sub.refl _⟩
 refine swp_seq E1v_ok mixed (by kernel_rfl) ?_
 conv=>whnf
 refine⟨(fun t:Nat=>gst [(1,.c (.p 0 0 3 0 0)),(5,.c (nql 6 fun j=>s (j+1))),(7,.c (.p 1 0 3 0 0)),(8,.c (.int .i64 ((t:Nat):Int)))] [⟨24,3,1,boxF (rmat n n p)⟩,⟨24,3,1,boxF (rmat n n (q t))⟩]) 0,Weak.gen [some 0,some 1] rfl ⟨boxK rfl rfl,by rw[hq0];exact boxK rfl rfl,trivial⟩ ⟨⟨_,rfl,rfl,rfl⟩,.inl ⟨_,_,rfl,rfl,fun _ _ _ _=>rfl⟩,⟨_,rfl,rfl,rfl⟩,⟨_,rfl,rfl⟩,trivial⟩,?_⟩
 refine swp_block (swp_loop (fun t:Nat=>gst [(1,.c (.p 0 0 3 0 0)),(5,.c (nql 6 fun j=>s (j+1))),(7,.c (.p 1 0 3 0 0)),(8,.c (.int .i64 ((t:Nat):Int)))] [⟨24,3,1,boxF (rmat n n p)⟩,⟨24,3,1,boxF (rmat n n (q t))⟩]) (fun t=>6-t) (fun t=>t≤6) 0 (Weak.refl _) (by decide) fun t ht=>?_)
 rcases Nat.lt_or_ge t 6 with h | h
 ·have kt:=kt t h
  have ks:=ks t h
  have km:=km t h
  have j0:(0:Int)≤(t:Int):=by omega
  have j1:(t:Int)<((6:Nat):Int):=by omega
  refine swp_of E1v_ok mixed (by kernel_rfl) ?_
  conv=>whnf
  refine bpos (show decide ((t:Int)<6)=true from decide_eq_true (by omega)) ?_
  conv=>whnf
  repeat (refine⟨by first | exact j0 | exact j1,?_⟩;conv=>whnf)
  refine⟨_,kt,?_⟩
  conv=>whnf
  refine⟨_,ks,?_⟩
  conv=>whnf
  refine⟨_,km,?_⟩
  conv=>whnf
  refine⟨i64_range (by omega) (by omega),?_⟩
  conv=>whnf
  exact⟨t+1,by omega,Weak.gen [some 0,some 1] rfl ⟨boxK rfl rfl,boxU rfl rfl rfl,trivial⟩ ⟨⟨_,rfl,rfl,rfl⟩,.inl ⟨_,_,rfl,rfl,fun _ _ _ _=>rfl⟩,⟨_,rfl,rfl,rfl⟩,⟨_,rfl,rfl⟩,trivial⟩,h⟩
 ·obtain rfl:t=6:=by have ht:t≤6:=ht;omega
  refine swp_of E1v_ok mixed (by kernel_rfl) ?_
  conv=>whnf
  exact⟨(),trivial,Weak.gen [some 0] rfl ⟨boxK rfl rfl,trivial⟩ ⟨⟨_,rfl,rfl,rfl⟩,trivial⟩⟩
theorem pb_lit {n:Nat} (hn:n≤5):PB (KB n 1) n≤32700000000:=by
 rcases(show n=0∨n=1∨n=2∨n=3∨n=4∨n=5 by omega)with rfl | rfl | rfl | rfl | rfl | rfl
 ·decide
 ·decide
 ·decide
 ·decide
 ·decide
 ·decide
open Classical in
theorem nw_ok {len:Nat} {r c:Int} {p:Nat->RawR} (hl:len≤9223372036854775807) (dp:∀ i,i<len->dgq (p i)):FnOK Tryz.prog true 3 [.g [.int .i64 r,.int .i64 c,ql len p]] (.c (.bool true)):=by
 have h1:=light11_ok (m:=5) (r:=r) (c:=c) (len:=len) (q:=p) hl
 by_cases g1:lite11 5 r c len p
 ·rw[decide_eq_true g1]at h1
  obtain⟨⟨u1,u2,u3,u4,u5⟩,e1,e2,e3⟩:=g1
  obtain⟨n,rfl⟩:∃ n:Nat,r=n:=⟨r.toNat,by omega⟩
  obtain rfl:c=n:=e1.symm
  obtain rfl:len=n*n:=by
   have:(len:Int)=((n*n:Nat):Int):=by rw[u5,Int.natCast_mul]
   exact Int.ofNat.inj this
  have hn:n≤5:=by omega
  have hnn:n*n≤25:=Nat.mul_le_mul hn hn
  obtain⟨D,d0,d1,d2⟩:=short_fits dp e3
  obtain⟨A,hA⟩:∃ A:Nat->Nat->Rat,∀ i j,(p (i*n+j)).val=A i j:=⟨_,fun _ _=>rfl⟩
  have hq:Pq n A:=pq_of (E:=32*(n*n)) hn (by omega) d0 d1 fun i j hi hj=>by
   rw[← hA]
   exact d2 _ (mat_idx hi hj).1
  have hw:∀ k,k<n*n->wq (p k):=fun k hk=>fit_wq dp e3 k hk
  have hf:∀ k,k<n*n->(p k).Fit 1:=fun k hk=>⟨(dp k hk).1,(dp k hk).2,(e3 k hk).1,(e3 k hk).2⟩
  have hB:=pb_lit hn
  have kc:=charpoly_ok (n:=n) (p:=p) (A:=A) (L:=1) hn hf (Nat.le_refl 1) (fun i j _ _=>hA i j) (by
   have:LIM=1099511627776:=rfl
   omega)
  have hN:=newt_hsn n A
  have hH:Bq n (KB n 1) (hsn n A):=fun i j hi hj=>hs_kb (fun i j hi hj=>by
   rw[← hA]
   exact(hf _ (mat_idx hi hj).1).qlen (Nat.le_refl 1)) (Nat.le_refl 1) (show n-1+1≤n by omega) i j hi hj
  have hP:=hp_bq hH hn (KB_pos (Nat.le_refl 1)) n (Nat.le_refl n)
  have kp:=psums_ok (n:=n) (c:=(hp (wd (hsn n A)) n).f) (s:=sk n A) (L:=200000000000) (by omega) (by decide) (by decide) (fun i=>Nat.le_trans (hP i) (by omega)) (fun k=>Nat.le_trans (sk_len hq k) (by decide)) (fun k t h1 h6 ht=>by
   have h:=ac_len (n:=n) (k:=k) (Lc:=32700000000) (Ls:=65535) (fun i=>Nat.le_trans (hP i) hB) (sk_len hq) (by decide) t
   omega) hN.top fun k h1 h6=>sk_rec hN h1 h6
  refine nw_yes (q:=qs n p A) (s:=sk n A) h1 kc kp rfl (fun t ht=>?_) (fun t ht=>?_) fun t ht=>?_
  ·rw[sk_tr (by omega)]
   exact(rat_trace (n:=n) (q:=qs n p A t) (G:=fun i=>xw n A t i i) (by omega) (fun i hi=>qs_wq hw hq t (by omega) _ (mat_idx hi hi).1) (fun i hi=>qs_val (fun i j _ _=>hA i j) t i i hi hi) (fun i hi=>hq.one t i i (by omega) hi hi) (fun i hi=>hq.tr t i (by omega) hi)).weak
  ·have h:=(rqsame_n (x:=sk n A (t+1)) (y:=sk n A (t+1)) (Nat.le_trans (sk_len hq (t+1)) (by decide))).weak (r:=true)
   rwa [decide_eq_true rfl]at h
  ·exact(rmatmulR_ok (q:=qs n p A t) (p:=p) (A:=xw n A t) (B:=A) (by omega) (by omega) (by omega) (fun i j hi hj=>hq.one t i j (by omega) hi hj) (fun i j hi hj=>hq.one 0 i j (by omega) hi hj) (fun r i j hr hi hj=>hq.mul t r i j (by omega) hr hi hj) (fun k hk=>qs_wq hw hq t (by omega) k hk) (fun i j hi hj=>qs_val (fun i j _ _=>hA i j) t i j hi hj) hw (fun i j _ _=>hA i j)).weak
 ·rw[decide_eq_false g1]at h1
  exact nw_no h1
end Mx
end Go.Proofs.YtkmbnldginonbaaGreat
/- What is read as data, in abstract words; the last step of a law's row. -/
namespace Go.Proofs.YtkmbnldginonbaaGreat
open Go.ChangeShapes Go.WideShapes Go.ChangeAt Go.RowKit
theorem lawOwn:ownKnob Tryz.prog.godebug=none:=by kernel_rfl
theorem lawLaid:laidOutB Tryz.prog=true:=by kernel_rfl
section
variable {H:Type} {enc:TypeId × Value->H} {P:Program}
theorem post_below {f : Func} {s : ChangeSpec} {apart fresh handsOn again : Bool} {W W' : World} {args : Array Value} {v : Value} {ds gs : List (DataW H)} {before pa pv : List MemPlace}
  (hW:DataW.Whole enc P f.params.toList s.vars apart W args.toList ds gs before)
  (hres:∀(b:Nat) (sp:Nat->Bool) (hd:Bool),DataW.TrodAll enc P W' b sp hd f.resultTypes.toList (v.resultList f.resultTypes.size) (s.fn H (ds++gs)).results [])
  (hargs:∀ sp:Nat->Bool,(∀ p∈before,sp p.block=true)->DataW.TrodAll enc P W' 0 sp true f.params.toList args.toList (s.fn H (ds++gs)).args pa)
  (hvars:∀ sp:Nat->Bool,(∀ p∈before,sp p.block=true)->DataW.TrodVars enc P W' sp s.vars (s.fn H (ds++gs)).vars pv)
  (hps:before=pa++pv) (hb:Below W.heap.size W W')
  (hok:∀(j:Nat) (t:TypeId) (r:Value),f.resultTypes[j]? = some t->(v.resultList f.resultTypes.size)[j]? = some r->Value.okWide P W' .any 0 t r) :
  s.post enc P f apart fresh handsOn again W args v W':=by
 have hlt:∀ p∈before,p.block<W.heap.size:=fun p hp=>hW.lt p hp
 have hold:∀ p∈before,(fun b=>decide (b<W.heap.size)) p.block=true:=fun p hp=>by simpa using hlt p hp
 refine⟨ds,gs,before,[],pa,pv,hW,hres _ _ _,hargs _ hold,hvars _ hold,World.keptBut_mono (fun p hp=>⟨hp,?_⟩) (hb.frame (·∈before)),fun _=>?_⟩
 ·rw[hps,List.mem_append]at hp
  exact Or.inr hp
 ·obtain⟨_,_,_,_,_,hz,hn⟩:=hW
  refine⟨hok,_,_,([]++pa)++pv,⟨[]++pa,pv,trodAll_append (hargs _ (fun _ _=>rfl)) (hres _ _ _),hvars _ (fun _ _=>rfl),rfl,?_,?_⟩,?_⟩
  ·intro b off hp
   have hin:MemPlace.cell b off∈before:=by rw[hps];simpa using hp
   rw[hb.frozen (hlt _ hin)]
   exact hz b off hin
  ·intro ha
   have:=hn ha
   rw[hps]at this
   simpa using this
  ·intro p hp _
   rw[hps]
   simpa using hp
theorem Below.trodS {t : TypeId} (hl : laidOutB P = true) (hr : P.readableRec t = true) (hrow : t < P.types.size) {W W' : World} {sp : Nat → Bool} {v : Value} {d : DataW H} {ps : List MemPlace}
  (h:DataW.Trod enc P W 0 (fun _=>true) true t v d ps) (hb:Below W.heap.size W W') (hlt:∀ x∈ps,x.block<W.heap.size) (hs:∀ x∈ps,sp x.block=true) :
  DataW.Trod enc P W' 0 sp true t v d ps :=
 WideElems.Trod_stays hl hr hrow h (fun x hx=>hb.same (hlt x hx)) hs
end
section
variable {H:Type} {enc:TypeId × Value->H} {P:Program} {w:World} {sp:Nat->Bool} {held:Bool}
theorem trod_struct3 {t : TypeId} {f0 f1 f2 : Field} {fuel : Nat} {cs : List Value} {x : DataW H × List MemPlace} (ht : P.underlying t = some (.struct #[f0, f1, f2])) (h : DataW.trod enc P w 0 sp held fuel t cs = some x) :
  ∃ y0 y1 y2 n,cs.length=P.cellsOf t/\DataW.trod enc P w 0 sp held n f0.type ((cs.drop f0.offset).take (P.cellsOf f0.type))=some y0/\DataW.trod enc P w 0 sp held n f1.type ((cs.drop f1.offset).take (P.cellsOf f1.type))=some y1/\DataW.trod enc P w 0 sp held n f2.type ((cs.drop f2.offset).take (P.cellsOf f2.type))=some y2:=by
 obtain⟨xs,n,_,rfl,hl,hlen,hf⟩:=DataW.trod_struct ht h
 match xs,hlen with
 | [y0,y1,y2],_=>exact⟨y0,y1,y2,n,hl,by simpa using hf 0 f0 rfl,by simpa using hf 1 f1 rfl,by simpa using hf 2 f2 rfl⟩
theorem cell_int {t fuel:Nat} {k:IntKind} {cs:List Value} {x:DataW H × List MemPlace} (ht:P.underlying t=some (.int k)) (h:DataW.trod enc P w 0 sp held fuel t cs=some x):∃ n,cs=[.int k n]/\(Lit.int k n).wf=true:=by
 obtain⟨n,h1,_,h2⟩:=DataW.trod_int ht h
 exact⟨n,h1,h2⟩
theorem okWide_agg {r:Reach} {b0 t:Nat} {fs:Array Field} {v:Value} (ht:P.underlying t=some (.struct fs)) (hval:Value.okWide P w r b0 t v):∃ cs,v = .agg cs:=by
 simp only[Value.okWide,ht]at hval
 obtain⟨cs,h,_⟩:=hval
 exact⟨cs,h⟩
end
section
variable {H:Type} {enc:TypeId × Value->H} {w:World} {sp:Nat->Bool} {held:Bool}
theorem cellsMat:Tryz.prog.cellsOf 24=3:=by kernel_rfl
theorem cellsInt:Tryz.prog.cellsOf 3=1:=by kernel_rfl
theorem cellsRats:Tryz.prog.cellsOf 22=1:=by kernel_rfl
end
theorem law_call {r:Bool} {f:FuncId} {al:List V} (h:FnOK Tryz.prog r f al (.c (.bool true))) {w:World} {vs:List Value} (hv:VRels (fun _=>False) w [] al vs):Calls Tryz.prog f vs.toArray w fun e w'=>e = .returned (.bool true)/\Below w.heap.size w w' :=
 (h.2 (fun _=>False) w vs (fun b hb=>hb.elim) (fun _ b o d hb=>hb.elim) hv).mono fun _ _ ⟨v,he,hv,hb⟩=>⟨by rw[he,show v = .bool true from hv],hb⟩
end Go.Proofs.YtkmbnldginonbaaGreat
/- Lists opened: of digits, of large integers, of fractions; what the bulk of their data bounds. -/
namespace Go.Proofs.YtkmbnldginonbaaGreat
open Go.ChangeShapes Go.WideShapes Go.ChangeAt Go.RowKit
section
variable {H:Type} {enc:TypeId × Value->H} {P:Program} {w:World} {sp:Nat->Bool} {held:Bool}
theorem bulk_one (d:DataW H):1≤Rows.uptoBulk d:=by
 cases d with
 | lit l=>cases l <;> simp[Rows.uptoBulk]
 | nil=>simp[Rows.uptoBulk]
 | ptr d=>simp[Rows.uptoBulk]
 | slice elems spare=>simp[Rows.uptoBulk]
 | agg parts=>simp[Rows.uptoBulk]
 | iface t d=>simp[Rows.uptoBulk]
 | map entries=>simp[Rows.uptoBulk]
 | held h=>simp[Rows.uptoBulk]
theorem bulk_part {d:DataW H} {l:List (DataW H)} (h:d∈l):Rows.uptoBulk d≤Rows.uptoBulkAll l:=by
 induction l with
 | nil=>cases h
 | cons x r ih =>
  simp only[Rows.uptoBulkAll]
  cases List.mem_cons.1 h with
  | inl e=>subst e;omega
  | inr e=>have:=ih e;omega
theorem bulk_len (l:List (DataW H)):l.length≤Rows.uptoBulkAll l:=by
 induction l with
 | nil=>simp[Rows.uptoBulkAll]
 | cons x r ih=>have:=bulk_one x;simp only[Rows.uptoBulkAll,List.length_cons];omega
theorem free_addr {a:Addr} {sz:Nat} {cs:List Value} (h0:0<sz) (h:w.cells? 0 (a.add (0*sz)) sz=some cs):∃ b o,a=⟨b,o,none⟩/\b<w.heap.size:=by
 obtain⟨b,o,spt⟩:=a
 have hs:spt=none/\b<w.heap.size:=by
  obtain⟨_,h2,h3⟩:=World.cells?_some h
  have h4:=h3 0 h0
  rw[Nat.zero_mul,Addr.add,if_pos rfl,Addr.add,if_pos rfl,List.getElem?_eq_getElem (by omega)]at h4
  unfold World.cell? at h4
  split at h4
  ·rename_i hh
   refine⟨?_,(Array.getElem?_eq_some_iff.1 hh).1⟩
   split at h4
   ·cases h4
   ·rename_i hs;simpa using hs
  ·cases h4
 exact⟨b,o,by rw[hs.1],hs.2⟩
theorem crels_get {D : Nat → Prop} {ρ : List Loc} : ∀ {l : List Cell} {vs : List Value}, CRels D w ρ l vs → ∀ j, j < l.length → ∃ u, vs[j]? = some u ∧ CRel D w ρ (l.getD j .any) u
 | [],_,_,j,hj=>absurd hj (Nat.not_lt_zero j)
 | _ :: _,[],h,_,_=>h.elim
 | x :: l,v :: vs,h,j,hj=>by
  cases j with
  | zero=>exact⟨v,rfl,h.1⟩
  | succ j=>exact crels_get h.2 j (by simpa using hj)
theorem cell_list {α : Type} [Inhabited α] {t e sz fuel : Nat} {cs : List Value} {x : DataW H × List MemPlace} {G : α → List Cell} {Q : α → DataW H → Prop} (ht : P.underlying t = some (.slice e)) (hk : P.cellsOf e = sz) (h0 : 0 < sz) (hG : ∀ a, (G a).length = sz)
  (one:∀(n:Nat) (cs':List Value) (y:DataW H × List MemPlace),DataW.trod enc P w 0 sp held n e cs'=some y->∃ a:α,CRels (fun _=>False) w [] (G a) cs'/\Q a y.1)
  (h:DataW.trod enc P w 0 sp held fuel t cs=some x) :
  ∃(v:Value) (n:Nat) (f:Nat->α),cs=[v]/\CRel (fun _=>False) w [] (.row sz n fun i j=>(G (f i)).getD j .any) v/\n≤Rows.uptoBulk x.1/\∀ i,i<n->∃ d,Q (f i) d/\Rows.uptoBulk d≤Rows.uptoBulk x.1:=by
 rcases DataW.trod_slice ht h with⟨rfl,rfl⟩ | ⟨a,len,cap,elems,rest,n,_,rfl,hx,_,hl,hm,hlen,hel,_⟩
 ·exact⟨_,0,fun _=>default,rfl,⟨none,0,rfl,Nat.le_refl _,fun h=>absurd h (Nat.lt_irrefl 0)⟩,Nat.zero_le _,fun i hi=>absurd hi (Nat.not_lt_zero i)⟩
 ·have get:∀ i (hi:i<len),∃ b:α,(∃ cs',w.cells? 0 (a.add (i*sz)) sz=some cs'/\CRels (fun _=>False) w [] (G b) cs')/\Q b (elems[i]'(by omega)).1:=by
   intro i hi
   have:=hel i hi
   rw[hk,List.getElem?_eq_getElem (by omega),Option.bind_eq_some_iff]at this
   obtain⟨cs',h1,h2⟩:=this
   obtain⟨b,h3,h4⟩:=one n cs' _ h2
   exact⟨b,⟨cs',h1,h3⟩,h4⟩
  have hbulk:elems.length≤Rows.uptoBulk x.1/\∀ i (hi:i<len),Rows.uptoBulk (elems[i]'(by omega)).1≤Rows.uptoBulk x.1:=by
   rw[hx]
   simp only[Rows.uptoBulk]
   refine⟨?_,fun i hi=>?_⟩
   ·have:=bulk_len (elems.map (·.1))
    simp only[List.length_map]at this
    omega
   ·have:=bulk_part (l:=elems.map (·.1)) (d:=(elems[i]'(by omega)).1) (List.mem_map_of_mem (List.getElem_mem _))
    omega
  obtain⟨f,hf⟩:∃ f:Nat->α,∀ i (hi:i<len),(∃ cs',w.cells? 0 (a.add (i*sz)) sz=some cs'/\CRels (fun _=>False) w [] (G (f i)) cs')/\Q (f i) (elems[i]'(by omega)).1 :=
   ⟨fun i=>if h:i<len then(get i h).choose else default,fun i hi=>by
    simp only[dif_pos hi]
    exact(get i hi).choose_spec⟩
  refine⟨_,len,f,rfl,⟨_,cap,rfl,hl,fun hn=>?_⟩,by omega,fun i hi=>⟨_,(hf i hi).2,hbulk.2 i hi⟩⟩
  obtain⟨cs0,c1,_⟩:=(hf 0 hn).1
  obtain⟨b,o,rfl,hb⟩:=free_addr h0 c1
  refine⟨b,o,rfl,hb,id,fun i j hi hj=>?_⟩
  obtain⟨cs',c1,c2⟩:=(hf i hi).1
  obtain⟨_,h2,h3⟩:=World.cells?_some c1
  have h4:=h3 j hj
  obtain⟨u,hu,hr⟩:=crels_get c2 j (by rw[hG];exact hj)
  rw[add_plain,add_plain,hu]at h4
  exact⟨u,by rw[show o+(i*sz+j)=o+i*sz+j by omega];exact h4,hr⟩
theorem cell_mag {t e fuel:Nat} {cs:List Value} {x:DataW H × List MemPlace} (ht:P.underlying t=some (.slice e)) (hk:P.cellsOf e=1) (he:P.underlying e=some (.int .u32)) (h:DataW.trod enc P w 0 sp held fuel t cs=some x):∃(v:Value) (l:List Nat),cs=[v]/\CRel (fun _=>False) w [] (dsC l) v/\Dg.ok l/\l.length≤Rows.uptoBulk x.1:=by
 obtain⟨v,n,f,h1,h2,h3,h4⟩:=cell_list (G:=fun a:Nat=>[Cell.int .u32 a]) (Q:=fun a _=>a<4294967296) ht hk (by decide) (fun _=>rfl) (fun n cs' y hy=>by
  obtain⟨k,e1,hw⟩:=cell_int he hy
  have hw:0≤k/\k<4294967296:=by
   simp[Lit.wf]at hw
   have h1:(IntKind.u32.min:Int)=0:=by decide
   have h2:(IntKind.u32.max:Int)=4294967295:=by decide
   omega
  refine⟨k.toNat,?_,by omega⟩
  subst e1
  exact⟨by show Value.int .u32 k = .int .u32 (k.toNat:Int);rw[Int.toNat_of_nonneg hw.1],trivial⟩) h
 refine⟨v,(List.range n).map f,h1,?_,fun d hd=>?_,by simpa using h3⟩
 ·refine subRowG (by simp) (fun i j hi hj=>?_) (fun _=>False) w v h2
  have hi:i<n:=by simpa using hi
  obtain rfl:=Nat.lt_one_iff.1 hj
  simp[List.getD,hi]
 ·obtain⟨i,hi,rfl⟩:=List.mem_map.1 hd
  obtain⟨_,h5,_⟩:=h4 i (List.mem_range.1 hi)
  exact h5
instance:Inhabited RawZ:=⟨⟨false,[]⟩⟩
instance:Inhabited RawR:=⟨⟨default,default⟩⟩
end
section
variable {H:Type} {enc:TypeId × Value->H} {w:World} {sp:Nat->Bool} {held:Bool}
theorem cBool:Tryz.prog.cellsOf 4=1:=by kernel_rfl
theorem cMag:Tryz.prog.cellsOf 34=1:=by kernel_rfl
theorem cU32:Tryz.prog.cellsOf 119=1:=by kernel_rfl
theorem cBig:Tryz.prog.cellsOf 36=2:=by kernel_rfl
theorem cRat:Tryz.prog.cellsOf 38=4:=by kernel_rfl
set_option maxRecDepth 100000 in
theorem one_int {n:Nat} {cs:List Value} {y:DataW H × List MemPlace} (h:DataW.trod enc Tryz.prog w 0 sp held n 36 cs=some y):∃ a:RawZ,CRels (fun _=>False) w [] (zr a) cs/\Dg.ok a.ds/\a.ds.length≤Rows.uptoBulk y.1:=by
 obtain⟨xs,m,_,rfl,hl,hlen,hf⟩:=DataW.trod_struct Tryz.underlying36 h
 match xs,hlen with
 | [y0,y1],_ =>
  have h0:DataW.trod enc Tryz.prog w 0 sp held m 4 ((cs.drop 0).take (Tryz.prog.cellsOf 4))=some y0:=by simpa using hf 0 _ rfl
  have h1:DataW.trod enc Tryz.prog w 0 sp held m 34 ((cs.drop 1).take (Tryz.prog.cellsOf 34))=some y1:=by simpa using hf 1 _ rfl
  rw[cBool]at h0
  rw[cMag]at h1
  rw[cBig]at hl
  obtain⟨s,e0,_⟩:=DataW.trod_bool Tryz.underlying4 h0
  obtain⟨v,l,e1,hv,ho,hb⟩:=cell_mag Tryz.underlying34 cU32 Tryz.underlying119 h1
  match cs,hl,e0,e1 with
  | [x0,x1],_,e0,e1 =>
   simp at e0 e1
   subst e0 e1
   refine⟨⟨s,l⟩,⟨rfl,hv,trivial⟩,ho,?_⟩
   show l.length≤_
   simp only[List.map,Rows.uptoBulk,Rows.uptoBulkAll]
   omega
set_option maxRecDepth 100000 in
theorem one_rat {n:Nat} {cs:List Value} {y:DataW H × List MemPlace} (h:DataW.trod enc Tryz.prog w 0 sp held n 38 cs=some y):∃ a:RawR,CRels (fun _=>False) w [] (rr a) cs/\Rf.dgq a:=by
 obtain⟨xs,m,_,rfl,hl,hlen,hf⟩:=DataW.trod_struct Tryz.underlying38 h
 match xs,hlen with
 | [y0,y1],_ =>
  have h0:DataW.trod enc Tryz.prog w 0 sp held m 36 ((cs.drop 0).take (Tryz.prog.cellsOf 36))=some y0:=by simpa using hf 0 _ rfl
  have h1:DataW.trod enc Tryz.prog w 0 sp held m 36 ((cs.drop 2).take (Tryz.prog.cellsOf 36))=some y1:=by simpa using hf 1 _ rfl
  rw[cBig]at h0 h1
  rw[cRat]at hl
  obtain⟨a0,c0,d0,_⟩:=one_int h0
  obtain⟨a1,c1,d1,_⟩:=one_int h1
  match cs,hl,c0,c1 with
  | [x0,x1,x2,x3],_,c0,c1 =>
   exact⟨⟨a0,a1⟩,⟨c0.1,c0.2.1,c1.1,c1.2.1,trivial⟩,d0,d1⟩
end
end Go.Proofs.YtkmbnldginonbaaGreat
/- Fields and elements, opened. -/
namespace Go.Proofs.YtkmbnldginonbaaGreat
open Go.ChangeShapes Go.WideShapes Go.ChangeAt Go.RowKit
section
variable {H:Type} {enc:TypeId × Value->H} {w:World} {sp:Nat->Bool} {held:Bool}
end
end Go.Proofs.YtkmbnldginonbaaGreat
/- The law CharpolyNewton: its call, under what its argument reads as. -/
namespace Go.Proofs.YtkmbnldginonbaaGreat
open Go.ChangeShapes Go.WideShapes Go.ChangeAt Go.RowKit
section
variable {H:Type} {enc:TypeId × Value->H} {w:World} {sp:Nat->Bool} {held:Bool}
theorem slice_len {t e fuel:Nat} {cs:List Value} {x:DataW H × List MemPlace} {v:Value} {sz n:Nat} {f:Nat->Nat->Cell} (ht:Tryz.prog.underlying t=some (.slice e)) (h:DataW.trod enc Tryz.prog w 0 sp held fuel t cs=some x) (hc:cs=[v]) (hv:CRel (fun _=>False) w [] (.row sz n f) v):n≤9223372036854775807:=by
 obtain⟨A,c,rfl,_,_⟩:=hv
 rcases DataW.trod_slice ht h with⟨e1,_⟩ | ⟨a,len,cap,elems,rest,m,_,e1,_,_,hl,hm,_⟩
 ·rw[hc]at e1
  injection e1 with e2 _
  injection e2 with _ e3 _
  omega
 ·rw[hc]at e1
  injection e1 with e2 _
  injection e2 with _ e3 _
  have:cap≤2^63-1:=hm
  omega
set_option maxRecDepth 100000 in
theorem open_mat {r:Reach} {b0:Nat} {v:Value} {d:DataW H} {ps:List MemPlace} (hval:Value.okWide Tryz.prog w r b0 24 v) (hd:DataW.Trod enc Tryz.prog w 0 sp held 24 v d ps):∃(a b:Int) (n:Nat) (q:Nat->RawR),n≤9223372036854775807/\VRel (fun _=>False) w [] (.g [.int .i64 a,.int .i64 b,ql n q]) v/\∀ j,j<n->Rf.dgq (q j):=by
 obtain⟨cs,rfl⟩:=okWide_agg Tryz.underlying24 hval
 obtain⟨fuel,hf⟩:=hd
 obtain⟨y0,y1,y2,n,hl,h0,h1,h2⟩:=trod_struct3 Tryz.underlying24 hf
 simp only[cellsInt,cellsRats]at h0 h1 h2
 obtain⟨a,e0,_⟩:=cell_int Tryz.underlying3 h0
 obtain⟨b,e1,_⟩:=cell_int Tryz.underlying3 h1
 obtain⟨u,m,f,e2,hu,_,hq⟩:=cell_list (G:=rr) (Q:=fun a _=>Rf.dgq a) Tryz.underlying22 cRat (by decide) (fun _=>rfl) (fun n cs' y hy=>one_rat hy) h2
 have hm:=slice_len Tryz.underlying22 h2 e2 hu
 refine⟨a,b,m,f,hm,⟨cs,rfl,?_⟩,fun j hj=>(hq j hj).elim fun _ h=>h.1⟩
 have hl:cs.toList.length=3:=by rw[← cellsMat];exact hl
 change (cs.toList.drop 0).take 1=_ at e0
 change (cs.toList.drop 1).take 1=_ at e1
 change (cs.toList.drop 2).take 1=_ at e2
 match hcs:cs.toList,hl with
 | [x,y,z],_ =>
  rw[hcs]at e0 e1 e2
  simp at e0 e1 e2
  subst e0;subst e1;subst e2
  exact⟨rfl,rfl,hu,trivial⟩
end
set_option maxRecDepth 100000 in
theorem walk_CharpolyNewton {H : Type} {enc : TypeId × Value → H} {W : World} {base : Nat} {v0 : Value} {d0 : DataW H} {p0 : List MemPlace}
  (u0:Value.okWide Tryz.prog W .any base 24 v0) (h0:DataW.Trod enc Tryz.prog W 0 (fun _=>true) true 24 v0 d0 p0) :
  Calls Tryz.prog 3 #[v0] W fun e w'=>e = .returned (.bool true)/\Below W.heap.size W w':=by
 obtain⟨r,c,len,p,hl,g0,dp⟩:=open_mat u0 h0
 exact law_call (vs:=[v0]) (Mx.nw_ok (r:=r) (c:=c) hl dp) ⟨g0,trivial⟩
end Go.Proofs.YtkmbnldginonbaaGreat
