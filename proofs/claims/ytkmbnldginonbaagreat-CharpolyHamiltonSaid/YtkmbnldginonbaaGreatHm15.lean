/- charpoly.CharPoly at matrices of at most five rows. -/
import Derived.Test.YtkmbnldginonbaaGreatHm13
import Derived.Test.YtkmbnldginonbaaGreatHm14
import Derived.Test.YtkmbnldginonbaaGreatHm12
import Derived.Test.YtkmbnldginonbaaGreatHm8
import Derived.Test.YtkmbnldginonbaaGreatHm7
import Derived.Test.YtkmbnldginonbaaGreatHm9
namespace Go.Proofs.YtkmbnldginonbaaGreat
open Go.RowKit
namespace Mx
open Rf
abbrev gR (n:Nat) (H:Nat->Nat->Rat):Gx:=⟨22,1,n,fun i _=>nql n (H i)⟩
abbrev gL (k:Nat) (P:Nat->Nat->Rat):Gx:=⟨27,1,k,fun i _=>nql (i+1) (P i)⟩
theorem poly_keep {q:Nat} {bl:List Blk} {ks:List (Option Nat)} {P:Nat->Nat->Rat} {i:Nat}:regC q bl ks (nql (i+1) (P i)) fun y=>nql (i+1) (P i)=y := .inl ⟨_,_,rfl,rfl,fun _ _ _ _=>rfl⟩
theorem poly_app {q:Nat} {bl:List Blk} {ks:List (Option Nat)} {P:Nat->Nat->Rat} {k i j:Nat} {v:Nat->Rat} (hv:∀ x,x<k+1->v x=P k x) (hi:i<k+1) (hj:j<1):regC q bl ks (nql (i+1) (P i)) fun y=>appF k (fun i _=>nql (i+1) (P i)) (rowF 1 [nql (k+1) v]) i j=y:=by
 obtain rfl:j=0:=by omega
 unfold appF
 by_cases h:i<k
 ·rw[if_pos h]
  exact .inl ⟨_,_,rfl,rfl,fun _ _ _ _=>rfl⟩
 ·rw[if_neg h]
  obtain rfl:i=k:=by omega
  rw[Nat.sub_self]
  exact .inl ⟨_,_,rfl,rfl,fun x y hx _=>congrArg (fun z=>(rr (ofR z)).getD y .any) (hv x hx)⟩
theorem poly_first {q:Nat} {bl:List Blk} {ks:List (Option Nat)} {P:Nat->Nat->Rat} (hp:∀ x,x<1->(1:Rat)=P 0 x):regC q bl ks (nql (0+1) (P 0)) fun y=>rowF 1 [nql 1 fun _=>1] 0 0=y := .inl ⟨_,_,rfl,rfl,fun x y hx _=>congrArg (fun z=>(rr (ofR z)).getD y .any) (hp x hx)⟩
theorem one_poly {bl:List Blk} {r:Prop} {k:Nat} {v:Nat->Rat} {x y:Nat} (hx:x<1) (hy:y<1):St.one bl (rowF 1 [nql k v] x y)=true/\(r->(rowF 1 [nql k v] x y).noU=true):=by
 obtain rfl:x=0:=by omega
 obtain rfl:y=0:=by omega
 exact⟨rfl,fun _=>rfl⟩
theorem box_eq {q k t u:Nat} {bl:List Blk} {ks:List (Option Nat)} {x y:Rat} (e:x=y) (h:bl[k]? = some ⟨t,4,1,u,0,boxF (nq x)⟩:=by rfl):srcG q bl ks ⟨t,4,1,boxF (nq y)⟩ (some k):=by
 subst e
 exact Rf.boxK h rfl
theorem reg_nql {q:Nat} {bl:List Blk} {ks:List (Option Nat)} {n:Nat} {v w:Nat->Rat} (h:∀ i,i<n->w i=v i):regV q bl ks (.c (nql n w)) (.c (nql n v)) := .inl ⟨_,_,rfl,rfl,fun i j hi _=>congrArg (fun x=>(rr (ofR x)).getD j .any) (h i hi)⟩

structure Ch (n : Nat) (H W D P : Nat → Nat → Rat) (N : Nat → Nat → Nat → Rat) (K Bd : Nat) : Prop where
 hH:Bq n K H
 hW:∀ i k,i≤k->k<n->qlen (W i k)≤6*K
 hD:∀ i k,i≤k->k<n->qlen (D i k)≤5*K
 hN:∀ k,k<n->∀ i,i≤k->∀ j,qlen (N k i j)≤Bd
 hP:∀ k,k≤n->∀ j,qlen (P k j)≤Bd
 pz:∀ k j,k<j->P k j=0
 pt:∀ k,P k k=1
 nt:∀ k i,N k i (k+1)=1
 wd:∀ i k,W i k=D i k*H i k
 dl:∀ i k,i<k->D i k=D (i+1) k*H (i+1) i
 ds:∀ k,D k k=1
 br:∀ i k j,D i k=0->i≤k->N k (i+1) j=P (k+1) j
 nf:∀ k j,xs (P k) j-P k j*W k k=N k k j
 nn:∀ k i j,i<k->N k (i+1) j-P i j*W i k=N k i j
 nl:∀ k j,N k 0 j=P (k+1) j
theorem ch_of {n K:Nat} {H:Nat->Nat->Rat} (hn:n≤5) (hK:1≤K) (hH:Bq n K H):Ch n H (wd H) (dd H) (fun k=>(hp (wd H) k).f) (nx (wd H)) K (PB K n):=by
 have h3:∀ k,k≤n->PB K k≤PB K n:=fun k hk=>Nat.mul_le_mul_right _ (Nat.mul_le_mul_left 8 (Nat.pow_le_pow_right (by omega) hk))
 have hPb:=hp_bq hH hn hK
 refine⟨hH,fun i k hi hk=>wd_bq hH hn hK hi hk,fun i k hi hk=>dd_b5 hH hn hK hi hk,fun k hk i hi j=>?_,fun k hk j=>Nat.le_trans (hPb k hk j) (h3 k hk),fun k j h=>(hp_deg (wd H) k).1 j h,fun k=>(hp_deg (wd H) k).2,fun k i=>(nx_deg (wd H)).2,fun _ _=>rfl,fun i k h=>dd_left H h,dd_self H,fun i k j h hi=>nx_break _ (wd_zero H h hi) hi j,fun k j=>?_,fun k i j h=>?_,fun k j=>nx_last _ k j⟩
 ·have h:=nx_bq hH hn hK hk (fun a ha=>hPb a (by omega)) (k-i) (by omega) j
  rw[show k-(k-i)=i by omega]at h
  refine Nat.le_trans h (Nat.le_trans ?_ (h3 (k+1) (by omega)))
  unfold PB
  rw[show 8*3^(k+1)=24*3^k by rw[Nat.pow_succ];omega]
  exact Nat.mul_le_mul_right _ (ck_le (by omega) hi)
 ·rw[nx_first,Rat.mul_comm]
  rfl
 ·rw[nx_next _ h,Rat.mul_comm]
set_option maxHeartbeats 64000000 in
set_option maxRecDepth 100000 in
theorem charpoly_ch {n:Nat} {p:Nat->RawR} {A W D P:Nat->Nat->Rat} {N:Nat->Nat->Nat->Rat} {L Bd:Nat} (hn:n≤5) (hfit:∀ k,k<n*n->(p k).Fit L) (h1:1≤L) (hA:∀ i j,i<n->j<n->(p (i*n+j)).val=A i j) (hB:Bq n L A) (hBd:8*KB n L≤Bd) (hL:4*Bd+64≤LIM) (ch:Ch n (hsn n A) W D P N (KB n L) Bd):FnOK Tryz.prog true 10 [.g (rmat n n p)] (.t2 (.c (nql (n+1) (P n))) (.c (.int .i64 0))):=by
 have hK:1≤KB n L:=KB_pos h1
 have hLK:L≤KB n L:=by
  have:=KB_le (n:=n) (L:=L) (e:=0) (Nat.zero_le _)
  rwa [Nat.pow_zero,Nat.one_mul]at this
 have hL16:16*KB n L+16≤LIM:=by omega
 have k0:FnOK Tryz.prog true 38 [.g (rmat n n p)] (.c (.int .i64 0)):=by
  have h:=check_ok (r:=n) (c:=n) (len:=n*n) (f:=qlF p)
  rwa [show firstErr (n:Int) n ((n*n:Nat):Int)=0 by
   unfold firstErr
   rw[if_pos ⟨⟨⟨by omega,by omega⟩,⟨by omega,by omega⟩,by rw[Int.natCast_mul]⟩,rfl⟩,if_neg (by omega)]]at h
 have k1:=q1_ok
 have k2:=one_ok
 refine fn_okS (E:=E1) E1_ok Tryz.func10 rfl (by kernel_rfl) ?_
 refine swp_seq E1_ok mixed (by kernel_rfl) ?_
 conv=>whnf
 refine⟨gst [(1,.c (.p 0 0 3 0 0))] [⟨24,3,1,boxF (rmat n n p)⟩],Weak.gen [some 0] rfl ⟨Rf.boxK rfl rfl,trivial⟩ ⟨⟨_,rfl,rfl,rfl⟩,trivial⟩,?_⟩
 refine swp_seq E1_ok mixed (by kernel_rfl) ?_
 conv=>whnf
 refine⟨_,k0,?_⟩
 conv=>whnf
 refine⟨gst [(1,.c (.p 0 0 3 0 0))] [⟨24,3,1,boxF (rmat n n p)⟩],Weak.gen [some 0] rfl ⟨Rf.boxK rfl rfl,trivial⟩ ⟨⟨_,rfl,rfl,rfl⟩,trivial⟩,?_⟩
 refine swp_mid2 (fun _:Unit=>gst [(5,.c (.gs 0 0))] [gR n (hsn n A)]) (fun _=>True) ?_ fun _ _=>?_
 ·clear ch k1 k2
  rcases(show n=0∨n=1∨n=2∨n=3∨n=4∨n=5 by omega)with rfl | rfl | rfl | rfl | rfl | rfl
  ·refine swp_goT E1_ok (pre:=[_]) (post:=[_]) rfl rfl (by kernel_rfl) ?_
   conv=>whnf
   refine⟨0,_,by decide,OpGoT.weak (σ1:=gst [(16,.g [.int .i64 0,.int .i64 0,ql 0 p])] []) (Weak.gen [] rfl trivial ⟨.inl ⟨rfl,rfl⟩,trivial⟩) (OpGoT.call0 (f:=39) (cs:=[]) rfl rfl (fun B hB=>absurd hB List.not_mem_nil) (grid_0 (A:=A) hfit (by omega) hA) (lt_asg (tl:=[(16,.g [.int .i64 0,.int .i64 0,ql 0 p])]) ⟨rfl,trivial⟩)),?_⟩
   conv=>whnf
   refine swp_weak (σ2:=gst [(5,.c (.gs 0 0))] [gG 0 idn]) (Weak.gen [some 0] rfl ⟨⟨_,rfl,rfl,rfl,rfl,rfl,cells0⟩,trivial⟩ ⟨⟨_,rfl,rfl,rfl⟩,trivial⟩) ?_
   refine swp_goT E1_ok (pre:=[_]) (post:=[]) rfl rfl (by kernel_rfl) ?_
   conv=>whnf
   refine⟨1,_,by decide,OpGoT.call0 (f:=40) (cs:=[]) rfl rfl live_all (hess_0 A hB h1 hL16) (lt_put (lt_asg (tl:=[(5,.c (.gs 0 0))]) ⟨rfl,trivial⟩) rfl),?_⟩
   conv=>whnf
   exact⟨(),trivial,Weak.gen [some 0] rfl ⟨⟨_,rfl,rfl,rfl,rfl,rfl,cells0⟩,trivial⟩ ⟨⟨_,rfl,rfl,rfl⟩,trivial⟩⟩
  ·refine swp_goT E1_ok (pre:=[_]) (post:=[_]) rfl rfl (by kernel_rfl) ?_
   conv=>whnf
   refine⟨0,_,by decide,OpGoT.weak (σ1:=gst [(16,.g [.int .i64 1,.int .i64 1,ql 1 p])] []) (Weak.gen [] rfl trivial ⟨.inl ⟨rfl,rfl⟩,trivial⟩) (OpGoT.call0 (f:=39) (cs:=[]) rfl rfl (fun B hB=>absurd hB List.not_mem_nil) (grid_1 (A:=A) hfit (by omega) hA) (lt_asg (tl:=[(16,.g [.int .i64 1,.int .i64 1,ql 1 p])]) ⟨rfl,trivial⟩)),?_⟩
   conv=>whnf
   refine swp_weak (σ2:=gst [(5,.c (.gs 0 0))] [gG 1 idn,gq 1 (A 0)]) (Weak.gen [some 0,some 1] rfl ⟨⟨_,rfl,rfl,rfl,rfl,rfl,cells1 ⟨_,rfl,rfl,rfl⟩⟩,⟨_,rfl,rfl,rfl,rfl,rfl,fun x y hx hy=>row_keep rfl⟩,trivial⟩ ⟨⟨_,rfl,rfl,rfl⟩,trivial⟩) ?_
   refine swp_goT E1_ok (pre:=[_]) (post:=[]) rfl rfl (by kernel_rfl) ?_
   conv=>whnf
   refine⟨1,_,by decide,OpGoT.call0 (f:=40) (cs:=[]) rfl rfl live_all (hess_1 A hB h1 hL16) (lt_put (lt_asg (tl:=[(5,.c (.gs 0 0))]) ⟨rfl,trivial⟩) rfl),?_⟩
   conv=>whnf
   exact⟨(),trivial,Weak.gen [some 0] rfl ⟨⟨_,rfl,rfl,rfl,rfl,rfl,cells1 (.inr (.inr ⟨1,_,rfl,rfl,rfl,rfl,Nat.zero_le 1,rfl,rfl,fun x y hx hy=>⟨rfl,q_clos _ x y⟩⟩))⟩,trivial⟩ ⟨⟨_,rfl,rfl,rfl⟩,trivial⟩⟩
  ·refine swp_goT E1_ok (pre:=[_]) (post:=[_]) rfl rfl (by kernel_rfl) ?_
   conv=>whnf
   refine⟨0,_,by decide,OpGoT.weak (σ1:=gst [(16,.g [.int .i64 2,.int .i64 2,ql 4 p])] []) (Weak.gen [] rfl trivial ⟨.inl ⟨rfl,rfl⟩,trivial⟩) (OpGoT.call0 (f:=39) (cs:=[]) rfl rfl (fun B hB=>absurd hB List.not_mem_nil) (grid_2 (A:=A) hfit (by omega) hA) (lt_asg (tl:=[(16,.g [.int .i64 2,.int .i64 2,ql 4 p])]) ⟨rfl,trivial⟩)),?_⟩
   conv=>whnf
   refine swp_weak (σ2:=gst [(5,.c (.gs 0 0))] [gG 2 idn,gq 2 (A 0),gq 2 (A 1)]) (Weak.gen [some 0,some 1,some 2] rfl ⟨⟨_,rfl,rfl,rfl,rfl,rfl,cells2 ⟨_,rfl,rfl,rfl⟩ ⟨_,rfl,rfl,rfl⟩⟩,⟨_,rfl,rfl,rfl,rfl,rfl,fun x y hx hy=>row_keep rfl⟩,⟨_,rfl,rfl,rfl,rfl,rfl,fun x y hx hy=>row_keep rfl⟩,trivial⟩ ⟨⟨_,rfl,rfl,rfl⟩,trivial⟩) ?_
   refine swp_goT E1_ok (pre:=[_]) (post:=[]) rfl rfl (by kernel_rfl) ?_
   conv=>whnf
   refine⟨1,_,by decide,OpGoT.call0 (f:=40) (cs:=[]) rfl rfl live_all (hess_2 A hB h1 hL16) (lt_put (lt_asg (tl:=[(5,.c (.gs 0 0))]) ⟨rfl,trivial⟩) rfl),?_⟩
   conv=>whnf
   exact⟨(),trivial,Weak.gen [some 0] rfl ⟨⟨_,rfl,rfl,rfl,rfl,rfl,cells2 (.inr (.inr ⟨1,_,rfl,rfl,rfl,rfl,Nat.zero_le 1,rfl,rfl,fun x y hx hy=>⟨rfl,q_clos _ x y⟩⟩)) (.inr (.inr ⟨2,_,rfl,rfl,rfl,rfl,Nat.zero_le 1,rfl,rfl,fun x y hx hy=>⟨rfl,q_clos _ x y⟩⟩))⟩,trivial⟩ ⟨⟨_,rfl,rfl,rfl⟩,trivial⟩⟩
  ·refine swp_goT E1_ok (pre:=[_]) (post:=[_]) rfl rfl (by kernel_rfl) ?_
   conv=>whnf
   refine⟨0,_,by decide,OpGoT.weak (σ1:=gst [(16,.g [.int .i64 3,.int .i64 3,ql 9 p])] []) (Weak.gen [] rfl trivial ⟨.inl ⟨rfl,rfl⟩,trivial⟩) (OpGoT.call0 (f:=39) (cs:=[]) rfl rfl (fun B hB=>absurd hB List.not_mem_nil) (grid_3 (A:=A) hfit (by omega) hA) (lt_asg (tl:=[(16,.g [.int .i64 3,.int .i64 3,ql 9 p])]) ⟨rfl,trivial⟩)),?_⟩
   conv=>whnf
   refine swp_weak (σ2:=gst [(5,.c (.gs 0 0))] [gG 3 idn,gq 3 (A 0),gq 3 (A 1),gq 3 (A 2)]) (Weak.gen [some 0,some 1,some 2,some 3] rfl ⟨⟨_,rfl,rfl,rfl,rfl,rfl,cells3 ⟨_,rfl,rfl,rfl⟩ ⟨_,rfl,rfl,rfl⟩ ⟨_,rfl,rfl,rfl⟩⟩,⟨_,rfl,rfl,rfl,rfl,rfl,fun x y hx hy=>row_keep rfl⟩,⟨_,rfl,rfl,rfl,rfl,rfl,fun x y hx hy=>row_keep rfl⟩,⟨_,rfl,rfl,rfl,rfl,rfl,fun x y hx hy=>row_keep rfl⟩,trivial⟩ ⟨⟨_,rfl,rfl,rfl⟩,trivial⟩) ?_
   refine swp_goT E1_ok (pre:=[_]) (post:=[]) rfl rfl (by kernel_rfl) ?_
   conv=>whnf
   refine⟨1,_,by decide,OpGoT.call0 (f:=40) (cs:=[]) rfl rfl live_all (hess_3 A hB h1 hL16) (lt_put (lt_asg (tl:=[(5,.c (.gs 0 0))]) ⟨rfl,trivial⟩) rfl),?_⟩
   conv=>whnf
   exact⟨(),trivial,Weak.gen [some 0] rfl ⟨⟨_,rfl,rfl,rfl,rfl,rfl,cells3 (.inr (.inr ⟨1,_,rfl,rfl,rfl,rfl,Nat.zero_le 1,rfl,rfl,fun x y hx hy=>⟨rfl,q_clos _ x y⟩⟩)) (.inr (.inr ⟨2,_,rfl,rfl,rfl,rfl,Nat.zero_le 1,rfl,rfl,fun x y hx hy=>⟨rfl,q_clos _ x y⟩⟩)) (.inr (.inr ⟨3,_,rfl,rfl,rfl,rfl,Nat.zero_le 1,rfl,rfl,fun x y hx hy=>⟨rfl,q_clos _ x y⟩⟩))⟩,trivial⟩ ⟨⟨_,rfl,rfl,rfl⟩,trivial⟩⟩
  ·refine swp_goT E1_ok (pre:=[_]) (post:=[_]) rfl rfl (by kernel_rfl) ?_
   conv=>whnf
   refine⟨0,_,by decide,OpGoT.weak (σ1:=gst [(16,.g [.int .i64 4,.int .i64 4,ql 16 p])] []) (Weak.gen [] rfl trivial ⟨.inl ⟨rfl,rfl⟩,trivial⟩) (OpGoT.call0 (f:=39) (cs:=[]) rfl rfl (fun B hB=>absurd hB List.not_mem_nil) (grid_4 (A:=A) hfit (by omega) hA) (lt_asg (tl:=[(16,.g [.int .i64 4,.int .i64 4,ql 16 p])]) ⟨rfl,trivial⟩)),?_⟩
   conv=>whnf
   refine swp_weak (σ2:=gst [(5,.c (.gs 0 0))] [gG 4 idn,gq 4 (A 0),gq 4 (A 1),gq 4 (A 2),gq 4 (A 3)]) (Weak.gen [some 0,some 1,some 2,some 3,some 4] rfl ⟨⟨_,rfl,rfl,rfl,rfl,rfl,cells4 ⟨_,rfl,rfl,rfl⟩ ⟨_,rfl,rfl,rfl⟩ ⟨_,rfl,rfl,rfl⟩ ⟨_,rfl,rfl,rfl⟩⟩,⟨_,rfl,rfl,rfl,rfl,rfl,fun x y hx hy=>row_keep rfl⟩,⟨_,rfl,rfl,rfl,rfl,rfl,fun x y hx hy=>row_keep rfl⟩,⟨_,rfl,rfl,rfl,rfl,rfl,fun x y hx hy=>row_keep rfl⟩,⟨_,rfl,rfl,rfl,rfl,rfl,fun x y hx hy=>row_keep rfl⟩,trivial⟩ ⟨⟨_,rfl,rfl,rfl⟩,trivial⟩) ?_
   refine swp_goT E1_ok (pre:=[_]) (post:=[]) rfl rfl (by kernel_rfl) ?_
   conv=>whnf
   refine⟨1,_,by decide,OpGoT.call0 (f:=40) (cs:=[]) rfl rfl live_all (hess_4 A hB h1 hL16) (lt_put (lt_asg (tl:=[(5,.c (.gs 0 0))]) ⟨rfl,trivial⟩) rfl),?_⟩
   conv=>whnf
   exact⟨(),trivial,Weak.gen [some 0] rfl ⟨⟨_,rfl,rfl,rfl,rfl,rfl,cells4 (.inr (.inr ⟨1,_,rfl,rfl,rfl,rfl,Nat.zero_le 1,rfl,rfl,fun x y hx hy=>⟨rfl,q_clos _ x y⟩⟩)) (.inr (.inr ⟨2,_,rfl,rfl,rfl,rfl,Nat.zero_le 1,rfl,rfl,fun x y hx hy=>⟨rfl,q_clos _ x y⟩⟩)) (.inr (.inr ⟨3,_,rfl,rfl,rfl,rfl,Nat.zero_le 1,rfl,rfl,fun x y hx hy=>⟨rfl,q_clos _ x y⟩⟩)) (.inr (.inr ⟨4,_,rfl,rfl,rfl,rfl,Nat.zero_le 1,rfl,rfl,fun x y hx hy=>⟨rfl,q_clos _ x y⟩⟩))⟩,trivial⟩ ⟨⟨_,rfl,rfl,rfl⟩,trivial⟩⟩
  ·refine swp_goT E1_ok (pre:=[_]) (post:=[_]) rfl rfl (by kernel_rfl) ?_
   conv=>whnf
   refine⟨0,_,by decide,OpGoT.weak (σ1:=gst [(16,.g [.int .i64 5,.int .i64 5,ql 25 p])] []) (Weak.gen [] rfl trivial ⟨.inl ⟨rfl,rfl⟩,trivial⟩) (OpGoT.call0 (f:=39) (cs:=[]) rfl rfl (fun B hB=>absurd hB List.not_mem_nil) (grid_5 (A:=A) hfit (by omega) hA) (lt_asg (tl:=[(16,.g [.int .i64 5,.int .i64 5,ql 25 p])]) ⟨rfl,trivial⟩)),?_⟩
   conv=>whnf
   refine swp_weak (σ2:=gst [(5,.c (.gs 0 0))] [gG 5 idn,gq 5 (A 0),gq 5 (A 1),gq 5 (A 2),gq 5 (A 3),gq 5 (A 4)]) (Weak.gen [some 0,some 1,some 2,some 3,some 4,some 5] rfl ⟨⟨_,rfl,rfl,rfl,rfl,rfl,cells5 ⟨_,rfl,rfl,rfl⟩ ⟨_,rfl,rfl,rfl⟩ ⟨_,rfl,rfl,rfl⟩ ⟨_,rfl,rfl,rfl⟩ ⟨_,rfl,rfl,rfl⟩⟩,⟨_,rfl,rfl,rfl,rfl,rfl,fun x y hx hy=>row_keep rfl⟩,⟨_,rfl,rfl,rfl,rfl,rfl,fun x y hx hy=>row_keep rfl⟩,⟨_,rfl,rfl,rfl,rfl,rfl,fun x y hx hy=>row_keep rfl⟩,⟨_,rfl,rfl,rfl,rfl,rfl,fun x y hx hy=>row_keep rfl⟩,⟨_,rfl,rfl,rfl,rfl,rfl,fun x y hx hy=>row_keep rfl⟩,trivial⟩ ⟨⟨_,rfl,rfl,rfl⟩,trivial⟩) ?_
   refine swp_goT E1_ok (pre:=[_]) (post:=[]) rfl rfl (by kernel_rfl) ?_
   conv=>whnf
   refine⟨1,_,by decide,OpGoT.call0 (f:=40) (cs:=[]) rfl rfl live_all (hess_5 A hB h1 hL16) (lt_put (lt_asg (tl:=[(5,.c (.gs 0 0))]) ⟨rfl,trivial⟩) rfl),?_⟩
   conv=>whnf
   exact⟨(),trivial,Weak.gen [some 0] rfl ⟨⟨_,rfl,rfl,rfl,rfl,rfl,cells5 (.inr (.inr ⟨1,_,rfl,rfl,rfl,rfl,Nat.zero_le 1,rfl,rfl,fun x y hx hy=>⟨rfl,q_clos _ x y⟩⟩)) (.inr (.inr ⟨2,_,rfl,rfl,rfl,rfl,Nat.zero_le 1,rfl,rfl,fun x y hx hy=>⟨rfl,q_clos _ x y⟩⟩)) (.inr (.inr ⟨3,_,rfl,rfl,rfl,rfl,Nat.zero_le 1,rfl,rfl,fun x y hx hy=>⟨rfl,q_clos _ x y⟩⟩)) (.inr (.inr ⟨4,_,rfl,rfl,rfl,rfl,Nat.zero_le 1,rfl,rfl,fun x y hx hy=>⟨rfl,q_clos _ x y⟩⟩)) (.inr (.inr ⟨5,_,rfl,rfl,rfl,rfl,Nat.zero_le 1,rfl,rfl,fun x y hx hy=>⟨rfl,q_clos _ x y⟩⟩))⟩,trivial⟩ ⟨⟨_,rfl,rfl,rfl⟩,trivial⟩⟩
 clear hfit hA hB k0
 generalize hsn n A=H at *
 generalize KB n L=K at *
 have hww:∀ k,W k k=H k k:=fun k=>by rw[ch.wd,ch.ds,Rat.one_mul]
 have hsc:=fun k (hk:k<n)=>scale_step (m:=k+1) (F:=P k) (w:=H k k) (L:=Bd) (L':=K) (by omega) (fun i _=>ch.hP k (by omega) i) (ch.hH k k hk hk) (by omega)
 have hsh:=fun k (hk:k<n)=>shift_step (n:=k) (v:=P k) (L:=Bd) (by omega) (fun i _=>ch.hP k (by omega) i) (by omega) (by omega) (by rw[ch.pt];decide)
 have hs0:=fun k (hk:k<n)=>sub_step (m:=k+1) (N:=k+2) (F:=xs (P k)) (Z:=fun i=>P k i*H k k) (v:=N k k) (L:=2*Bd) (by omega) (by omega) (by omega) (fun i _=>by
  unfold xs
  split
  ·exact Nat.le_trans (ch.hP k (by omega) _) (by omega)
  ·exact Nat.le_trans q_zero (by omega)) (fun i _=>Nat.le_trans (q_mul (ch.hP k (by omega) i) (ch.hH k k hk hk) (by omega)) (by omega)) (by omega) (by omega) (fun i hi=>by rw[ch.pz k i (by omega),Rat.zero_mul]) (fun i _=>by rw[← ch.nf,hww]) (by show N k k (k+1)≠0;rw[ch.nt];decide)
 have hc2:=fun k i (hk:k<n) (hi:i<k)=>scale_step (m:=i+1) (F:=P i) (w:=W i k) (L:=Bd) (L':=6*K) (by omega) (fun j _=>ch.hP i (by omega) j) (ch.hW i k (by omega) hk) (by omega)
 have hs2:=fun k i (hk:k<n) (hi:i<k)=>sub_step (m:=i+1) (N:=k+2) (F:=N k (i+1)) (Z:=fun j=>P i j*W i k) (v:=N k i) (L:=2*Bd) (by omega) (by omega) (by omega) (fun j _=>Nat.le_trans (ch.hN k hk (i+1) (by omega) j) (by omega)) (fun j _=>Nat.le_trans (q_mul (ch.hP i (by omega) j) (ch.hW i k (by omega) hk) (by omega)) (by omega)) (by omega) (by omega) (fun j hj=>by rw[ch.pz i j (by omega),Rat.zero_mul]) (fun j _=>ch.nn k i j hi) (by show N k i (k+1)≠0;rw[ch.nt];decide)
 have hm1:=fun k i (hk:k<n) (hi:i<k)=>qmul_n (x:=D (i+1) k) (y:=H (i+1) i) (z:=D i k) (ch.hD (i+1) k (by omega) hk) (ch.hH (i+1) i (by omega) (by omega)) (by omega) (ch.dl i k hi).symm
 have hm2:=fun k i (hk:k<n) (hi:i<k)=>qmul_n (x:=D i k) (y:=H i k) (z:=W i k) (ch.hD i k (by omega) hk) (ch.hH i k (by omega) (by omega)) (by omega) (ch.wd i k).symm
 have hnz:=fun k i (hk:k<n) (hi:i<k)=>nz_ok (x:=D i k) (ch.hD i k (by omega) hk) (by omega)
 have hp0:∀ x,x<1->(1:Rat)=P 0 x:=fun x hx=>by
  obtain rfl:x=0:=by omega
  exact(ch.pt 0).symm
 have hbr:=ch.br
 have hnl:=ch.nl
 have hds:=ch.ds
 clear ch hww hL hBd h1
 refine swp_seq E1_ok mixed (by kernel_rfl) ?_
 conv=>whnf
 refine⟨_,k2,?_⟩
 conv=>whnf
 refine⟨gst [(5,.c (.gs 0 0)),(6,.c (.gs 1 0))] [gR n H,gL (1) P],Weak.gen [some 0,some 1] rfl ⟨⟨_,rfl,rfl,rfl,rfl,rfl,fun x y hx hy => .inl ⟨_,_,rfl,rfl,fun _ _ _ _=>rfl⟩⟩,⟨_,rfl,rfl,rfl,rfl,rfl,cells1 (poly_first hp0)⟩,trivial⟩ ⟨⟨_,rfl,rfl,rfl⟩,⟨_,rfl,rfl,rfl⟩,trivial⟩,?_⟩
 refine swp_mid (fun _:Unit=>gst [(5,.c (.gs 0 0)),(6,.c (.gs 1 0))] [gR n H,gL (n+1) P]) (fun _=>True) ?_ fun _ _=>?_
 rotate_left
 ·refine swp_of E1_ok mixed (by kernel_rfl) ?_
  conv=>whnf
  refine⟨by omega,by show(n:Int)<((n+1:Nat):Int);omega,?_⟩
  conv=>whnf
  exact⟨rfl,Sub.refl _⟩
 refine swp_seq E1_ok mixed (by kernel_rfl) ?_
 conv=>whnf
 refine⟨(fun k:Nat=>gst [(5,.c (.gs 0 0)),(6,.c (.gs 1 0)),(22,.c (.gs 0 0)),(23,.c (.int .i64 ((n:Nat):Int))),(24,.c (.int .i64 ((k:Nat):Int)))] [gR n H,gL (k+1) P]) 0,Weak.gen [some 0,some 1] rfl ⟨⟨_,rfl,rfl,rfl,rfl,rfl,fun x y hx hy => .inl ⟨_,_,rfl,rfl,fun _ _ _ _=>rfl⟩⟩,⟨_,rfl,rfl,rfl,rfl,rfl,fun x y hx hy=>poly_keep⟩,trivial⟩ ⟨⟨_,rfl,rfl,rfl⟩,⟨_,rfl,rfl,rfl⟩,⟨_,rfl,rfl,rfl⟩,⟨_,rfl,rfl⟩,⟨_,rfl,rfl⟩,trivial⟩,?_⟩
 refine swp_block (swp_loop (fun k:Nat=>gst [(5,.c (.gs 0 0)),(6,.c (.gs 1 0)),(22,.c (.gs 0 0)),(23,.c (.int .i64 ((n:Nat):Int))),(24,.c (.int .i64 ((k:Nat):Int)))] [gR n H,gL (k+1) P]) (fun k=>n-k) (fun k=>k≤n) 0 (Weak.refl _) (Nat.zero_le _) fun k hk=>?_)
 have hsc:=hsc k
 have hsh:=hsh k
 have hs0:=hs0 k
 have hc2:=hc2 k
 have hs2:=hs2 k
 have hm1:=hm1 k
 have hm2:=hm2 k
 have hnz:=hnz k
 refine swp_seq0 E1_ok mixed (by kernel_rfl) ?_
 conv=>whnf
 refine swp_seq E1_ok mixed (by kernel_rfl) ?_
 conv=>whnf
 refine bcase (fun(h:decide ((k:Int)<(n:Int))=true)=>?_) fun(h:decide ((k:Int)<(n:Int))=false)=>?_
 rotate_left
 ·have h:=of_decide_eq_false h
  obtain rfl:k=n:=by omega
  conv=>whnf
  exact⟨(),trivial,Weak.gen [some 0,some 1] rfl ⟨⟨_,rfl,rfl,rfl,rfl,rfl,fun x y hx hy => .inl ⟨_,_,rfl,rfl,fun _ _ _ _=>rfl⟩⟩,⟨_,rfl,rfl,rfl,rfl,rfl,fun x y hx hy=>poly_keep⟩,trivial⟩ ⟨⟨_,rfl,rfl,rfl⟩,⟨_,rfl,rfl,rfl⟩,trivial⟩⟩
 have h:=of_decide_eq_true h
 have hk:k<n:=by omega
 have hsc:=hsc hk
 have hsh:=hsh hk
 have hs0:=hs0 hk
 conv=>whnf
 refine⟨gst [(5,.c (.gs 0 0)),(6,.c (.gs 1 0)),(22,.c (.gs 0 0)),(23,.c (.int .i64 ((n:Nat):Int))),(24,.c (.int .i64 ((k:Nat):Int)))] [gR n H,gL (k+1) P],Weak.gen [some 0,some 1] rfl ⟨⟨_,rfl,rfl,rfl,rfl,rfl,fun x y hx hy => .inl ⟨_,_,rfl,rfl,fun _ _ _ _=>rfl⟩⟩,⟨_,rfl,rfl,rfl,rfl,rfl,fun x y hx hy=>poly_keep⟩,trivial⟩ ⟨⟨_,rfl,rfl,rfl⟩,⟨_,rfl,rfl,rfl⟩,⟨_,rfl,rfl,rfl⟩,⟨_,rfl,rfl⟩,⟨_,rfl,rfl⟩,trivial⟩,?_⟩
 refine swp_mid (fun _:Unit=>gst [(5,.c (.gs 0 0)),(6,.c (.gs 1 0)),(22,.c (.gs 0 0)),(23,.c (.int .i64 ((n:Nat):Int))),(24,.c (.int .i64 ((k:Nat):Int)))] [gR n H,gL (k+2) P]) (fun _=>True) ?_ fun _ _=>?_
 rotate_left
 ·refine swp_of E1_ok mixed (by kernel_rfl) ?_
  conv=>whnf
  refine⟨i64_range (by omega) (by omega),?_⟩
  conv=>whnf
  exact⟨k+1,by omega,Weak.gen [some 0,some 1] rfl ⟨⟨_,rfl,rfl,rfl,rfl,rfl,fun x y hx hy => .inl ⟨_,_,rfl,rfl,fun _ _ _ _=>rfl⟩⟩,⟨_,rfl,rfl,rfl,rfl,rfl,fun x y hx hy=>poly_keep⟩,trivial⟩ ⟨⟨_,rfl,rfl,rfl⟩,⟨_,rfl,rfl,rfl⟩,⟨_,rfl,rfl,rfl⟩,⟨_,rfl,rfl⟩,⟨_,rfl,rfl⟩,trivial⟩,by omega⟩
 refine swp_block ?_
 refine swp_seq E1_ok mixed (by kernel_rfl) ?_
 conv=>whnf
 refine⟨gst [(5,.c (.gs 0 0)),(6,.c (.gs 1 0)),(22,.c (.gs 0 0)),(23,.c (.int .i64 ((n:Nat):Int))),(24,.c (.int .i64 ((k:Nat):Int))),(7,.c (.int .i64 ((k:Nat):Int)))] [gR n H,gL (k+1) P],Weak.gen [some 0,some 1] rfl ⟨⟨_,rfl,rfl,rfl,rfl,rfl,fun x y hx hy => .inl ⟨_,_,rfl,rfl,fun _ _ _ _=>rfl⟩⟩,⟨_,rfl,rfl,rfl,rfl,rfl,fun x y hx hy=>poly_keep⟩,trivial⟩ ⟨⟨_,rfl,rfl,rfl⟩,⟨_,rfl,rfl,rfl⟩,⟨_,rfl,rfl,rfl⟩,⟨_,rfl,rfl⟩,⟨_,rfl,rfl⟩,⟨_,rfl,rfl⟩,trivial⟩,?_⟩
 have j0:(0:Int)≤(k:Int):=by omega
 have j1:(k:Int)<((k+1:Nat):Int):=by omega
 have j2:(k:Int)<(n:Int):=by omega
 refine swp_seq E1_ok mixed (by kernel_rfl) ?_
 conv=>whnf
 repeat (refine⟨by first | exact j0 | exact j1 | exact j2,?_⟩;conv=>whnf)
 refine⟨_,hsh,?_⟩
 conv=>whnf
 repeat (refine⟨by first | exact j0 | exact j1 | exact j2,?_⟩;conv=>whnf)
 refine⟨_,hsc,?_⟩
 conv=>whnf
 refine⟨_,hs0,?_⟩
 conv=>whnf
 refine⟨gst [(5,.c (.gs 0 0)),(6,.c (.gs 1 0)),(22,.c (.gs 0 0)),(23,.c (.int .i64 ((n:Nat):Int))),(24,.c (.int .i64 ((k:Nat):Int))),(7,.c (.int .i64 ((k:Nat):Int))),(8,.c (nql (k+2) (N k k)))] [gR n H,gL (k+1) P],Weak.gen [some 0,some 1] rfl ⟨⟨_,rfl,rfl,rfl,rfl,rfl,fun x y hx hy => .inl ⟨_,_,rfl,rfl,fun _ _ _ _=>rfl⟩⟩,⟨_,rfl,rfl,rfl,rfl,rfl,fun x y hx hy=>poly_keep⟩,trivial⟩ ⟨⟨_,rfl,rfl,rfl⟩,⟨_,rfl,rfl,rfl⟩,⟨_,rfl,rfl,rfl⟩,⟨_,rfl,rfl⟩,⟨_,rfl,rfl⟩,⟨_,rfl,rfl⟩,.inl ⟨_,_,rfl,rfl,fun _ _ _ _=>rfl⟩,trivial⟩,?_⟩
 refine swp_seq E1_ok mixed (by kernel_rfl) ?_
 conv=>whnf
 refine⟨_,k1,?_⟩
 conv=>whnf
 refine⟨gst [(5,.c (.gs 0 0)),(6,.c (.gs 1 0)),(22,.c (.gs 0 0)),(23,.c (.int .i64 ((n:Nat):Int))),(24,.c (.int .i64 ((k:Nat):Int))),(7,.c (.int .i64 ((k:Nat):Int))),(8,.c (nql (k+2) (N k k))),(9,.c (.p 2 0 4 0 0))] [gR n H,gL (k+1) P,⟨38,4,1,boxF (nq (1))⟩],Weak.gen [some 0,some 1,some 2] rfl ⟨⟨_,rfl,rfl,rfl,rfl,rfl,fun x y hx hy => .inl ⟨_,_,rfl,rfl,fun _ _ _ _=>rfl⟩⟩,⟨_,rfl,rfl,rfl,rfl,rfl,fun x y hx hy=>poly_keep⟩,Rf.boxU rfl rfl rfl,trivial⟩ ⟨⟨_,rfl,rfl,rfl⟩,⟨_,rfl,rfl,rfl⟩,⟨_,rfl,rfl,rfl⟩,⟨_,rfl,rfl⟩,⟨_,rfl,rfl⟩,⟨_,rfl,rfl⟩,.inl ⟨_,_,rfl,rfl,fun _ _ _ _=>rfl⟩,⟨_,rfl,rfl,rfl⟩,trivial⟩,?_⟩
 refine swp_mid (fun _:Unit=>gst [(5,.c (.gs 0 0)),(6,.c (.gs 1 0)),(22,.c (.gs 0 0)),(23,.c (.int .i64 ((n:Nat):Int))),(24,.c (.int .i64 ((k:Nat):Int))),(7,.c (.int .i64 ((k:Nat):Int))),(8,.c (nql (k+2) (P (k+1))))] [gR n H,gL (k+1) P]) (fun _=>True) ?_ fun _ _=>?_
 rotate_left
 ·refine swp_of E1_ok mixed (by kernel_rfl) ?_
  conv=>whnf
  refine⟨by show k+1+1≤16777216;omega,fun x y hx hy=>one_poly (k:=k+2) (v:=P (k+1)) hx hy,?_⟩
  conv=>whnf
  exact⟨(),trivial,Weak.gen [some 0,some 1] rfl ⟨⟨_,rfl,rfl,rfl,rfl,rfl,fun x y hx hy => .inl ⟨_,_,rfl,rfl,fun _ _ _ _=>rfl⟩⟩,⟨_,rfl,rfl,rfl,rfl,rfl,fun x y hx hy=>poly_app (k:=k+1) (v:=P (k+1)) (fun _ _=>rfl) hx hy⟩,trivial⟩ ⟨⟨_,rfl,rfl,rfl⟩,⟨_,rfl,rfl,rfl⟩,⟨_,rfl,rfl,rfl⟩,⟨_,rfl,rfl⟩,⟨_,rfl,rfl⟩,trivial⟩⟩
 refine swp_seq E1_ok mixed (by kernel_rfl) ?_
 conv=>whnf
 refine⟨i64_range (by omega) (by omega),?_⟩
 conv=>whnf
 refine⟨(fun i:Nat=>gst [(5,.c (.gs 0 0)),(6,.c (.gs 1 0)),(22,.c (.gs 0 0)),(23,.c (.int .i64 ((n:Nat):Int))),(24,.c (.int .i64 ((k:Nat):Int))),(7,.c (.int .i64 ((k:Nat):Int))),(8,.c (nql (k+2) (N k i))),(9,.c (.p 2 0 4 0 0)),(10,.c (.int .i64 ((i:Int)-1)))] [gR n H,gL (k+1) P,⟨38,4,1,boxF (nq (D i k))⟩]) k,Weak.gen [some 0,some 1,some 2] rfl ⟨⟨_,rfl,rfl,rfl,rfl,rfl,fun x y hx hy => .inl ⟨_,_,rfl,rfl,fun _ _ _ _=>rfl⟩⟩,⟨_,rfl,rfl,rfl,rfl,rfl,fun x y hx hy=>poly_keep⟩,box_eq (hds k).symm,trivial⟩ ⟨⟨_,rfl,rfl,rfl⟩,⟨_,rfl,rfl,rfl⟩,⟨_,rfl,rfl,rfl⟩,⟨_,rfl,rfl⟩,⟨_,rfl,rfl⟩,⟨_,rfl,rfl⟩,.inl ⟨_,_,rfl,rfl,fun _ _ _ _=>rfl⟩,⟨_,rfl,rfl,rfl⟩,⟨_,rfl,rfl⟩,trivial⟩,?_⟩
 refine swp_block (swp_loop (fun i:Nat=>gst [(5,.c (.gs 0 0)),(6,.c (.gs 1 0)),(22,.c (.gs 0 0)),(23,.c (.int .i64 ((n:Nat):Int))),(24,.c (.int .i64 ((k:Nat):Int))),(7,.c (.int .i64 ((k:Nat):Int))),(8,.c (nql (k+2) (N k i))),(9,.c (.p 2 0 4 0 0)),(10,.c (.int .i64 ((i:Int)-1)))] [gR n H,gL (k+1) P,⟨38,4,1,boxF (nq (D i k))⟩]) (fun i=>i) (fun i=>i≤k) k (Weak.refl _) (Nat.le_refl k) fun i hi=>?_)
 cases i with
 | zero =>
  refine swp_of E1_ok mixed (by kernel_rfl) ?_
  conv=>whnf
  exact⟨(),trivial,Weak.gen [some 0,some 1] rfl ⟨⟨_,rfl,rfl,rfl,rfl,rfl,fun x y hx hy => .inl ⟨_,_,rfl,rfl,fun _ _ _ _=>rfl⟩⟩,⟨_,rfl,rfl,rfl,rfl,rfl,fun x y hx hy=>poly_keep⟩,trivial⟩ ⟨⟨_,rfl,rfl,rfl⟩,⟨_,rfl,rfl,rfl⟩,⟨_,rfl,rfl,rfl⟩,⟨_,rfl,rfl⟩,⟨_,rfl,rfl⟩,⟨_,rfl,rfl⟩,reg_nql fun x _=>hnl k x,trivial⟩⟩
 | succ q =>
  have hq:q<k:=by have hi:q+1≤k:=hi;omega
  have hc2:=hc2 q hk hq
  have hs2:=hs2 q hk hq
  have hm1:=hm1 q hk hq
  have hm2:=hm2 q hk hq
  have hnz:=hnz q hk hq
  have hbr:=fun h0 x=>hbr q k x h0 (Nat.le_of_lt hq)
  have j3:(0:Int)≤(q:Int)+1:=by omega
  have j4:(q:Int)+1<(n:Int):=by omega
  have j5:(0:Int)≤(q:Int):=by omega
  have j6:(q:Int)<(n:Int):=by omega
  have j7:(q:Int)<((k+1:Nat):Int):=by omega
  refine swp_seq E1_ok mixed (by kernel_rfl) ?_
  conv=>whnf
  refine bpos (show decide ((0:Int)≤((q+1:Nat):Int)-1)=true from decide_eq_true (by omega)) ?_
  conv=>whnf
  refine⟨gst [(5,.c (.gs 0 0)),(6,.c (.gs 1 0)),(22,.c (.gs 0 0)),(23,.c (.int .i64 ((n:Nat):Int))),(24,.c (.int .i64 ((k:Nat):Int))),(7,.c (.int .i64 ((k:Nat):Int))),(8,.c (nql (k+2) (N k (q+1)))),(9,.c (.p 2 0 4 0 0)),(10,.c (.int .i64 ((q:Nat):Int)))] [gR n H,gL (k+1) P,⟨38,4,1,boxF (nq (D (q+1) k))⟩],Weak.gen [some 0,some 1,some 2] rfl ⟨⟨_,rfl,rfl,rfl,rfl,rfl,fun x y hx hy => .inl ⟨_,_,rfl,rfl,fun _ _ _ _=>rfl⟩⟩,⟨_,rfl,rfl,rfl,rfl,rfl,fun x y hx hy=>poly_keep⟩,Rf.boxK rfl rfl,trivial⟩ ⟨⟨_,rfl,rfl,rfl⟩,⟨_,rfl,rfl,rfl⟩,⟨_,rfl,rfl,rfl⟩,⟨_,rfl,rfl⟩,⟨_,rfl,rfl⟩,⟨_,rfl,rfl⟩,.inl ⟨_,_,rfl,rfl,fun _ _ _ _=>rfl⟩,⟨_,rfl,rfl,rfl⟩,⟨_,rfl,by omega⟩,trivial⟩,?_⟩
  refine swp_mid (fun _:Unit=>gst [(5,.c (.gs 0 0)),(6,.c (.gs 1 0)),(22,.c (.gs 0 0)),(23,.c (.int .i64 ((n:Nat):Int))),(24,.c (.int .i64 ((k:Nat):Int))),(7,.c (.int .i64 ((k:Nat):Int))),(8,.c (nql (k+2) (N k q))),(9,.c (.p 2 0 4 0 0)),(10,.c (.int .i64 ((q:Nat):Int)))] [gR n H,gL (k+1) P,⟨38,4,1,boxF (nq (D q k))⟩]) (fun _=>True) ?_ fun _ _=>?_
  rotate_left
  ·refine swp_of E1_ok mixed (by kernel_rfl) ?_
   conv=>whnf
   refine⟨i64_range (by omega) (by omega),?_⟩
   conv=>whnf
   exact⟨q,Nat.lt_succ_self q,Weak.gen [some 0,some 1,some 2] rfl ⟨⟨_,rfl,rfl,rfl,rfl,rfl,fun x y hx hy => .inl ⟨_,_,rfl,rfl,fun _ _ _ _=>rfl⟩⟩,⟨_,rfl,rfl,rfl,rfl,rfl,fun x y hx hy=>poly_keep⟩,Rf.boxK rfl rfl,trivial⟩ ⟨⟨_,rfl,rfl,rfl⟩,⟨_,rfl,rfl,rfl⟩,⟨_,rfl,rfl,rfl⟩,⟨_,rfl,rfl⟩,⟨_,rfl,rfl⟩,⟨_,rfl,rfl⟩,.inl ⟨_,_,rfl,rfl,fun _ _ _ _=>rfl⟩,⟨_,rfl,rfl,rfl⟩,⟨_,rfl,rfl⟩,trivial⟩,Nat.le_of_lt hq⟩
  refine swp_block ?_
  refine swp_seq E1_ok mixed (by kernel_rfl) ?_
  conv=>whnf
  repeat (refine⟨by first | exact j0 | exact j1 | exact j2 | exact j3 | exact j4 | exact j5 | exact j6 | exact j7 | exact i64_range (by omega) (by omega),?_⟩;conv=>whnf)
  refine⟨_,hm1,?_⟩
  conv=>whnf
  refine⟨gst [(5,.c (.gs 0 0)),(6,.c (.gs 1 0)),(22,.c (.gs 0 0)),(23,.c (.int .i64 ((n:Nat):Int))),(24,.c (.int .i64 ((k:Nat):Int))),(7,.c (.int .i64 ((k:Nat):Int))),(8,.c (nql (k+2) (N k (q+1)))),(9,.c (.p 2 0 4 0 0)),(10,.c (.int .i64 ((q:Nat):Int)))] [gR n H,gL (k+1) P,⟨38,4,1,boxF (nq (D q k))⟩],Weak.gen [some 0,some 1,some 2] rfl ⟨⟨_,rfl,rfl,rfl,rfl,rfl,fun x y hx hy => .inl ⟨_,_,rfl,rfl,fun _ _ _ _=>rfl⟩⟩,⟨_,rfl,rfl,rfl,rfl,rfl,fun x y hx hy=>poly_keep⟩,Rf.boxU rfl rfl rfl,trivial⟩ ⟨⟨_,rfl,rfl,rfl⟩,⟨_,rfl,rfl,rfl⟩,⟨_,rfl,rfl,rfl⟩,⟨_,rfl,rfl⟩,⟨_,rfl,rfl⟩,⟨_,rfl,rfl⟩,.inl ⟨_,_,rfl,rfl,fun _ _ _ _=>rfl⟩,⟨_,rfl,rfl,rfl⟩,⟨_,rfl,rfl⟩,trivial⟩,?_⟩
  refine swp_seq E1_ok mixed (by kernel_rfl) ?_
  conv=>whnf
  refine⟨_,hnz,?_⟩
  conv=>whnf
  refine bcase (fun(h:(!decide (D q k≠0))=true)=>?_) fun(h:(!decide (D q k≠0))=false)=>?_
  ·have h0:D q k=0:=by simpa using h
   conv=>whnf
   exact⟨(),trivial,Weak.gen [some 0,some 1] rfl ⟨⟨_,rfl,rfl,rfl,rfl,rfl,fun x y hx hy => .inl ⟨_,_,rfl,rfl,fun _ _ _ _=>rfl⟩⟩,⟨_,rfl,rfl,rfl,rfl,rfl,fun x y hx hy=>poly_keep⟩,trivial⟩ ⟨⟨_,rfl,rfl,rfl⟩,⟨_,rfl,rfl,rfl⟩,⟨_,rfl,rfl,rfl⟩,⟨_,rfl,rfl⟩,⟨_,rfl,rfl⟩,⟨_,rfl,rfl⟩,reg_nql fun x _=>hbr h0 x,trivial⟩⟩
  conv=>whnf
  refine⟨gst [(5,.c (.gs 0 0)),(6,.c (.gs 1 0)),(22,.c (.gs 0 0)),(23,.c (.int .i64 ((n:Nat):Int))),(24,.c (.int .i64 ((k:Nat):Int))),(7,.c (.int .i64 ((k:Nat):Int))),(8,.c (nql (k+2) (N k (q+1)))),(9,.c (.p 2 0 4 0 0)),(10,.c (.int .i64 ((q:Nat):Int)))] [gR n H,gL (k+1) P,⟨38,4,1,boxF (nq (D q k))⟩],Weak.gen [some 0,some 1,some 2] rfl ⟨⟨_,rfl,rfl,rfl,rfl,rfl,fun x y hx hy => .inl ⟨_,_,rfl,rfl,fun _ _ _ _=>rfl⟩⟩,⟨_,rfl,rfl,rfl,rfl,rfl,fun x y hx hy=>poly_keep⟩,Rf.boxK rfl rfl,trivial⟩ ⟨⟨_,rfl,rfl,rfl⟩,⟨_,rfl,rfl,rfl⟩,⟨_,rfl,rfl,rfl⟩,⟨_,rfl,rfl⟩,⟨_,rfl,rfl⟩,⟨_,rfl,rfl⟩,.inl ⟨_,_,rfl,rfl,fun _ _ _ _=>rfl⟩,⟨_,rfl,rfl,rfl⟩,⟨_,rfl,rfl⟩,trivial⟩,?_⟩
  refine swp_of E1_ok mixed (by kernel_rfl) ?_
  conv=>whnf
  repeat (refine⟨by first | exact j0 | exact j1 | exact j2 | exact j3 | exact j4 | exact j5 | exact j6 | exact j7 | exact i64_range (by omega) (by omega),?_⟩;conv=>whnf)
  refine⟨_,hm2,?_⟩
  conv=>whnf
  repeat (refine⟨by first | exact j0 | exact j1 | exact j2 | exact j3 | exact j4 | exact j5 | exact j6 | exact j7 | exact i64_range (by omega) (by omega),?_⟩;conv=>whnf)
  refine⟨_,hc2,?_⟩
  conv=>whnf
  refine⟨_,hs2,?_⟩
  conv=>whnf
  exact⟨(),trivial,Weak.gen [some 0,some 1,some 2] rfl ⟨⟨_,rfl,rfl,rfl,rfl,rfl,fun x y hx hy => .inl ⟨_,_,rfl,rfl,fun _ _ _ _=>rfl⟩⟩,⟨_,rfl,rfl,rfl,rfl,rfl,fun x y hx hy=>poly_keep⟩,Rf.boxK rfl rfl,trivial⟩ ⟨⟨_,rfl,rfl,rfl⟩,⟨_,rfl,rfl,rfl⟩,⟨_,rfl,rfl,rfl⟩,⟨_,rfl,rfl⟩,⟨_,rfl,rfl⟩,⟨_,rfl,rfl⟩,.inl ⟨_,_,rfl,rfl,fun _ _ _ _=>rfl⟩,⟨_,rfl,rfl,rfl⟩,⟨_,rfl,rfl⟩,trivial⟩⟩
theorem pb8 (K n:Nat):8*K≤PB K n:=by
 unfold PB
 exact Nat.mul_le_mul_right K (Nat.le_mul_of_pos_right 8 (Nat.pow_pos (by omega)))
theorem charpoly_ok {n:Nat} {p:Nat->RawR} {A:Nat->Nat->Rat} {L:Nat} (hn:n≤5) (hfit:∀ k,k<n*n->(p k).Fit L) (h1:1≤L) (hA:∀ i j,i<n->j<n->(p (i*n+j)).val=A i j) (hL:4*PB (KB n L) n+64≤LIM):FnOK Tryz.prog true 10 [.g (rmat n n p)] (.t2 (.c (nql (n+1) (hp (wd (hsn n A)) n).f)) (.c (.int .i64 0))):=by
 have hB:Bq n L A:=fun i j hi hj=>by
  rw[← hA i j hi hj]
  exact(hfit _ (mat_idx hi hj).1).qlen h1
 have hK:1≤KB n L:=KB_pos h1
 have hH:Bq n (KB n L) (hsn n A):=fun i j hi hj=>hs_kb hB h1 (show n-1+1≤n by omega) i j hi hj
 have hC:=ch_of hn hK hH
 have h8:=pb8 (KB n L) n
 have h:=charpoly_ch (W:=wd (hsn n A)) (D:=dd (hsn n A)) (P:=fun k=>(hp (wd (hsn n A)) k).f) (N:=nx (wd (hsn n A))) (Bd:=PB (KB n L) n) hn hfit h1 hA hB h8 hL hC
 exact h
end Mx
end Go.Proofs.YtkmbnldginonbaaGreat
/- The program's power sums of a monic polynomial. -/
namespace Go.Proofs.YtkmbnldginonbaaGreat
open Go.RowKit
namespace Mx
open Rf
end Mx
end Go.Proofs.YtkmbnldginonbaaGreat
/- charpoly.annihilator: its rounds; matrix.Apply, charpoly.monic. -/
set_option maxHeartbeats 16000000
namespace Go.Proofs.YtkmbnldginonbaaGreat
open Go.RowKit
namespace Mx
open Rf
theorem monic_n {n:Nat} {c:Nat->Rat} {L:Nat} (hn:n≤100) (hc:∀ i,i<n+1->qlen (c i)≤L) (hL:L+16≤LIM) (ht:c n=1):FnOK Tryz.prog true 114 [.c (nql (n+1) c)] (.c (nql (n+1) c)):=by
 have k1:=q1_ok
 have k2:FnOK Tryz.prog true 59 [.g (nq 1),.g (nq (c (((n+1:Nat):Int)-1).toNat))] (.t2 (.g (nq 1)) (.c (.int .i64 0))):=by
  rw[show(((n+1:Nat):Int)-1).toNat=n by omega,ht]
  exact div_one_ok 1 (L:=1) q_one (by decide)
 have k3:FnOK Tryz.prog true 44 [.c (nql (n+1) c),.g (nq 1)] (.c (nql (n+1) c)):=by
  have h:=scale_step (m:=n+1) (F:=c) (w:=1) (L:=L) (L':=1) (by omega) hc q_one (by omega)
  have e:(fun i=>c i*1)=c:=funext fun i=>Rat.mul_one _
  rw[e,Q.tq_self (v:=c) (n:=n+1) (fun k hk=>by rw[show k=n by omega,ht];decide)]at h
  exact h
 have j0:(0:Int)≤((n+1:Nat):Int)-1:=by omega
 have j1:((n+1:Nat):Int)-1<((n+1:Nat):Int):=by omega
 refine fn_ok (E:=E1) E1_ok Tryz.func114 rfl mixed (by kernel_rfl) (by kernel_rfl) ?_
 conv=>whnf
 refine⟨_,k1,?_⟩
 conv=>whnf
 refine⟨i64_range (by omega) (by omega),?_⟩
 conv=>whnf
 repeat (refine⟨by first | exact j0 | exact j1,?_⟩;conv=>whnf)
 refine⟨_,k2,?_⟩
 conv=>whnf
 refine⟨_,k3,?_⟩
 conv=>whnf
 exact⟨rfl,Sub.refl _⟩
theorem apply_n {n:Nat} {x y:Nat->Rat} {p:Nat->RawR} {A:Nat->Nat->Rat} (hn:n≤64) (hx:∀ i,i<n->qlen (x i)≤KD) (hp:∀ a,a<n*n->(p a).Fit KD) (hA:∀ i j,i<n->j<n->(p (i*n+j)).val=A i j) (hl:∀ i j,i<n->j<n->qlen (A i j)≤KD) (hS:∀ i j,i≤n->j<n->qlen (sumR x A i j)≤KD) (hy:∀ j,j<n->sumR x A n j=y j):FnOK Tryz.prog true 115 [.c (nql n x),.g (rmat n n p)] (.t2 (.c (nql n y)) (.c (.int .i64 0))):=by
 have v1:=valid_yes (n:=n) (m:=n) (q:=p) (by omega) (by omega)
 have l1:=loadR_ok hn hn hp hA
 have hQ:KD≤QS:=by decide
 have t0:FnOK Tryz.prog true 120 [.c (nql n x),.c (rowsC n n A),.c (.int .i64 n)] (.c (nql n y)):=by
  have h:=times_ok (n:=n) (m:=n) (X:=x) (G:=A) (by omega) (by omega) (fun j hj=>Nat.le_trans (hx j hj) hQ) (fun a b ha hb=>Nat.le_trans (hl a b ha hb) hQ) fun a b ha hb=>by
   rw[rowSum_su]
   exact Nat.le_trans (hS a b (by omega) hb) hQ
  have e:rowSum x A n=sumR x A n:=funext fun j=>rowSum_su x A n j
  rw[e]at h
  exact h.res (subRowG rfl fun i j hi _=>congrArg (fun z=>(rr (ofR z)).getD j .any) (hy i hi))
 clear hx hp hA hl hS hy
 refine fn_ok (E:=E1) E1_ok Tryz.func115 rfl mixed (by kernel_rfl) (by kernel_rfl) ?_
 conv=>whnf
 refine⟨_,v1,?_⟩
 conv=>whnf
 refine bneg (show(!decide ((n:Int)=n))=false by simp) ?_
 conv=>whnf
 refine .inr ⟨_,l1,?_⟩
 conv=>whnf
 refine⟨_,t0,?_⟩
 conv=>whnf
 exact⟨rfl,Sub.refl _⟩
theorem one_kc {bl:List Blk} {r:Prop} {n:Nat} {v q:Nat->Rat} {z:Int} {m i y:Nat} (hi:i<1) (hy:y<3):St.one bl (rowF 3 [nql n v,.int .i64 z,nql m q] i y)=true/\(r->(rowF 3 [nql n v,.int .i64 z,nql m q] i y).noU=true):=by
 obtain rfl:i=0:=by omega
 match y,hy with
 | 0,_=>exact⟨rfl,fun _=>rfl⟩
 | 1,_=>exact⟨rfl,fun _=>rfl⟩
 | 2,_=>exact⟨rfl,fun _=>rfl⟩
theorem app_kc {n:Nat} {kv kq:Nat->Nat->Rat} {kp:Nat->Nat} {r i y:Nat} (hi:i<r+1) (hy:y<3):appF r (kcF n kv kq kp) (rowF 3 [nql n (kv r),.int .i64 ((kp r:Nat):Int),nql (r+1) (kq r)]) i y=kcF n kv kq kp i y:=by
 unfold appF
 by_cases h:i<r
 ·rw[if_pos h]
 ·rw[if_neg h]
  obtain rfl:i=r:=by omega
  rw[Nat.sub_self]
  match y,hy with
  | 0,_=>rfl
  | 1,_=>rfl
  | 2,_=>rfl
structure Anw (n R : Nat) (p : Nat → RawR) (V w g kv kq : Nat → Nat → Rat) (kp : Nat → Nat) (bb : Nat → Rat) : Prop where
 hn:n≤64
 hR:R≤64
 kred:∀ r,r≤R->FnM Tryz.prog true 113 (gb (kcB n r kv kq kp)) [.c (.gs 0 0),.c (nql n (V r)),.c (nql (r+1) (xpn r))] (.t2 (.c (nql n (w r))) (.c (nql (r+1) (g r)))) (gb (kcB n r kv kq kp)) []
 knz:∀ r j,r≤R->j<n->FnOK Tryz.prog true 47 [.g (nq (w r j))] (.c (.bool (decide (w r j≠0))))
 kp1:∀ r,r<R->kp r<n
 kp2:∀ r,r<R->w r (kp r)≠0
 kp3:∀ r j,r<R->j<kp r->w r j=0
 kz:∀ j,j<n->w R j=0
 kquo:∀ r,r<R->FnOK Tryz.prog true 59 [.g (nq 1),.g (nq (w r (kp r)))] (.t2 (.g (nq (bb r))) (.c (.int .i64 0)))
 kmul:∀ r j,r<R->j<n->FnOK Tryz.prog true 46 [.g (nq (w r j)),.g (nq (bb r))] (.g (nq (kv r j)))
 ksc:∀ r,r<R->FnOK Tryz.prog true 44 [.c (nql (r+1) (g r)),.g (nq (bb r))] (.c (nql (r+1) (kq r)))
 kap:∀ r,r<R->FnOK Tryz.prog true 115 [.c (nql n (V r)),.g (rmat n n p)] (.t2 (.c (nql n (V (r+1)))) (.c (.int .i64 0)))
 ksh:∀ r,r<R->FnOK Tryz.prog true 43 [.c (nql (r+1) (xpn r))] (.c (nql (r+2) (xpn (r+1))))
 kmon:FnOK Tryz.prog true 114 [.c (nql (R+1) (g R))] (.c (nql (R+1) (g R)))
set_option maxRecDepth 100000 in
theorem ann_walk {n R:Nat} {p:Nat->RawR} {V w g kv kq:Nat->Nat->Rat} {kp:Nat->Nat} {bb:Nat->Rat} (h:Anw n R p V w g kv kq kp bb):FnOK Tryz.prog true 67 [.g (rmat n n p),.c (nql n (V 0))] (.c (nql (R+1) (g R))):=by
 obtain⟨hn,hR,kred,knz,kp1,kp2,kp3,kz,kquo,kmul,ksc,kap,ksh,kmon⟩:=h
 have k1:=one_ok
 have k0:=q1_ok
 obtain⟨at_,hat⟩:∃ at_:Nat->Nat,∀ r,at_ r=if r<R then kp r else n:=⟨_,fun _=>rfl⟩
 have a1:∀ r,at_ r≤n:=fun r=>by
  rw[hat]
  split
  ·next c=>exact Nat.le_of_lt (kp1 r c)
  ·exact Nat.le_refl n
 have a2:∀ r j,r≤R->j<at_ r->w r j=0:=fun r j hr hj=>by
  rw[hat]at hj
  split at hj
  ·next c=>exact kp3 r j c hj
  ·obtain rfl:r=R:=by omega
   exact kz j hj
 have a3:∀ r,at_ r<n->w r (at_ r)≠0:=fun r hj=>by
  rw[hat]at hj ⊢
  split at hj
  ·next c=>rw[if_pos c];exact kp2 r c
  ·omega
 have a4:∀ r,r<R->at_ r=kp r:=fun r hr=>by rw[hat,if_pos hr]
 have a5:at_ R=n:=by rw[hat,if_neg (Nat.lt_irrefl R)]
 clear kp2 kp3 kz hat
 refine fn_okS (E:=E1k) E1k_ok Tryz.func67 rfl (by kernel_rfl) ?_
 refine swp_seq0 E1k_ok mixed (by kernel_rfl) ?_
 conv=>whnf
 refine swp_seq0 E1k_ok mixed (by kernel_rfl) ?_
 conv=>whnf
 refine swp_seq E1k_ok mixed (by kernel_rfl) ?_
 conv=>whnf
 refine⟨_,k1,?_⟩
 conv=>whnf
 refine⟨(fun r:Nat=>gst [(1,.c (nql n (V r))),(2,.c (.p 0 0 3 0 0)),(5,.c (.gs 1 0)),(6,.c (nql (r+1) (xpn r)))] [⟨24,3,1,boxF (rmat n n p)⟩,⟨130,3,r,kcF n kv kq kp⟩]) 0,Weak.gen [some 0,none] rfl ⟨Rf.boxK rfl rfl,rfl,trivial⟩ ⟨.inl ⟨_,_,rfl,rfl,fun _ _ _ _=>rfl⟩,⟨_,rfl,rfl,rfl⟩,rfl,reg_nq fun x hx=>by rw[show x=0 by omega];rfl,trivial⟩,?_⟩
 refine swp_block (swp_loop (fun r:Nat=>gst [(1,.c (nql n (V r))),(2,.c (.p 0 0 3 0 0)),(5,.c (.gs 1 0)),(6,.c (nql (r+1) (xpn r)))] [⟨24,3,1,boxF (rmat n n p)⟩,⟨130,3,r,kcF n kv kq kp⟩]) (fun r=>R+1-r) (fun r=>r≤R) 0 (Weak.refl _) (Nat.zero_le R) fun r hr=>?_)
 have hr:r≤R:=hr
 have kred:=kred r hr
 have knz:=fun j=>knz r j hr
 have a1:=a1 r
 have a2:=fun j=>a2 r j hr
 have a3:=a3 r
 have a4:=a4 r
 refine swp_mid (fun _:Unit=>gst [(1,.c (nql n (V (r+1)))),(2,.c (.p 0 0 3 0 0)),(5,.c (.gs 1 0)),(6,.c (nql (r+1) (xpn r)))] [⟨24,3,1,boxF (rmat n n p)⟩,⟨130,3,(r+1),kcF n kv kq kp⟩]) (fun _=>r<R) ?_ fun _ hlt=>?_
 rotate_left
 ·have ksh:=ksh r hlt
  refine swp_of E1k_ok mixed (by kernel_rfl) ?_
  conv=>whnf
  refine⟨_,ksh,?_⟩
  conv=>whnf
  exact⟨r+1,by omega,Weak.gen [some 0,some 1] rfl ⟨Rf.boxK rfl rfl,⟨_,rfl,rfl,rfl,rfl,rfl,fun x y hx hy=>regE rfl (kc_clos hy)⟩,trivial⟩ ⟨.inl ⟨_,_,rfl,rfl,fun _ _ _ _=>rfl⟩,⟨_,rfl,rfl,rfl⟩,⟨_,rfl,rfl,rfl⟩,.inl ⟨_,_,rfl,rfl,fun _ _ _ _=>rfl⟩,trivial⟩,hlt⟩
 refine swp_block ?_
 refine swp_seq E1k_ok mixed (by kernel_rfl) ?_
 conv=>whnf
 refine .inl ⟨[],false,?_⟩
 conv=>whnf
 refine⟨1,gb (kcB n r kv kq kp),[.c (.gs 0 0),.c (nql n (V r)),.c (nql (r+1) (xpn r))],_,_,_,kred,rfl,.inl rfl,fun _ _ _ _ hj=>kc_clos hj,fun _ _ _ _ hj=>kc_clos hj,fun F hF=>absurd hF List.not_mem_nil,rfl,rfl,?_⟩
 conv=>whnf
 refine⟨gst [(1,.c (nql n (V r))),(2,.c (.p 0 0 3 0 0)),(5,.c (.gs 1 0)),(6,.c (nql (r+1) (xpn r))),(7,.c (nql n (w r))),(8,.c (nql (r+1) (g r)))] [⟨24,3,1,boxF (rmat n n p)⟩,⟨130,3,r,kcF n kv kq kp⟩],Weak.gen [some 0,some 1] rfl ⟨Rf.boxK rfl rfl,⟨_,rfl,rfl,rfl,rfl,rfl,fun x y hx hy=>regE rfl (kc_clos hy)⟩,trivial⟩ ⟨.inl ⟨_,_,rfl,rfl,fun _ _ _ _=>rfl⟩,⟨_,rfl,rfl,rfl⟩,⟨_,rfl,rfl,rfl⟩,.inl ⟨_,_,rfl,rfl,fun _ _ _ _=>rfl⟩,.inl ⟨_,_,rfl,rfl,fun _ _ _ _=>rfl⟩,.inl ⟨_,_,rfl,rfl,fun _ _ _ _=>rfl⟩,trivial⟩,?_⟩
 refine swp_seq E1k_ok mixed (by kernel_rfl) ?_
 conv=>whnf
 refine⟨(fun a:Nat=>gst [(1,.c (nql n (V r))),(2,.c (.p 0 0 3 0 0)),(5,.c (.gs 1 0)),(6,.c (nql (r+1) (xpn r))),(7,.c (nql n (w r))),(8,.c (nql (r+1) (g r))),(9,.c (.int .i64 ((a:Nat):Int)))] [⟨24,3,1,boxF (rmat n n p)⟩,⟨130,3,r,kcF n kv kq kp⟩]) 0,Weak.gen [some 0,some 1] rfl ⟨Rf.boxK rfl rfl,⟨_,rfl,rfl,rfl,rfl,rfl,fun x y hx hy=>regE rfl (kc_clos hy)⟩,trivial⟩ ⟨.inl ⟨_,_,rfl,rfl,fun _ _ _ _=>rfl⟩,⟨_,rfl,rfl,rfl⟩,⟨_,rfl,rfl,rfl⟩,.inl ⟨_,_,rfl,rfl,fun _ _ _ _=>rfl⟩,.inl ⟨_,_,rfl,rfl,fun _ _ _ _=>rfl⟩,.inl ⟨_,_,rfl,rfl,fun _ _ _ _=>rfl⟩,⟨_,rfl,rfl⟩,trivial⟩,?_⟩
 refine swp_mid (fun _:Unit=>(fun a:Nat=>gst [(1,.c (nql n (V r))),(2,.c (.p 0 0 3 0 0)),(5,.c (.gs 1 0)),(6,.c (nql (r+1) (xpn r))),(7,.c (nql n (w r))),(8,.c (nql (r+1) (g r))),(9,.c (.int .i64 ((a:Nat):Int)))] [⟨24,3,1,boxF (rmat n n p)⟩,⟨130,3,r,kcF n kv kq kp⟩]) (at_ r)) (fun _=>True) ?_ fun _ _=>?_
 ·refine swp_block (swp_loop (fun a:Nat=>gst [(1,.c (nql n (V r))),(2,.c (.p 0 0 3 0 0)),(5,.c (.gs 1 0)),(6,.c (nql (r+1) (xpn r))),(7,.c (nql n (w r))),(8,.c (nql (r+1) (g r))),(9,.c (.int .i64 ((a:Nat):Int)))] [⟨24,3,1,boxF (rmat n n p)⟩,⟨130,3,r,kcF n kv kq kp⟩]) (fun a=>n-a) (fun a=>a≤at_ r) 0 (Weak.refl _) (Nat.zero_le _) fun a ha=>?_)
  have ha:a≤at_ r:=ha
  have knz:=knz a
  have a2:=a2 a
  have j0:(0:Int)≤(a:Int):=by omega
  refine swp_seq E1k_ok mixed (by kernel_rfl) ?_
  conv=>whnf
  refine bcase (fun(gh:decide ((a:Int)<(n:Int))=true)=>?_) fun(gh:decide ((a:Int)<(n:Int))=false)=>?_
  ·have gh:=of_decide_eq_true gh
   have j1:(a:Int)<(n:Int):=gh
   have knz:=knz (by omega)
   conv=>whnf
   repeat (refine⟨by first | exact j0 | exact j1,?_⟩;conv=>whnf)
   refine⟨_,knz,?_⟩
   conv=>whnf
   refine bcase (fun(gh:(!decide (w r a≠0))=true)=>?_) fun(gh:(!decide (w r a≠0))=false)=>?_
   ·have gh:w r a=0:=by simpa using gh
    have hlt:a<at_ r:=Nat.lt_of_le_of_ne ha fun e=>a3 (by omega) (by rw[← e];exact gh)
    conv=>whnf
    refine⟨(fun a:Nat=>gst [(1,.c (nql n (V r))),(2,.c (.p 0 0 3 0 0)),(5,.c (.gs 1 0)),(6,.c (nql (r+1) (xpn r))),(7,.c (nql n (w r))),(8,.c (nql (r+1) (g r))),(9,.c (.int .i64 ((a:Nat):Int)))] [⟨24,3,1,boxF (rmat n n p)⟩,⟨130,3,r,kcF n kv kq kp⟩]) a,Weak.gen [some 0,some 1] rfl ⟨Rf.boxK rfl rfl,⟨_,rfl,rfl,rfl,rfl,rfl,fun x y hx hy=>regE rfl (kc_clos hy)⟩,trivial⟩ ⟨.inl ⟨_,_,rfl,rfl,fun _ _ _ _=>rfl⟩,⟨_,rfl,rfl,rfl⟩,⟨_,rfl,rfl,rfl⟩,.inl ⟨_,_,rfl,rfl,fun _ _ _ _=>rfl⟩,.inl ⟨_,_,rfl,rfl,fun _ _ _ _=>rfl⟩,.inl ⟨_,_,rfl,rfl,fun _ _ _ _=>rfl⟩,⟨_,rfl,rfl⟩,trivial⟩,?_⟩
    refine swp_block ?_
    refine swp_of E1k_ok mixed (by kernel_rfl) ?_
    conv=>whnf
    refine⟨i64_range (by omega) (by omega),?_⟩
    conv=>whnf
    exact⟨a+1,by omega,Weak.gen [some 0,some 1] rfl ⟨Rf.boxK rfl rfl,⟨_,rfl,rfl,rfl,rfl,rfl,fun x y hx hy=>regE rfl (kc_clos hy)⟩,trivial⟩ ⟨.inl ⟨_,_,rfl,rfl,fun _ _ _ _=>rfl⟩,⟨_,rfl,rfl,rfl⟩,⟨_,rfl,rfl,rfl⟩,.inl ⟨_,_,rfl,rfl,fun _ _ _ _=>rfl⟩,.inl ⟨_,_,rfl,rfl,fun _ _ _ _=>rfl⟩,.inl ⟨_,_,rfl,rfl,fun _ _ _ _=>rfl⟩,⟨_,rfl,rfl⟩,trivial⟩,hlt⟩
   ·have gh:w r a≠0:=by simpa using gh
    have e:a=at_ r:=Nat.le_antisymm ha (Nat.le_of_not_lt fun c=>gh (a2 c))
    conv=>whnf
    exact⟨(),trivial,Weak.gen [some 0,some 1] rfl ⟨Rf.boxK rfl rfl,⟨_,rfl,rfl,rfl,rfl,rfl,fun x y hx hy=>regE rfl (kc_clos hy)⟩,trivial⟩ ⟨.inl ⟨_,_,rfl,rfl,fun _ _ _ _=>rfl⟩,⟨_,rfl,rfl,rfl⟩,⟨_,rfl,rfl,rfl⟩,.inl ⟨_,_,rfl,rfl,fun _ _ _ _=>rfl⟩,.inl ⟨_,_,rfl,rfl,fun _ _ _ _=>rfl⟩,.inl ⟨_,_,rfl,rfl,fun _ _ _ _=>rfl⟩,⟨_,rfl,by rw[← e]⟩,trivial⟩⟩
  ·have gh:=of_decide_eq_false gh
   have e:a=at_ r:=by omega
   conv=>whnf
   exact⟨(),trivial,Weak.gen [some 0,some 1] rfl ⟨Rf.boxK rfl rfl,⟨_,rfl,rfl,rfl,rfl,rfl,fun x y hx hy=>regE rfl (kc_clos hy)⟩,trivial⟩ ⟨.inl ⟨_,_,rfl,rfl,fun _ _ _ _=>rfl⟩,⟨_,rfl,rfl,rfl⟩,⟨_,rfl,rfl,rfl⟩,.inl ⟨_,_,rfl,rfl,fun _ _ _ _=>rfl⟩,.inl ⟨_,_,rfl,rfl,fun _ _ _ _=>rfl⟩,.inl ⟨_,_,rfl,rfl,fun _ _ _ _=>rfl⟩,⟨_,rfl,by rw[← e]⟩,trivial⟩⟩
 rcases Nat.lt_or_ge r R with hlt | hge
 rotate_left
 ·obtain rfl:r=R:=by omega
  refine swp_seq E1k_ok mixed (by kernel_rfl) ?_
  conv=>whnf
  refine bpos (show decide (((at_ r:Nat):Int)=(n:Int))=true from decide_eq_true (by rw[a5])) ?_
  conv=>whnf
  refine⟨_,kmon,?_⟩
  conv=>whnf
  exact⟨rfl,Sub.refl _⟩
 have a4:=a4 hlt
 rw[a4]
 have kp1:=kp1 r hlt
 have kquo:=kquo r hlt
 have kmul:=fun j=>kmul r j hlt
 have ksc:=ksc r hlt
 have kap:=kap r hlt
 have p0:(0:Int)≤((kp r:Nat):Int):=by omega
 have p1:((kp r:Nat):Int)<(n:Int):=by omega
 refine swp_seq E1k_ok mixed (by kernel_rfl) ?_
 conv=>whnf
 refine bneg (show decide (((kp r:Nat):Int)=(n:Int))=false from decide_eq_false (by omega)) ?_
 conv=>whnf
 refine⟨(fun a:Nat=>gst [(1,.c (nql n (V r))),(2,.c (.p 0 0 3 0 0)),(5,.c (.gs 1 0)),(6,.c (nql (r+1) (xpn r))),(7,.c (nql n (w r))),(8,.c (nql (r+1) (g r))),(9,.c (.int .i64 ((a:Nat):Int)))] [⟨24,3,1,boxF (rmat n n p)⟩,⟨130,3,r,kcF n kv kq kp⟩]) (kp r),Weak.gen [some 0,some 1] rfl ⟨Rf.boxK rfl rfl,⟨_,rfl,rfl,rfl,rfl,rfl,fun x y hx hy=>regE rfl (kc_clos hy)⟩,trivial⟩ ⟨.inl ⟨_,_,rfl,rfl,fun _ _ _ _=>rfl⟩,⟨_,rfl,rfl,rfl⟩,⟨_,rfl,rfl,rfl⟩,.inl ⟨_,_,rfl,rfl,fun _ _ _ _=>rfl⟩,.inl ⟨_,_,rfl,rfl,fun _ _ _ _=>rfl⟩,.inl ⟨_,_,rfl,rfl,fun _ _ _ _=>rfl⟩,⟨_,rfl,rfl⟩,trivial⟩,?_⟩
 refine swp_seq E1k_ok mixed (by kernel_rfl) ?_
 conv=>whnf
 refine⟨_,k0,?_⟩
 conv=>whnf
 repeat (refine⟨by first | exact p0 | exact p1,?_⟩;conv=>whnf)
 refine⟨_,kquo,?_⟩
 conv=>whnf
 refine⟨gst [(1,.c (nql n (V r))),(2,.c (.p 0 0 3 0 0)),(5,.c (.gs 1 0)),(6,.c (nql (r+1) (xpn r))),(7,.c (nql n (w r))),(8,.c (nql (r+1) (g r))),(9,.c (.int .i64 ((kp r:Nat):Int))),(10,.c (.p 2 0 4 0 0))] [⟨24,3,1,boxF (rmat n n p)⟩,⟨130,3,r,kcF n kv kq kp⟩,⟨38,4,1,boxF (nq (bb r))⟩],Weak.gen [some 0,some 1,some 11] rfl ⟨Rf.boxK rfl rfl,⟨_,rfl,rfl,rfl,rfl,rfl,fun x y hx hy=>regE rfl (kc_clos hy)⟩,Rf.boxU rfl rfl rfl,trivial⟩ ⟨.inl ⟨_,_,rfl,rfl,fun _ _ _ _=>rfl⟩,⟨_,rfl,rfl,rfl⟩,⟨_,rfl,rfl,rfl⟩,.inl ⟨_,_,rfl,rfl,fun _ _ _ _=>rfl⟩,.inl ⟨_,_,rfl,rfl,fun _ _ _ _=>rfl⟩,.inl ⟨_,_,rfl,rfl,fun _ _ _ _=>rfl⟩,⟨_,rfl,rfl⟩,⟨_,rfl,rfl,rfl⟩,trivial⟩,?_⟩
 refine swp_seq E1k_ok mixed (by kernel_rfl) ?_
 conv=>whnf
 refine⟨by omega,Int.le_refl _,by omega,by show(64:Int)*n≤281474976710656;omega,?_⟩
 conv=>whnf
 refine⟨gst [(1,.c (nql n (V r))),(2,.c (.p 0 0 3 0 0)),(5,.c (.gs 1 0)),(6,.c (nql (r+1) (xpn r))),(7,.c (nql n (w r))),(8,.c (nql (r+1) (g r))),(9,.c (.int .i64 ((kp r:Nat):Int))),(10,.c (.p 2 0 4 0 0)),(12,.c (.gs 3 0))] [⟨24,3,1,boxF (rmat n n p)⟩,⟨130,3,r,kcF n kv kq kp⟩,⟨38,4,1,boxF (nq (bb r))⟩,gqp n (kv r) 0],Weak.gen [some 0,some 1,some 2,some 3] rfl ⟨Rf.boxK rfl rfl,⟨_,rfl,rfl,rfl,rfl,rfl,fun x y hx hy=>regE rfl (kc_clos hy)⟩,Rf.boxK rfl rfl,⟨_,rfl,rfl,rfl,by show Int.toNat n=n;omega,rfl,fun k j hk hj=>regE (congrArg (fun l=>l.getD j .any) (qp_zero (kv r) k).symm) (qp_clos k j)⟩,trivial⟩ ⟨.inl ⟨_,_,rfl,rfl,fun _ _ _ _=>rfl⟩,⟨_,rfl,rfl,rfl⟩,⟨_,rfl,rfl,rfl⟩,.inl ⟨_,_,rfl,rfl,fun _ _ _ _=>rfl⟩,.inl ⟨_,_,rfl,rfl,fun _ _ _ _=>rfl⟩,.inl ⟨_,_,rfl,rfl,fun _ _ _ _=>rfl⟩,⟨_,rfl,rfl⟩,⟨_,rfl,rfl,rfl⟩,⟨_,rfl,rfl,rfl⟩,trivial⟩,?_⟩
 refine swp_mid (fun _:Unit=>gst [(1,.c (nql n (V r))),(2,.c (.p 0 0 3 0 0)),(5,.c (.gs 1 0)),(6,.c (nql (r+1) (xpn r))),(7,.c (nql n (w r))),(8,.c (nql (r+1) (g r))),(9,.c (.int .i64 ((kp r:Nat):Int))),(10,.c (.p 2 0 4 0 0)),(12,.c (nql n (kv r)))] [⟨24,3,1,boxF (rmat n n p)⟩,⟨130,3,r,kcF n kv kq kp⟩,⟨38,4,1,boxF (nq (bb r))⟩]) (fun _=>True) ?_ fun _ _=>?_
 ·refine swp_seq E1k_ok mixed (by kernel_rfl) ?_
  conv=>whnf
  refine⟨(fun j:Nat=>gst [(1,.c (nql n (V r))),(2,.c (.p 0 0 3 0 0)),(5,.c (.gs 1 0)),(6,.c (nql (r+1) (xpn r))),(7,.c (nql n (w r))),(8,.c (nql (r+1) (g r))),(9,.c (.int .i64 ((kp r:Nat):Int))),(10,.c (.p 2 0 4 0 0)),(12,.c (.gs 3 0)),(57,.c (.int .i64 ((n:Nat):Int))),(58,.c (.int .i64 ((j:Nat):Int)))] [⟨24,3,1,boxF (rmat n n p)⟩,⟨130,3,r,kcF n kv kq kp⟩,⟨38,4,1,boxF (nq (bb r))⟩,gqp n (kv r) j]) 0,Weak.gen [some 0,some 1,some 2,some 3] rfl ⟨Rf.boxK rfl rfl,⟨_,rfl,rfl,rfl,rfl,rfl,fun x y hx hy=>regE rfl (kc_clos hy)⟩,Rf.boxK rfl rfl,⟨_,rfl,rfl,rfl,rfl,rfl,fun k j hk hj=>regE rfl (qp_clos k j)⟩,trivial⟩ ⟨.inl ⟨_,_,rfl,rfl,fun _ _ _ _=>rfl⟩,⟨_,rfl,rfl,rfl⟩,⟨_,rfl,rfl,rfl⟩,.inl ⟨_,_,rfl,rfl,fun _ _ _ _=>rfl⟩,.inl ⟨_,_,rfl,rfl,fun _ _ _ _=>rfl⟩,.inl ⟨_,_,rfl,rfl,fun _ _ _ _=>rfl⟩,⟨_,rfl,rfl⟩,⟨_,rfl,rfl,rfl⟩,⟨_,rfl,rfl,rfl⟩,⟨_,rfl,rfl⟩,⟨_,rfl,rfl⟩,trivial⟩,?_⟩
  refine swp_block (swp_loop (fun j:Nat=>gst [(1,.c (nql n (V r))),(2,.c (.p 0 0 3 0 0)),(5,.c (.gs 1 0)),(6,.c (nql (r+1) (xpn r))),(7,.c (nql n (w r))),(8,.c (nql (r+1) (g r))),(9,.c (.int .i64 ((kp r:Nat):Int))),(10,.c (.p 2 0 4 0 0)),(12,.c (.gs 3 0)),(57,.c (.int .i64 ((n:Nat):Int))),(58,.c (.int .i64 ((j:Nat):Int)))] [⟨24,3,1,boxF (rmat n n p)⟩,⟨130,3,r,kcF n kv kq kp⟩,⟨38,4,1,boxF (nq (bb r))⟩,gqp n (kv r) j]) (fun j=>n-j) (fun j=>j≤n) 0 (Weak.refl _) (Nat.zero_le n) fun j hj=>?_)
  have kmul:=kmul j
  have hj:j≤n:=hj
  have j0:(0:Int)≤(j:Int):=by omega
  refine swp_of E1k_ok mixed (by kernel_rfl) ?_
  conv=>whnf
  refine bcase (fun(gh:decide ((j:Int)<(n:Int))=true)=>?_) fun(gh:decide ((j:Int)<(n:Int))=false)=>?_
  ·have gh:=of_decide_eq_true gh
   have j1:(j:Int)<(n:Int):=gh
   have kmul:=kmul (by omega)
   conv=>whnf
   repeat (refine⟨by first | exact j0 | exact j1,?_⟩;conv=>whnf)
   refine⟨_,kmul,?_⟩
   conv=>whnf
   repeat (refine⟨by first | exact j0 | exact j1,?_⟩;conv=>whnf)
   refine⟨i64_range (by omega) (by omega),?_⟩
   conv=>whnf
   exact⟨j+1,by omega,Weak.gen [some 0,some 1,some 2,some 3] rfl ⟨Rf.boxK rfl rfl,⟨_,rfl,rfl,rfl,rfl,rfl,fun x y hx hy=>regE rfl (kc_clos hy)⟩,Rf.boxK rfl rfl,⟨_,rfl,rfl,rfl,rfl,rfl,fun k y hk hy=>regE (updG (sz:=4) (g:=qpF (kv r) j) (g':=qpF (kv r) (j+1)) (l:=nq (kv r j)) rfl hy (qp_next (kv r) j k)) (qp_clos k y)⟩,trivial⟩ ⟨.inl ⟨_,_,rfl,rfl,fun _ _ _ _=>rfl⟩,⟨_,rfl,rfl,rfl⟩,⟨_,rfl,rfl,rfl⟩,.inl ⟨_,_,rfl,rfl,fun _ _ _ _=>rfl⟩,.inl ⟨_,_,rfl,rfl,fun _ _ _ _=>rfl⟩,.inl ⟨_,_,rfl,rfl,fun _ _ _ _=>rfl⟩,⟨_,rfl,rfl⟩,⟨_,rfl,rfl,rfl⟩,⟨_,rfl,rfl,rfl⟩,⟨_,rfl,rfl⟩,⟨_,rfl,rfl⟩,trivial⟩,by omega⟩
  ·have gh:=of_decide_eq_false gh
   obtain rfl:j=n:=by omega
   conv=>whnf
   exact⟨(),trivial,Weak.gen [some 0,some 1,some 2] rfl ⟨Rf.boxK rfl rfl,⟨_,rfl,rfl,rfl,rfl,rfl,fun x y hx hy=>regE rfl (kc_clos hy)⟩,Rf.boxK rfl rfl,trivial⟩ ⟨.inl ⟨_,_,rfl,rfl,fun _ _ _ _=>rfl⟩,⟨_,rfl,rfl,rfl⟩,⟨_,rfl,rfl,rfl⟩,.inl ⟨_,_,rfl,rfl,fun _ _ _ _=>rfl⟩,.inl ⟨_,_,rfl,rfl,fun _ _ _ _=>rfl⟩,.inl ⟨_,_,rfl,rfl,fun _ _ _ _=>rfl⟩,⟨_,rfl,rfl⟩,⟨_,rfl,rfl,rfl⟩,.inr (.inr ⟨3,_,rfl,rfl,rfl,rfl,Nat.zero_le _,rfl,rfl,fun x y hx hy=>⟨qp_all hx y,q_clos _ x y⟩⟩),trivial⟩⟩
 refine swp_seq E1k_ok mixed (by kernel_rfl) ?_
 conv=>whnf
 refine⟨_,ksc,?_⟩
 conv=>whnf
 refine⟨by show r+1≤16777216;omega,fun a b ha hb=>one_kc ha hb,?_⟩
 conv=>whnf
 refine⟨gst [(1,.c (nql n (V r))),(2,.c (.p 0 0 3 0 0)),(5,.c (.gs 1 0)),(6,.c (nql (r+1) (xpn r)))] [⟨24,3,1,boxF (rmat n n p)⟩,⟨130,3,r+1,kcF n kv kq kp⟩],Weak.gen [some 0,some 1] rfl ⟨Rf.boxK rfl rfl,⟨_,rfl,rfl,rfl,rfl,rfl,fun x y hx hy=>regE (app_kc hx hy) (kc_clos hy)⟩,trivial⟩ ⟨.inl ⟨_,_,rfl,rfl,fun _ _ _ _=>rfl⟩,⟨_,rfl,rfl,rfl⟩,⟨_,rfl,rfl,rfl⟩,.inl ⟨_,_,rfl,rfl,fun _ _ _ _=>rfl⟩,trivial⟩,?_⟩
 refine swp_of E1k_ok mixed (by kernel_rfl) ?_
 conv=>whnf
 refine⟨_,kap,?_⟩
 conv=>whnf
 exact⟨(),hlt,Weak.gen [some 0,some 1] rfl ⟨Rf.boxK rfl rfl,⟨_,rfl,rfl,rfl,rfl,rfl,fun x y hx hy=>regE rfl (kc_clos hy)⟩,trivial⟩ ⟨.inl ⟨_,_,rfl,rfl,fun _ _ _ _=>rfl⟩,⟨_,rfl,rfl,rfl⟩,⟨_,rfl,rfl,rfl⟩,.inl ⟨_,_,rfl,rfl,fun _ _ _ _=>rfl⟩,trivial⟩⟩
end Mx
end Go.Proofs.YtkmbnldginonbaaGreat
/- Annihilators and the minimal polynomial, step by step over the unit vectors: plain, over any field. No program. -/
namespace Go.Proofs.YtkmbnldginonbaaGreat
open Crg Pol
namespace Mx
section
variable {K:Type} [Fld K] {n:Nat} {A:Nat->Nat->K}
theorem av_mpw (v : Nat → K) : ∀ t j, j < n → av n A v t j = sm (fun i => v i * mpw n A t i j) n
 | 0,j,hj=>by
  rw[sm_one (k:=j) hj fun i _ hi=>by rw[show(mpw n A 0 i j:K)=0 from if_neg hi,mul_zero],show(mpw n A 0 j j:K)=1 from if_pos rfl,Crg.mul_one]
  rfl
 | t+1,j,hj=>by
  show sm (fun i=>av n A v t i*A i j) n=_
  rw[sm_congr (g:=fun i=>sm (fun a=>v a*mpw n A t a i*A i j) n) fun i hi=>by rw[av_mpw v t i hi,sm_mul],sm_swap]
  refine sm_congr fun a ha=>?_
  have e:=mpw_add A t 1 a j ha hj
  rw[← e,show mm n (mpw n A t) (mpw n A 1) a j=mm n (mpw n A t) A a j from sm_congr fun i hi=>by rw[show mpw n A 1 i j=A i j from mm_I hj i]]
  unfold mm
  rw[mul_sm]
  exact sm_congr fun i _=>Crg.mul_assoc _ _ _
noncomputable def evv (n:Nat) (A:Nat->Nat->K) (v:Nat->K) (g:Pol K) (j:Nat):K:=avl n A v g.f g.len j
theorem evv_of {v:Nat->K} {g:Pol K} {N:Nat} (h:g.len≤N) (j:Nat):avl n A v g.f N j=evv n A v g j:=avl_more (fun t ht=>len_out g t ht) h j
theorem evv_evm (v:Nat->K) (g:Pol K) {j:Nat} (hj:j<n):evv n A v g j=sm (fun i=>v i*evm n A g i j) n:=by
 show sm (fun t=>g.f t*av n A v t j) g.len=_
 rw[sm_congr (g:=fun t=>sm (fun i=>g.f t*(v i*mpw n A t i j)) n) fun t _=>by rw[av_mpw v t j hj,mul_sm],sm_swap]
 refine sm_congr fun i _=>?_
 unfold evm
 rw[mul_sm]
 exact sm_congr fun t _=>RE.eq [g.f t,v i,mpw n A t i j] (t0*(t1*t2)) (t1*(t0*t2)) rfl
theorem evv_mul (v:Nat->K) (g h:Pol K) {j:Nat} (hj:j<n):evv n A v (g*h) j=evv n A (evv n A v g) h j:=by
 rw[evv_evm _ _ hj,evv_evm _ _ hj,sm_congr (g:=fun i=>sm (fun a=>v i*evm n A g i a*evm n A h a j) n) fun i hi=>by
  rw[evm_mul h g.len g (Nat.le_refl _) i j hi hj]
  unfold mm
  rw[mul_sm]
  exact sm_congr fun a _=>(Crg.mul_assoc _ _ _).symm,sm_swap]
 refine sm_congr fun a ha=>?_
 rw[evv_evm v g ha,sm_mul]
theorem evv_zero (h:Pol K) {v:Nat->K} (hv:∀ i,i<n->v i=0) {j:Nat} (hj:j<n):evv n A v h j=0:=by
 rw[evv_evm _ _ hj]
 exact sm_zero fun i hi=>by rw[hv i hi,zero_mul]
theorem evv_sub (v:Nat->K) (g h:Pol K) (j:Nat):evv n A v (g-h) j=evv n A v g j-evv n A v h j:=by
 rw[← evv_of (len_sub g h),← evv_of (Nat.le_max_left g.len h.len),← evv_of (Nat.le_max_right g.len h.len),← avl_sub]
 rfl
structure Ann (n : Nat) (A : Nat → Nat → K) (v : Nat → K) (g : Pol K) : Prop where
 mon:Monic g
 zero:∀ j,j<n->evv n A v g j=0
 low:∀ h:Pol K,(∀ j,j<n->evv n A v h j=0)->Dvs g h
theorem Kns.ann {R:Nat} {v:Nat->K} {kn:Nat->Kn K} {b:Nat->K} (h:Kns n A v R kn b) (h0:∀ j,j<n->(rdw n A v kn R R).1 j=0):∃ g:Pol K,g.len=R+1/\(∀ j,g.f j=(rdw n A v kn R R).2 j)/\Ann n A v g:=by
 obtain⟨-,h2,h3,h4⟩:=h.inv (Nat.le_refl R) (Nat.le_refl R)
 let g:Pol K:=⟨(rdw n A v kn R R).2,R+1,fun j hj=>h3 j (by omega)⟩
 have hl:g.len=R+1:=len_eq (fun j hj=>h3 j (by omega)) (by show(rdw n A v kn R R).2 R≠0;rw[h4];exact Fld.one_ne)
 have hz:∀ j,j<n->evv n A v g j=0:=fun j hj=>by
  rw[← evv_of (Nat.le_of_eq hl) j]
  exact(h2 j).symm.trans (h0 j hj)
 have hm:Monic g:=⟨by omega,by show g.f (g.len-1)=1;rw[hl];exact h4⟩
 refine⟨g,hl,fun _=>rfl,hm,hz,fun f hf=>?_⟩
 obtain⟨q,r,e,hr⟩:=div_ex f (ne_of_len hm.1)
 have er:r=f-g*q:=by rw[e];exact RE.eq [q,g,r] t2 (t0*t1+t2-t1*t0) rfl
 have z:∀ j,j<n->evv n A v r j=0:=fun j hj=>by
  rw[er,evv_sub,hf j hj,evv_mul v g q hj,evv_zero q hz hj,sub_zero]
 have hr0:r=0:=Pol.ext fun t=>h.least R (Nat.le_refl R) r.f (fun t ht=>len_out r t (by omega)) (fun j hj=>by rw[evv_of (by omega) j];exact z j hj) t
 exact⟨q,by rw[e,hr0,Crg.add_zero,Crg.mul_comm]⟩
structure Mn (n : Nat) (A : Nat → Nat → K) (m : Nat) (f : Pol K) : Prop where
 mon:Monic f
 zero:∀ i j,i<m->j<n->evm n A f i j=0
 low:∀ h:Pol K,(∀ i j,i<m->j<n->evm n A h i j=0)->Dvs f h
theorem Mn.start:Mn n A 0 (1:Pol K):=⟨⟨by rw[len_one];omega,by show(1:Pol K).f ((1:Pol K).len-1)=1;rw[len_one];rfl⟩,fun i _ hi=>absurd hi (Nat.not_lt_zero i),fun h _=>Dvs.one h⟩
theorem monic_mul {f g:Pol K} (hf:Monic f) (hg:Monic g):Monic (f*g):=by
 have h1:=ne_of_len hf.1
 have h2:=ne_of_len hg.1
 exact⟨len_pos fun e=>(domain e).elim h1 h2,by rw[lead_mul h1 h2,hf.2,hg.2,Crg.mul_one]⟩
theorem Mn.step {m : Nat} {f g : Pol K} (h : Mn n A m f) (hm : m < n) (hg : Ann n A (evm n A f m) g) : Mn n A (m + 1) (f * g) where
 mon:=monic_mul h.mon hg.mon
 zero i j hi hj:=by
  rw[evm_mul g f.len f (Nat.le_refl _) i j (by omega) hj]
  rcases Nat.lt_or_ge i m with e | e
  ·exact sm_zero fun a ha=>by rw[h.zero i a e ha,zero_mul]
  ·rw[show i=m by omega,← hg.zero j hj,evv_evm _ _ hj]
   rfl
 low q hq:=by
  obtain⟨r,hr⟩:=h.low q fun i j hi hj=>hq i j (by omega) hj
  obtain⟨s,hs⟩:=hg.low r fun j hj=>by
   rw[evv_evm _ _ hj,← hq m j (by omega) hj,hr,evm_mul r f.len f (Nat.le_refl _) m j hm hj]
   rfl
  exact⟨s,by rw[hr,hs,Crg.mul_assoc]⟩
end
end Mx
end Go.Proofs.YtkmbnldginonbaaGreat
/- Runs whose results are told cell by cell. -/
namespace Go.Proofs.YtkmbnldginonbaaGreat
open Go.RowKit
def sameC : Cell → Cell → Bool
 | .bool a,.bool b=>a == b
 | .int k a,.int l b=>decide (k=l)&&decide (a=b)
 | .nil,.nil=>true
 | .nil,.row _ n _=>n == 0
 | .row sz n f,.row sz' n' f'=>sz == sz'&&(n == n'&&((List.range n).all fun i=>(List.range sz).all fun j=>sameC (f i j) (f' i j)))
 | _,_=>false
theorem sameC_ok (a:Cell):∀(b:Cell),sameC a b=true->∀(D:Nat->Prop) (w:World) (v:Value),CRel D w [] a v->CRel D w [] b v:=by
 induction a with
 | bool a =>
  intro b h D w v hv
  cases b with
  | bool b=>simp[sameC]at h;subst h;exact hv
  | _=>simp[sameC]at h
 | int k a =>
  intro b h D w v hv
  cases b with
  | int l b=>simp[sameC]at h;obtain⟨rfl,rfl⟩:=h;exact hv
  | _=>simp[sameC]at h
 | nil =>
  intro b h D w v hv
  cases b with
  | nil=>exact hv
  | row sz n f =>
   have h:n=0:=by simpa [sameC] using h
   subst h
   have hv:v = .slice none 0 0:=hv
   exact⟨none,0,hv,Nat.le_refl _,fun h=>absurd h (Nat.lt_irrefl 0)⟩
  | _=>simp[sameC]at h
 | row sz n f ih =>
  intro b h D w v hv
  cases b with
  | row sz' n' f' =>
   simp only[sameC,Bool.and_eq_true,beq_iff_eq,List.all_eq_true,List.mem_range]at h
   obtain⟨rfl,rfl,h⟩:=h
   obtain⟨A,c,e1,e2,e3⟩:=hv
   refine⟨A,c,e1,e2,fun hn=>?_⟩
   obtain⟨b,o,g1,g2,g3,g4⟩:=e3 hn
   refine⟨b,o,g1,g2,g3,fun i j hi hj=>?_⟩
   obtain⟨u,hu,hr⟩:=g4 i j hi hj
   exact⟨u,hu,ih i j (f' i j) (h i hi j hj) D w u hr⟩
  | _=>simp[sameC]at h
 | _=>intro b h;cases b <;> simp[sameC]at h
def sameL : List Cell → List Cell → Bool
 | [],[]=>true
 | a :: l,b :: l'=>sameC a b&&sameL l l'
 | _,_=>false
def sameV : V → V → Bool
 | .c a,.c b=>sameC a b
 | .g l,.g l'=>sameL l l'
 | .t2 a b,.t2 c d=>sameV a c&&sameV b d
 | _,_=>false
theorem sameL_ok : ∀ (l l' : List Cell), sameL l l' = true → ∀ (D : Nat → Prop) (w : World) (vs : List Value), CRels D w [] l vs → CRels D w [] l' vs
 | [],[],_,_,_,_,hv=>hv
 | a :: l,b :: l',h,D,w,v :: vs,hv=>by
  simp only[sameL,Bool.and_eq_true]at h
  exact⟨sameC_ok a b h.1 D w v hv.1,sameL_ok l l' h.2 D w vs hv.2⟩
 | [],_ :: _,h,_,_,_,_=>by simp[sameL]at h
 | _ :: _,[],h,_,_,_,_=>by simp[sameL]at h
 | _ :: _,_ :: _,_,_,_,[],hv=>hv.elim
theorem sameV_ok : ∀ (a b : V), sameV a b = true → ∀ (D : Nat → Prop) (w : World) (v : Value), VRel D w [] a v → VRel D w [] b v
 | .c a,.c b,h,D,w,v,hv=>sameC_ok a b h D w v hv
 | .g l,.g l',h,D,w,v,hv=>by
  obtain⟨vs,h1,h2⟩:=hv
  exact⟨vs,h1,sameL_ok l l' h D w _ h2⟩
 | .t2 a b,.t2 c d,h,D,w,v,hv=>by
  simp only[sameV,Bool.and_eq_true]at h
  obtain⟨x,y,h1,h2,h3⟩:=hv
  exact⟨x,y,h1,sameV_ok a c h.1 D w x h2,sameV_ok b d h.2 D w y h3⟩
 | .c _,.g _,h,_,_,_,_=>by simp[sameV]at h
 | .c _,.t2 ..,h,_,_,_,_=>by simp[sameV]at h
 | .c _,.t3 ..,h,_,_,_,_=>by simp[sameV]at h
 | .c _,.t4 ..,h,_,_,_,_=>by simp[sameV]at h
 | .g _,.c _,h,_,_,_,_=>by simp[sameV]at h
 | .g _,.t2 ..,h,_,_,_,_=>by simp[sameV]at h
 | .g _,.t3 ..,h,_,_,_,_=>by simp[sameV]at h
 | .g _,.t4 ..,h,_,_,_,_=>by simp[sameV]at h
 | .t2 ..,.c _,h,_,_,_,_=>by simp[sameV]at h
 | .t2 ..,.g _,h,_,_,_,_=>by simp[sameV]at h
 | .t2 ..,.t3 ..,h,_,_,_,_=>by simp[sameV]at h
 | .t2 ..,.t4 ..,h,_,_,_,_=>by simp[sameV]at h
 | .t3 ..,_,h,_,_,_,_=>by simp[sameV]at h
 | .t4 ..,_,h,_,_,_,_=>by simp[sameV]at h
 | .un,_,h,_,_,_,_=>by simp[sameV]at h
 | .c _,.un,h,_,_,_,_=>by simp[sameV]at h
 | .g _,.un,h,_,_,_,_=>by simp[sameV]at h
 | .t2 ..,.un,h,_,_,_,_=>by simp[sameV]at h
theorem run_same {inl:FuncId->Bool} {f:FuncId} {args:List V} {Y:V} (h:(pureX orcC (runX ER orcC okF inl 1000 40) f args).map (fun X=>sameV X Y)=some true):FnOK Tryz.prog false f args Y:=by
 cases hx:pureX orcC (runX ER orcC okF inl 1000 40) f args with
 | none=>rw[hx]at h;cases h
 | some X =>
  rw[hx]at h
  have h:sameV X Y=true:=by simpa using h
  have hf:=run_call orcC_ok hx
  refine⟨hf.1,fun D w vs h1 h2 h3=>(hf.2 D w vs h1 h2 h3).mono ?_⟩
  rintro e w' ⟨v,h4,h5,h6⟩
  exact⟨v,h4,sameV_ok X Y h D w' v h5,h6⟩
end Go.Proofs.YtkmbnldginonbaaGreat
/- The document's polynomials over the rational numbers: normal form, degree, product. -/
set_option maxHeartbeats 8000000
namespace Go.Proofs.YtkmbnldginonbaaGreat
open Go.RowKit
namespace Rf
theorem normal6_ok {n:Nat} {q:Nat->RawR} {v:Nat->Rat} (hn:n≤4096) (hv:∀ i,i<n->(q i).val=v i) (hq:∀ i,i<n->wq (q i)) (hl:∀ i,i<n->qlen (v i)≤524286):FnOK Tryz.prog false 61 [.c (ql n q)] (.c (nql (Q.tq v n) v)):=by
 have h1:∀ i,i<n->FnOK Tryz.prog false 102 [.g (rr (q i))] (.g (nq (v i))):=fun i hi=>by
  rw[← hv i hi]
  exact rqnormal_ok (hq i hi)
 have h2:∀ i,i<n->FnOK Tryz.prog false 106 [.g (nq (v i))] (.c (.int .i64 (v i).num.sign)):=fun i hi=>rqsign_n (hl i hi)
 clear hv hq hl
 refine fn_ok (E:=E0) E0_ok Tryz.func61 rfl mixed (by kernel_rfl) (by kernel_rfl) ?_
 conv=>whnf
 refine loop_ints (fun i:Nat=>gst [(0,.c (ql n q)),(3,.c (.gs 0 0)),(4,.c (.int .i64 i))] [gqr i fun k=>ofR (v k)]) (fun i=>n-i) (fun i=>i≤n) 0 rfl (Weak.gen [none] rfl ⟨rfl,trivial⟩ ⟨.inl ⟨_,_,rfl,rfl,fun _ _ _ _=>rfl⟩,rfl,⟨_,rfl,rfl⟩,trivial⟩) (Nat.zero_le _) fun i hi=>?_
 conv=>whnf
 refine bcase (fun(h:decide ((i:Int)<n)=true)=>?_) fun(h:decide ((i:Int)<n)=false)=>?_
 ·have h:=of_decide_eq_true h
  have g1:=h1 i (by omega)
  conv=>whnf
  refine⟨by omega,?_⟩
  conv=>whnf
  refine⟨by omega,?_⟩
  conv=>whnf
  refine⟨_,g1,?_⟩
  conv=>whnf
  refine⟨by show i+1≤16777216;omega,fun x y hx hy=>one_nq (v i) _ x y hx hy,?_⟩
  conv=>whnf
  refine⟨i64 (by omega) (by omega),?_⟩
  conv=>whnf
  refine⟨i+1,by omega,Weak.gen [some 0] rfl ⟨⟨_,rfl,rfl,rfl,rfl,rfl,fun j k hj hk=>?_⟩,trivial⟩ ⟨.inl ⟨_,_,rfl,rfl,fun _ _ _ _=>rfl⟩,⟨_,rfl,rfl,rfl⟩,⟨_,rfl,rfl⟩,trivial⟩,by omega⟩
  exact regE (appG (sz:=4) (g:=fun i=>nq (v i)) (g':=fun i=>nq (v i)) (l:=nq (v i)) (app_sameq v i j) (Nat.le_refl (i+1)) hj) (ql_clos (c:=fun i=>ofR (v i)) j k)
 ·have h:=of_decide_eq_false h
  have e:i=n:=by omega
  conv=>whnf
  refine loop_ints (fun m:Nat=>gst [(3,.c (.gs 0 0)),(5,.c (.int .i64 m))] [gqr i fun k=>ofR (v k)]) (fun m=>m) (fun m=>m≤i/\Q.tq v m=Q.tq v i) i rfl (Weak.gen [some 0] rfl ⟨⟨_,rfl,rfl,rfl,rfl,rfl,fun j k hj hk=>regE rfl (ql_clos (c:=fun i=>ofR (v i)) j k)⟩,trivial⟩ ⟨⟨_,rfl,rfl,rfl⟩,⟨_,rfl,rfl⟩,trivial⟩) ⟨Nat.le_refl _,rfl⟩ fun m ⟨hm,ht⟩=>?_
  conv=>whnf
  refine bcase (fun(h:gw true (decide ((0:Int)<m))=true)=>?_) fun(h:gw true (decide ((0:Int)<m))=false)=>?_
  ·have h:=of_decide_eq_true (gw_true.1 h)
   have ek:((m:Int)-1).toNat=m-1:=by omega
   have hs:=h2 ((m:Int)-1).toNat (by omega)
   have hz:v ((m:Int)-1).toNat=0->Q.tq v (m-1)=Q.tq v i:=fun h=>by
    rw[← ht]
    obtain⟨k,rfl⟩:∃ k,m=k+1:=⟨m-1,by omega⟩
    rw[ek]at h
    show Q.tq v k=_
    simp only[Q.tq,Nat.add_sub_cancel]at h ⊢
    rw[if_pos h]
   have hz':v ((m:Int)-1).toNat≠0->m=Q.tq v n:=fun h=>by
    rw[← e,← ht]
    obtain⟨k,rfl⟩:∃ k,m=k+1:=⟨m-1,by omega⟩
    rw[ek]at h
    simp only[Q.tq,Nat.add_sub_cancel]at h ⊢
    rw[if_neg h]
   conv=>whnf
   refine⟨i64 (by omega) (by omega),?_⟩
   conv=>whnf
   refine⟨by omega,?_⟩
   conv=>whnf
   refine⟨by show((m:Int)-1)<(i:Int);omega,?_⟩
   conv=>whnf
   refine⟨_,hs,?_⟩
   conv=>whnf
   refine bcase (fun(h3:decide ((v ((m:Int)-1).toNat).num.sign=0)=true)=>?_) fun(h3:decide ((v ((m:Int)-1).toNat).num.sign=0)=false)=>?_
   ·have h3:=Rat.num_eq_zero.1 (Int.sign_eq_zero_iff_zero.1 (of_decide_eq_true h3))
    have g3:=hz h3
    conv=>whnf
    refine⟨i64 (by omega) (by omega),?_⟩
    conv=>whnf
    exact⟨m-1,by omega,Weak.gen [some 0] rfl ⟨⟨_,rfl,rfl,rfl,rfl,rfl,fun j k hj hk=>regE rfl (ql_clos (c:=fun i=>ofR (v i)) j k)⟩,trivial⟩ ⟨⟨_,rfl,rfl,rfl⟩,⟨_,rfl,by omega⟩,trivial⟩,by omega,g3⟩
   ·have h3:=hz' fun e=>of_decide_eq_false h3 (by rw[e];rfl)
    conv=>whnf
    refine⟨by omega,by omega,?_⟩
    conv=>whnf
    refine⟨by show(m:Int)≤(i:Int);omega,?_⟩
    conv=>whnf
    refine⟨fun j k _ _=>ql_clos (c:=fun i=>ofR (v i)) j k,?_⟩
    conv=>whnf
    exact⟨rfl,subRowG (by show((m:Int)-0).toNat=_;omega) fun j k _ _=>qlF_eq (c:=fun i=>ofR (v i)) (e:=fun i=>ofR (v i)) (i:=Int.toNat 0+j) (k:=j) (congrArg (fun t=>ofR (v t)) (by omega))⟩
  ·have h:¬(0:Int)<m:=of_decide_eq_false (gw_false.1 h)
   have h3:Q.tq v n=0:=by rw[← e,← ht];rw[show m=0 by omega];rfl
   conv=>whnf
   refine⟨by omega,by omega,?_⟩
   conv=>whnf
   refine⟨by show(m:Int)≤(i:Int);omega,?_⟩
   conv=>whnf
   refine⟨fun j k _ _=>ql_clos (c:=fun i=>ofR (v i)) j k,?_⟩
   conv=>whnf
   exact⟨rfl,subRowG (by show((m:Int)-0).toNat=_;omega) fun j k _ _=>qlF_eq (c:=fun i=>ofR (v i)) (e:=fun i=>ofR (v i)) (i:=Int.toNat 0+j) (k:=j) (congrArg (fun t=>ofR (v t)) (by omega))⟩
abbrev cfi (F G:Nat->Rat) (k i:Nat):Rat:=Q.su (fun a=>F a*G (k-a)) i
theorem mul6_ok {n m:Nat} {q p:Nat->RawR} {F G:Nat->Rat} (hF:Q.qx n (fun i=>(q i).val)=F) (hG:Q.qx m (fun i=>(p i).val)=G) (hn:n≤1024) (hm:m≤1024) (hq:∀ i,i<n->wq (q i)) (hp:∀ i,i<m->wq (p i)) (lF:∀ i,qlen (F i)≤65535) (lG:∀ i,qlen (G i)≤65535) (hs:∀ k i,qlen (cfi F G k i)≤131070):FnOK Tryz.prog false 34 [.c (ql n q),.c (ql m p)] (.c (nql (Q.tq (Q.cf F G) (n+m)) (Q.cf F G))):=by
 have s1:=normal6_ok (n:=n) (q:=q) (v:=F) (by omega) (fun i hi=>by rw[← hF];exact(Q.qx_lt (v:=fun i=>(q i).val) hi).symm) hq fun i _=>by have:=lF i;omega
 have s2:=normal6_ok (n:=m) (q:=p) (v:=G) (by omega) (fun i hi=>by rw[← hG];exact(Q.qx_lt (v:=fun i=>(p i).val) hi).symm) hp fun i _=>by have:=lG i;omega
 have f1:Q.Fin (Q.tq F n) F:=Q.tq_fin (by rw[← hF];exact Q.qx_fin _ _)
 have f2:Q.Fin (Q.tq G m) G:=Q.tq_fin (by rw[← hG];exact Q.qx_fin _ _)
 have l1:=Q.tq_le F n
 have l2:=Q.tq_le G m
 have fN:Q.Fin (n+m) (Q.cf F G):=(f1.cf f2).mono (by omega)
 generalize Q.tq F n=a at *
 generalize Q.tq G m=b at *
 have z1:a=0->Q.tq (Q.cf F G) (n+m)=0:=fun e=>tq_zero (fun k=>Q.su_zero fun i _=>by rw[f1 i (by omega),Rat.zero_mul]) _
 have z2:b=0->Q.tq (Q.cf F G) (n+m)=0:=fun e=>tq_zero (fun k=>Q.su_zero fun i _=>by rw[f2 (k-i) (by omega),Rat.mul_zero]) _
 have z3:a≠0->b≠0->∀ k,k=a+b-1->Q.tq (Q.cf F G) k=Q.tq (Q.cf F G) (n+m):=fun e1 e2 k e=>Q.tq_eq (fun k hk=>Q.su_zero fun i hi=>by
  rcases Nat.lt_or_ge i a with c | c
  ·rw[f2 (k-i) (by omega),Rat.mul_zero]
  ·rw[f1 i c,Rat.zero_mul]) fN
 have s3:∀ k,k≤a+b->FnOK Tryz.prog false 61 [.c (nql k (Q.cf F G))] (.c (nql (Q.tq (Q.cf F G) k) (Q.cf F G))):=fun k hk=>normal6_ok (by omega) (fun i _=>ofR_val _) (fun i _=>wq_n (by have:=hs i (i+1);have:qlen (Q.cf F G i)≤131070:=this;omega)) fun i _=>by have:=hs i (i+1);have:qlen (Q.cf F G i)≤131070:=this;omega
 have m0:∀ k i:Nat,FnOK Tryz.prog false 91 [.g (nq (F i)),.g (nq (G ((k:Int)-(i:Int)).toNat))] (.g (nq (F i*G (k-i)))):=fun k i=>by
  rw[show((k:Int)-(i:Int)).toNat=k-i by omega]
  exact rqmul_n (lF i) (lG _)
 have a0:∀ k i,FnOK Tryz.prog false 53 [.g (nq (cfi F G k i)),.g (nq (F i*G (k-i)))] (.g (nq (cfi F G k (i+1)))):=fun k i=>rqadd_n (hs k i) (qlen_mul (lF i) (lG _) (by decide))
 have e0:∀ k i,i≤k->(a≤i∨b≤k-i)->cfi F G k i=cfi F G k (i+1):=fun k i _ h=>by
  show _=cfi F G k i+F i*G (k-i)
  rcases h with h | h
  ·rw[f1 i h,Rat.zero_mul,Rat.add_zero]
  ·rw[f2 (k-i) h,Rat.mul_zero,Rat.add_zero]
 have o0:=rqof_zero
 obtain⟨S,hS⟩:∃ S:Nat->Nat->Rat,S=cfi F G:=⟨_,rfl⟩
 have hS1:∀ k,S k (k+1)=Q.cf F G k:=fun k=>by rw[hS];rfl
 have hS0:∀ k,S k 0=0:=fun k=>by rw[hS];rfl
 rw[← hS]at a0 e0
 clear hS hs lF lG hq hp hF hG f1 f2 fN
 generalize Q.cf F G=C at *
 refine fn_ok (E:=E0) E0_ok Tryz.func34 rfl mixed (by kernel_rfl) (by kernel_rfl) ?_
 conv=>whnf
 refine .inr ?_
 conv=>whnf
 refine⟨_,s1,?_⟩
 conv=>whnf
 refine .inr ?_
 conv=>whnf
 refine⟨_,s2,?_⟩
 conv=>whnf
 refine bcase (fun(h:gw false (decide ((a:Int)=0))=true)=>?_) fun(h:gw false (decide ((a:Int)=0))=false)=>?_
 ·have h:a≠0:=by have:=of_decide_eq_false (gwf h);omega
  conv=>whnf
  refine bcase (fun(h2:decide ((b:Int)=0)=true)=>?_) fun(h2:decide ((b:Int)=0)=false)=>?_
  ·have h2:b=0:=by have:=of_decide_eq_true h2;omega
   conv=>whnf
   exact⟨rfl,sub_nil0 (z2 h2)⟩
  have h2:b≠0:=by have:=of_decide_eq_false h2;omega
  have z3:=z3 h h2
  conv=>whnf
  refine loop_ints (fun k:Nat=>gst [(5,.c (nql a F)),(6,.c (nql b G)),(7,.c (.gs 0 0)),(8,.c (.int .i64 k))] [gqr k fun i=>ofR (C i)]) (fun k=>a+b-1-k) (fun k=>k≤a+b-1) 0 rfl (Weak.gen [none] rfl ⟨rfl,trivial⟩ ⟨.inl ⟨_,_,rfl,rfl,fun _ _ _ _=>rfl⟩,.inl ⟨_,_,rfl,rfl,fun _ _ _ _=>rfl⟩,rfl,⟨_,rfl,rfl⟩,trivial⟩) (Nat.zero_le _) fun k hk=>?_
  have s3:=s3 k
  have z3:=z3 k
  have m0:=m0 k
  have a0:=a0 k
  have e0:=e0 k
  have hS1:=hS1 k
  have hS0:=hS0 k
  conv=>whnf
  refine⟨i64 (by omega) (by omega),?_⟩
  conv=>whnf
  refine⟨i64 (by omega) (by omega),?_⟩
  conv=>whnf
  refine bcase (fun(h3:decide ((k:Int)<(a:Int)+(b:Int)-1)=true)=>?_) fun(h3:decide ((k:Int)<(a:Int)+(b:Int)-1)=false)=>?_
  ·have h3:=of_decide_eq_true h3
   conv=>whnf
   refine⟨_,o0,?_⟩
   conv=>whnf
   refine loop_ints (fun i:Nat=>gst [(5,.c (nql a F)),(6,.c (nql b G)),(7,.c (.gs 0 0)),(8,.c (.int .i64 k)),(9,.c (.p 1 0 4 0 0)),(10,.c (.int .i64 i))] [gqr k fun i=>ofR (C i),⟨38,4,1,boxF (nq (S k i))⟩]) (fun i=>k+1-i) (fun i=>i≤k+1) 0 rfl (Weak.gen [some 0,some 1] rfl ⟨⟨_,rfl,rfl,rfl,rfl,rfl,fun x y hx hy=>regE rfl (ql_clos (c:=fun i=>ofR (C i)) x y)⟩,(by rw[hS0];exact boxU rfl rfl rfl),trivial⟩ ⟨.inl ⟨_,_,rfl,rfl,fun _ _ _ _=>rfl⟩,.inl ⟨_,_,rfl,rfl,fun _ _ _ _=>rfl⟩,⟨_,rfl,rfl,rfl⟩,⟨_,rfl,rfl⟩,⟨_,rfl,rfl,rfl⟩,⟨_,rfl,rfl⟩,trivial⟩) (Nat.zero_le _) fun i hi=>?_
   have m0:=m0 i
   have a0:=a0 i
   have e0:=e0 i
   conv=>whnf
   refine bcase (fun(h4:decide ((i:Int)≤k)=true)=>?_) fun(h4:decide ((i:Int)≤k)=false)=>?_
   ·have h4:=of_decide_eq_true h4
    conv=>whnf
    refine bcase (fun(h5:gw true (decide ((i:Int)<a))=true)=>?_) fun(h5:gw true (decide ((i:Int)<a))=false)=>?_
    ·have h5:=of_decide_eq_true (gw_true.1 h5)
     conv=>whnf
     refine⟨i64 (by omega) (by omega),?_⟩
     conv=>whnf
     refine bcase (fun(h6:decide ((k:Int)-(i:Int)<b)=true)=>?_) fun(h6:decide ((k:Int)-(i:Int)<b)=false)=>?_
     ·have h6:=of_decide_eq_true h6
      conv=>whnf
      refine⟨by omega,by omega,?_⟩
      conv=>whnf
      refine⟨i64 (by omega) (by omega),?_⟩
      conv=>whnf
      refine⟨by omega,by omega,?_⟩
      conv=>whnf
      refine⟨_,m0,?_⟩
      conv=>whnf
      refine⟨_,a0,?_⟩
      conv=>whnf
      refine⟨i64 (by omega) (by omega),?_⟩
      conv=>whnf
      exact⟨i+1,by omega,Weak.gen [some 0,some 1] rfl ⟨⟨_,rfl,rfl,rfl,rfl,rfl,fun x y hx hy=>regE rfl (ql_clos (c:=fun i=>ofR (C i)) x y)⟩,boxU rfl rfl rfl,trivial⟩ ⟨.inl ⟨_,_,rfl,rfl,fun _ _ _ _=>rfl⟩,.inl ⟨_,_,rfl,rfl,fun _ _ _ _=>rfl⟩,⟨_,rfl,rfl,rfl⟩,⟨_,rfl,rfl⟩,⟨_,rfl,rfl,rfl⟩,⟨_,rfl,rfl⟩,trivial⟩,by omega⟩
     ·have h6:=of_decide_eq_false h6
      have e0:=e0 (by omega) (.inr (by omega))
      conv=>whnf
      refine⟨i64 (by omega) (by omega),?_⟩
      conv=>whnf
      exact⟨i+1,by omega,Weak.gen [some 0,some 1] rfl ⟨⟨_,rfl,rfl,rfl,rfl,rfl,fun x y hx hy=>regE rfl (ql_clos (c:=fun i=>ofR (C i)) x y)⟩,(by rw[← e0];exact boxK rfl rfl),trivial⟩ ⟨.inl ⟨_,_,rfl,rfl,fun _ _ _ _=>rfl⟩,.inl ⟨_,_,rfl,rfl,fun _ _ _ _=>rfl⟩,⟨_,rfl,rfl,rfl⟩,⟨_,rfl,rfl⟩,⟨_,rfl,rfl,rfl⟩,⟨_,rfl,rfl⟩,trivial⟩,by omega⟩
    ·have h5:=of_decide_eq_false (gw_false.1 h5)
     have e0:=e0 (by omega) (.inl (by omega))
     conv=>whnf
     refine⟨i64 (by omega) (by omega),?_⟩
     conv=>whnf
     exact⟨i+1,by omega,Weak.gen [some 0,some 1] rfl ⟨⟨_,rfl,rfl,rfl,rfl,rfl,fun x y hx hy=>regE rfl (ql_clos (c:=fun i=>ofR (C i)) x y)⟩,(by rw[← e0];exact boxK rfl rfl),trivial⟩ ⟨.inl ⟨_,_,rfl,rfl,fun _ _ _ _=>rfl⟩,.inl ⟨_,_,rfl,rfl,fun _ _ _ _=>rfl⟩,⟨_,rfl,rfl,rfl⟩,⟨_,rfl,rfl⟩,⟨_,rfl,rfl,rfl⟩,⟨_,rfl,rfl⟩,trivial⟩,by omega⟩
   ·have h4:=of_decide_eq_false h4
    have ei:S k i=C k:=by rw[show i=k+1 by omega];exact hS1
    conv=>whnf
    refine⟨by show k+1≤16777216;omega,fun x y hx hy=>one_nq (S k i) _ x y hx hy,?_⟩
    conv=>whnf
    refine⟨i64 (by omega) (by omega),?_⟩
    conv=>whnf
    refine⟨k+1,by omega,Weak.gen [some 0] rfl ⟨⟨_,rfl,rfl,rfl,rfl,rfl,fun x y hx hy=>regE ?_ (ql_clos (c:=fun i=>ofR (C i)) x y)⟩,trivial⟩ ⟨.inl ⟨_,_,rfl,rfl,fun _ _ _ _=>rfl⟩,.inl ⟨_,_,rfl,rfl,fun _ _ _ _=>rfl⟩,⟨_,rfl,rfl,rfl⟩,⟨_,rfl,rfl⟩,trivial⟩,by omega⟩
    exact appG (sz:=4) (g:=fun k=>nq (C k)) (g':=fun k=>nq (C k)) (l:=nq (S k i)) (by rw[ei];exact app_sameq C k x) (Nat.le_refl (k+1)) hx
  ·have h3:=of_decide_eq_false h3
   have s3:=s3 (by omega)
   rw[z3 (by omega)]at s3
   conv=>whnf
   refine .inr ⟨fun x y _ _=>ql_clos (c:=fun i=>ofR (C i)) x y,?_⟩
   conv=>whnf
   refine⟨_,s3,?_⟩
   conv=>whnf
   exact⟨rfl,Sub.refl _⟩
 ·have h:a=0:=by have:=of_decide_eq_true (gwf' h);omega
  conv=>whnf
  exact⟨rfl,sub_nil0 (z1 h)⟩
end Rf
end Go.Proofs.YtkmbnldginonbaaGreat
/- Plain laws of finite sums of fractions, of matrices as functions, and of polynomials at matrices. -/
namespace Go.Proofs.YtkmbnldginonbaaGreat
def rsm : Nat → (Nat → Rat) → Rat
 | 0,_=>0
 | n+1,f=>rsm n f+f n
abbrev Mx:=Nat->Nat->Rat
def mmul (d:Nat) (a b:Mx):Mx:=fun i j=>rsm d fun k=>a i k*b k j
def madd (a b:Mx):Mx:=fun i j=>a i j+b i j
def mscale (c:Rat) (a:Mx):Mx:=fun i j=>c*a i j
def mone:Mx:=fun i j=>if i=j then 1 else 0
def horner (d : Nat) (a : Mx) : Nat → (Nat → Rat) → Mx
 | 0,_=>fun _ _=>0
 | n+1,f=>madd (mmul d (horner d a n fun i=>f (i+1)) a) (mscale (f 0) mone)
end Go.Proofs.YtkmbnldginonbaaGreat
/- Plain laws of the size of fractions: over a common denominator. -/
namespace Go.Proofs.YtkmbnldginonbaaGreat
def Fits (D N:Nat) (x:Rat):Prop:=∃ k:Int,x=ratio k D/\k.natAbs≤N
theorem Fits.zero (D N:Nat):Fits D N 0:=⟨0,(ratio_zero_left _).symm,by simp⟩
theorem Fits.mono {D N N':Nat} {x:Rat} (h:Fits D N x) (hN:N≤N'):Fits D N' x:=by
 obtain⟨k,hk,hb⟩:=h
 exact⟨k,hk,by omega⟩
theorem ratio_add_same (a b d:Int):ratio a d+ratio b d=ratio (a+b) d:=by
 unfold ratio;simp only[Rat.intCast_add,Rat.div_def];grind
theorem ratio_scale (a d:Int) {e:Int} (he:e≠0):ratio (a*e) (d*e)=ratio a d:=by
 rw[← ratio_mul]
 have:ratio e e=1:=by
  have g:=cast_ne he
  unfold ratio
  generalize (e:Rat)=x at *
  grind
 rw[this];grind
theorem Fits.add {D N M:Nat} {x y:Rat} (h:Fits D N x) (k:Fits D M y):Fits D (N+M) (x+y):=by
 obtain⟨a,rfl,ha⟩:=h
 obtain⟨b,rfl,hb⟩:=k
 exact⟨a+b,ratio_add_same _ _ _,by have:=Int.natAbs_add_le a b;omega⟩
theorem Fits.mul {D E N M:Nat} {x y:Rat} (h:Fits D N x) (k:Fits E M y):Fits (D*E) (N*M) (x*y):=by
 obtain⟨a,rfl,ha⟩:=h
 obtain⟨b,rfl,hb⟩:=k
 refine⟨a*b,?_,?_⟩
 ·rw[ratio_mul];push_cast;rfl
 ·rw[Int.natAbs_mul];exact Nat.mul_le_mul ha hb
theorem Fits.scale {D N:Nat} {x:Rat} (h:Fits D N x) {e:Nat} (he:0<e):Fits (D*e) (N*e) x:=by
 obtain⟨a,rfl,ha⟩:=h
 refine⟨a*e,?_,?_⟩
 ·rw[show((D*e:Nat):Int)=(D:Int)*(e:Int)by push_cast;rfl,ratio_scale _ _ (by omega)]
 ·rw[Int.natAbs_mul,Int.natAbs_natCast];exact Nat.mul_le_mul ha (Nat.le_refl _)
theorem Fits.small {D N:Nat} {x:Rat} (h:Fits D N x) (hD:0<D):x.num.natAbs≤N/\x.den≤D:=by
 obtain⟨a,rfl,ha⟩:=h
 have:=ratio_small (n:=a) hD
 omega
theorem Fits.of (x:Rat):Fits x.den x.num.natAbs x:=⟨x.num,(ratio_num_den x).symm,Nat.le_refl _⟩
def dens : Nat → (Nat → Rat) → Nat
 | 0,_=>1
 | n+1,f=>dens n f*(f n).den
theorem dens_pos (n:Nat) (f:Nat->Rat):0<dens n f:=by
 induction n with
 | zero=>simp[dens]
 | succ n ih=>exact Nat.mul_pos ih (f n).den_pos
theorem dens_le {n C:Nat} {f:Nat->Rat} (h:∀ i,i<n->(f i).den≤C):dens n f≤C^n:=by
 induction n with
 | zero=>simp[dens]
 | succ n ih=>rw[Nat.pow_succ];exact Nat.mul_le_mul (ih fun i hi=>h i (by omega)) (h n (by omega))
theorem fits_dens {n C:Nat} {f:Nat->Rat} (h:∀ i,i<n->(f i).num.natAbs≤C/\(f i).den≤C):∀ i,i<n->Fits (dens n f) (C^n) (f i):=by
 induction n with
 | zero=>intro i hi;omega
 | succ n ih =>
  intro i hi
  rw[Nat.pow_succ]
  by_cases e:i=n
  ·subst e
   have h1:=Fits.of (f i)
   have h2:=h1.scale (e:=dens i f) (dens_pos i f)
   rw[show dens (i+1) f=(f i).den*dens i f from Nat.mul_comm _ _]
   refine h2.mono ?_
   rw[Nat.mul_comm]
   exact Nat.mul_le_mul (dens_le fun j hj=>(h j (by omega)).2) (h i (by omega)).1
  ·have h1:=ih (fun j hj=>h j (by omega)) i (by omega)
   exact(h1.scale (f n).den_pos).mono (Nat.mul_le_mul (Nat.le_refl _) (h n (by omega)).2)
theorem fits_sm {D N : Nat} {f : Nat → Rat} : ∀ n, (∀ i, i < n → Fits D N (f i)) → Fits D (n * N) (rsm n f)
 | 0,_=>by rw[Nat.zero_mul];exact Fits.zero _ _
 | n+1,h=>by
  rw[Nat.succ_mul]
  exact(fits_sm n fun i hi=>h i (by omega)).add (h n (by omega))
end Go.Proofs.YtkmbnldginonbaaGreat
/- Polynomials at matrices: the unit matrix, by runs; the document's sum of matrices. -/
set_option maxHeartbeats 4000000
namespace Go.Proofs.YtkmbnldginonbaaGreat
open Go.RowKit
def inlUnit (f:FuncId):Bool:=[119,109,151,108].contains f
theorem ident0:FnOK Tryz.prog false 77 [.c (.int .i64 (0:Nat))] (.t2 (.g (matL 0 0 mone)) (.c (.int .i64 0))):=run_same (inl:=inlUnit) (by kernel_rfl)
theorem ident1:FnOK Tryz.prog false 77 [.c (.int .i64 (1:Nat))] (.t2 (.g (matL 1 1 mone)) (.c (.int .i64 0))):=run_same (inl:=inlUnit) (by kernel_rfl)
theorem ident2:FnOK Tryz.prog false 77 [.c (.int .i64 (2:Nat))] (.t2 (.g (matL 2 2 mone)) (.c (.int .i64 0))):=run_same (inl:=inlUnit) (by kernel_rfl)
theorem ident3:FnOK Tryz.prog false 77 [.c (.int .i64 (3:Nat))] (.t2 (.g (matL 3 3 mone)) (.c (.int .i64 0))):=run_same (inl:=inlUnit) (by kernel_rfl)
theorem ident4:FnOK Tryz.prog false 77 [.c (.int .i64 (4:Nat))] (.t2 (.g (matL 4 4 mone)) (.c (.int .i64 0))):=run_same (inl:=inlUnit) (by kernel_rfl)
theorem ident5:FnOK Tryz.prog false 77 [.c (.int .i64 (5:Nat))] (.t2 (.g (matL 5 5 mone)) (.c (.int .i64 0))):=run_same (inl:=inlUnit) (by kernel_rfl)
theorem ident6:FnOK Tryz.prog false 77 [.c (.int .i64 (6:Nat))] (.t2 (.g (matL 6 6 mone)) (.c (.int .i64 0))):=run_same (inl:=inlUnit) (by kernel_rfl)
theorem identity_ok : ∀ {n : Nat}, n ≤ 6 → FnOK Tryz.prog true 77 [.c (.int .i64 n)] (.t2 (.g (matL n n mone)) (.c (.int .i64 0)))
 | 0,_=>ident0.weak
 | 1,_=>ident1.weak
 | 2,_=>ident2.weak
 | 3,_=>ident3.weak
 | 4,_=>ident4.weak
 | 5,_=>ident5.weak
 | 6,_=>ident6.weak
namespace Rf
end Rf
end Go.Proofs.YtkmbnldginonbaaGreat
/- A polynomial at a matrix, in the program and in the document. -/
namespace Go.Proofs.YtkmbnldginonbaaGreat
open Go.RowKit
namespace Rf
structure Hor (n T : Nat) (F : Nat → Rat) (A : Nat → Nat → Rat) (H : Nat → Nat → Nat → Rat) : Prop where
 zero:H 0=fun _ _=>0
 step:∀ t i j,t<T->H (t+1) i j=sumR (H t i) A n j+F (T-1-t)*mone i j
theorem mone_mul_len {x:Rat} {L:Nat} (h:qlen x≤L) (i j:Nat):qlen (x*mone i j)≤L:=by
 unfold mone
 split
 ·rw[Rat.mul_one];exact h
 ·rw[Rat.mul_zero]
  have:qlen 0≤qlen x:=by
   have h0:qlen 0=1:=by decide
   have h1:1≤qlen x:=by
    have h2:zlen (x.den:Int)≤qlen x:=Nat.le_max_right _ _
    have h3:zlen (x.den:Int)≠0:=fun e=>by
     have:=zlen_eq_zero.1 e
     have:=x.den_pos
     omega
    omega
   omega
  omega
theorem fit_mat {n m L:Nat} {G:Nat->Nat->Rat} (h:∀ i j,i<n->j<m->qlen (G i j)≤L) (k:Nat) (hk:k<n*m):(ofR (G (k / m) (k%m))).Fit L:=by
 have h0:0<m:=Nat.pos_of_ne_zero fun e=>by rw[e,Nat.mul_zero]at hk;omega
 exact ofR_fit (h _ _ (Nat.div_lt_of_lt_mul (by rw[Nat.mul_comm];exact hk)) (Nat.mod_lt _ h0))
theorem mat_lt {n m k:Nat} (hk:k<n*m):k / m<n/\k%m<m:=by
 have h0:0<m:=Nat.pos_of_ne_zero fun e=>by rw[e,Nat.mul_zero]at hk;omega
 exact⟨Nat.div_lt_of_lt_mul (by rw[Nat.mul_comm];exact hk),Nat.mod_lt _ h0⟩
theorem at_ok {n N T : Nat} {q p : Nat → RawR} {F : Nat → Rat} {A : Nat → Nat → Rat} {H : Nat → Nat → Nat → Rat} (hn : n ≤ 6) (hN : N ≤ 1024) (hqF : (fun i => (q i).val) = F) (hT : Q.tq F N = T) (hT64 : T ≤ 65) (hq : ∀ i, i < N → (q i).Fit KD) (hp : ∀ a, a < n * n → (p a).Fit KD) (hpv : ∀ i j, i < n → j < n → (p (i * n + j)).val = A i j) (hA : ∀ i j, i < n → j < n → qlen (A i j) ≤ KD) (hF : ∀ i, i < T → qlen (F i) ≤ KD)
  (hH:∀ t i j,t≤T->i<n->j<n->qlen (H t i j)≤KD) (hS:∀ t r i j,t<T->r<n->i≤n->j<n->qlen (sumR (H t r) A i j)≤KD) (hor:Hor n T F A H):FnOK Tryz.prog true 27 [.c (ql N q),.g (rmat n n p)] (.t2 (.g (matL n n (H T))) (.c (.int .i64 0))):=by
 have k0:FnOK Tryz.prog true 38 [.g (rmat n n p)] (.c (.int .i64 0)):=by
  have h:=check_ok (r:=n) (c:=n) (len:=n*n) (f:=qlF p)
  rwa [show firstErr (n:Int) n ((n*n:Nat):Int)=0 by
   unfold firstErr
   rw[if_pos ⟨⟨⟨by omega,by omega⟩,⟨by omega,by omega⟩,by rw[Int.natCast_mul]⟩,rfl⟩,if_neg (by omega)]]at h
 have q0:=qnorm_ok (n:=N) hqF (by omega) hq (by decide)
 rw[hT]at q0
 have n0:FnOK Tryz.prog true 58 [.c (.int .i64 n),.c (.int .i64 n)] (.t2 (.g (matL n n (H 0))) (.c (.int .i64 0))):=by
  rw[hor.zero]
  exact new_ok (by omega) (by omega)
 have i0:=identity_ok hn
 have m0':∀ t,t<T->FnOK Tryz.prog true 78 [.g (matL n n (H t)),.g (rmat n n p)] (.t2 (.g (matL n n fun r=>sumR (H t r) A n)) (.c (.int .i64 0))):=fun t ht =>
  mulR_ok (q:=fun k=>ofR (H t (k / n) (k%n))) (by omega) (by omega) (by omega) (fit_mat fun i j hi hj=>hH t i j (by omega) hi hj) (val_mat (n:=n)) hp hpv (fun i j hi hj=>hH t i j (by omega) hi hj) hA fun r i j hr hi hj=>hS t r i j ht hr hi hj
 have s0':∀ t,t<T->FnOK Tryz.prog true 79 [.g (matL n n mone),.g (nq (F ((T:Int)-1-(t:Int)).toNat))] (.t2 (.g (matL n n fun i j=>F (T-1-t)*mone i j)) (.c (.int .i64 0))):=fun t ht=>by
  rw[show((T:Int)-1-(t:Int)).toNat=T-1-t by omega]
  exact scaleR_ok (q:=fun k=>ofR (mone (k / n) (k%n))) (x:=ofR (F (T-1-t))) (z:=fun k=>F (T-1-t)*mone (k / n) (k%n)) (L:=KD) (by omega) (by omega) (fit_mat fun i j _ _=>by
   have:=mone_mul_len (x:=1) (L:=1) (by decide) i j
   rw[Rat.one_mul]at this
   exact Nat.le_trans this (by decide)) (ofR_fit (hF _ (by omega))) (by decide) fun a _=>by rw[ofR_val,ofR_val]
 have a0':∀ t,t<T->FnOK Tryz.prog true 80 [.g (matL n n fun r=>sumR (H t r) A n),.g (matL n n fun i j=>F (T-1-t)*mone i j)] (.t2 (.g (matL n n (H (t+1)))) (.c (.int .i64 0))):=fun t ht =>
  addR_ok (q:=fun k=>ofR (sumR (H t (k / n)) A n (k%n))) (p:=fun k=>ofR (F (T-1-t)*mone (k / n) (k%n))) (z:=fun k=>H (t+1) (k / n) (k%n)) (L:=KD) (by omega) (by omega) (fit_mat (G:=fun r=>sumR (H t r) A n) fun i j hi hj=>hS t i n j ht hi (Nat.le_refl _) hj) (fit_mat (G:=fun i j=>F (T-1-t)*mone i j) fun i j _ _=>mone_mul_len (hF _ (by omega)) i j) (by decide) fun a _=>by rw[ofR_val,ofR_val,hor.step t _ _ ht]
 clear hqF hT hq hp hpv hA hF hH hS hor
 obtain⟨P,hP⟩:∃ P:Nat->Nat->Nat->Rat,P=fun t r=>sumR (H t r) A n:=⟨_,rfl⟩
 obtain⟨Z,hZ⟩:∃ Z:Nat->Nat->Nat->Rat,Z=fun t i j=>F (T-1-t)*mone i j:=⟨_,rfl⟩
 have m0:∀ t,t<T->FnOK Tryz.prog true 78 [.g (matL n n (H t)),.g (rmat n n p)] (.t2 (.g (matL n n (P t))) (.c (.int .i64 0))):=by rw[hP];exact m0'
 have s0:∀ t,t<T->FnOK Tryz.prog true 79 [.g (matL n n mone),.g (nq (F ((T:Int)-1-(t:Int)).toNat))] (.t2 (.g (matL n n (Z t))) (.c (.int .i64 0))):=by rw[hZ];exact s0'
 have a0:∀ t,t<T->FnOK Tryz.prog true 80 [.g (matL n n (P t)),.g (matL n n (Z t))] (.t2 (.g (matL n n (H (t+1)))) (.c (.int .i64 0))):=by rw[hP,hZ];exact a0'
 clear hP hZ m0' s0' a0'
 generalize mone=U at *
 refine fn_ok (E:=E1) E1_ok Tryz.func27 rfl mixed (by kernel_rfl) (by kernel_rfl) ?_
 conv=>whnf
 refine⟨_,k0,?_⟩
 conv=>whnf
 refine .inr ⟨_,q0,?_⟩
 conv=>whnf
 refine⟨i64 (by omega) (by omega),?_⟩
 conv=>whnf
 refine bneg (show decide ((64:Int)<(T:Int)-1)=false from decide_eq_false (by omega)) ?_
 conv=>whnf
 refine⟨_,n0,?_⟩
 conv=>whnf
 refine⟨_,i0,?_⟩
 conv=>whnf
 refine⟨i64 (by omega) (by omega),?_⟩
 conv=>whnf
 refine loop_ints (fun t:Nat=>gst [(0,.c (nql T F)),(3,.c (.p 0 0 3 0 0)),(4,.c (.p 1 0 3 0 0)),(7,.c (.p 2 0 3 0 0)),(9,.c (.p 3 0 3 0 0)),(11,.c (.int .i64 ((T:Int)-1-(t:Int))))] [⟨24,3,1,boxF (rmat n n p)⟩,⟨24,3,1,boxF [.int .i64 0,.int .i64 0,.nil]⟩,⟨24,3,1,boxF (matL n n (H t))⟩,⟨24,3,1,boxF (matL n n U)⟩]) (fun t=>T-t) (fun t=>t≤T) 0 rfl (Weak.gen [some 0,some 1,some 2,some 3] rfl ⟨boxK rfl rfl,boxK rfl rfl,boxU rfl rfl rfl,boxU rfl rfl rfl,trivial⟩ ⟨.inl ⟨_,_,rfl,rfl,fun _ _ _ _=>rfl⟩,⟨_,rfl,rfl,rfl⟩,⟨_,rfl,rfl,rfl⟩,⟨_,rfl,rfl,rfl⟩,⟨_,rfl,rfl,rfl⟩,⟨_,rfl,by omega⟩,trivial⟩) (Nat.zero_le _) fun t ht=>?_
 have m0:=m0 t
 have s0:=s0 t
 have a0:=a0 t
 conv=>whnf
 refine bcase (fun(h:decide ((0:Int)≤(T:Int)-1-(t:Int))=true)=>?_) fun(h:decide ((0:Int)≤(T:Int)-1-(t:Int))=false)=>?_
 ·have h:=of_decide_eq_true h
  have m0:=m0 (by omega)
  have s0:=s0 (by omega)
  have a0:=a0 (by omega)
  conv=>whnf
  refine⟨_,m0,?_⟩
  conv=>whnf
  refine⟨by omega,by show(T:Int)-1-(t:Int)<(T:Int);omega,?_⟩
  conv=>whnf
  refine⟨_,s0,?_⟩
  conv=>whnf
  refine⟨_,a0,?_⟩
  conv=>whnf
  refine⟨i64 (by omega) (by omega),?_⟩
  conv=>whnf
  exact⟨t+1,by omega,Weak.gen [some 0,some 1,some 2,some 3] rfl ⟨boxK rfl rfl,boxK rfl rfl,boxU rfl rfl rfl,boxK rfl rfl,trivial⟩ ⟨.inl ⟨_,_,rfl,rfl,fun _ _ _ _=>rfl⟩,⟨_,rfl,rfl,rfl⟩,⟨_,rfl,rfl,rfl⟩,⟨_,rfl,rfl,rfl⟩,⟨_,rfl,rfl,rfl⟩,⟨_,rfl,by omega⟩,trivial⟩,by omega⟩
 ·have h:=of_decide_eq_false h
  have e:t=T:=by omega
  have g:Sub (.t2 (.g (matL n n (H t))) (.c (.int .i64 0))) (.t2 (.g (matL n n (H T))) (.c (.int .i64 0))):=by rw[e];exact Sub.refl _
  conv=>whnf
  exact⟨rfl,g⟩
end Rf
end Go.Proofs.YtkmbnldginonbaaGreat
/- The law's tests of matrices and lists of fractions. -/
namespace Go.Proofs.YtkmbnldginonbaaGreat
open Go.RowKit
namespace Rf
def okm (r c:Int) (len:Nat):Prop:=0≤r/\r≤1024/\0≤c/\c≤1024/\(len:Int)=r*c
instance (r c:Int) (len:Nat):Decidable (okm r c len):=by unfold okm;infer_instance
theorem okm_range {r c:Int} (h1:0≤r) (h2:r≤1024) (h3:0≤c) (h4:c≤1024):inR .i64 (r*c):=by
 have h5:r*c≤1024*1024:=Int.mul_le_mul h2 h4 h3 (by omega)
 have h6:=Int.mul_nonneg h1 h3
 exact i64 (by omega) (by omega)
theorem rvalid_ok {r c:Int} {len:Nat} {f:Nat->Nat->Cell}:FnOK Tryz.prog true 37 [.g [.int .i64 r,.int .i64 c,.row 4 len f]] (.c (.bool (decide (okm r c len)))):=by
 refine fn_ok (E:=E1) E1_ok Tryz.func37 rfl mixed (by kernel_rfl) (by kernel_rfl) ?_
 conv=>whnf
 refine bcase (fun(h1:decide (0≤r)=true)=>?_) fun(h1:decide (0≤r)=false)=>?_
 ·have h1:=of_decide_eq_true h1
  conv=>whnf
  refine bcase (fun(h2:decide (r≤1024)=true)=>?_) fun(h2:decide (r≤1024)=false)=>?_
  ·have h2:=of_decide_eq_true h2
   conv=>whnf
   refine bcase (fun(h3:decide (0≤c)=true)=>?_) fun(h3:decide (0≤c)=false)=>?_
   ·have h3:=of_decide_eq_true h3
    conv=>whnf
    refine bcase (fun(h4:decide (c≤1024)=true)=>?_) fun(h4:decide (c≤1024)=false)=>?_
    ·have h4:=of_decide_eq_true h4
     conv=>whnf
     refine⟨okm_range h1 h2 h3 h4,?_⟩
     conv=>whnf
     refine⟨rfl,sub_bool ?_⟩
     show decide ((len:Int)=r*c)=_
     simp[okm,h1,h2,h3,h4]
    ·have h4:=of_decide_eq_false h4
     conv=>whnf
     refine⟨rfl,sub_bool ?_⟩
     show false=_
     simp[okm,h4]
   ·have h3:=of_decide_eq_false h3
    conv=>whnf
    refine⟨rfl,sub_bool ?_⟩
    show false=_
    simp[okm,h3]
  ·have h2:=of_decide_eq_false h2
   conv=>whnf
   refine⟨rfl,sub_bool ?_⟩
   show false=_
   simp[okm,h2]
 ·have h1:=of_decide_eq_false h1
  conv=>whnf
  refine⟨rfl,sub_bool ?_⟩
  show false=_
  simp[okm,h1]
def shq (n:Nat) (q:Nat->RawR):Prop:=∀ i,i<n->(q i).num.ds.length≤1/\(q i).den.ds.length≤1
theorem short11_ok {n:Nat} {q:Nat->RawR} {r:Bool} (hn:n≤9223372036854775807) (hr:r=true↔shq n q):FnOK Tryz.prog true 15 [.c (ql n q)] (.c (.bool r)):=by
 have r1:∀ i,i<n->¬(q i).num.ds.length≤1->false=r:=fun i hi a=>(Bool.eq_false_iff.2 fun e=>a (hr.1 e i hi).1).symm
 have r2:∀ i,i<n->¬(q i).den.ds.length≤1->false=r:=fun i hi a=>(Bool.eq_false_iff.2 fun e=>a (hr.1 e i hi).2).symm
 have r3:shq n q->true=r:=fun a=>(hr.2 a).symm
 clear hr
 refine fn_ok (E:=E1) E1_ok Tryz.func15 rfl mixed (by kernel_rfl) (by kernel_rfl) ?_
 conv=>whnf
 refine loop_ints (fun i:Nat=>gst [(0,.c (ql n q)),(3,.c (.int .i64 i))] []) (fun i=>n-i) (fun i=>i≤n/\∀ j,j<i->(q j).num.ds.length≤1/\(q j).den.ds.length≤1) 0 rfl (Weak.gen [] rfl trivial ⟨.inl ⟨_,_,rfl,rfl,fun _ _ _ _=>rfl⟩,⟨_,rfl,rfl⟩,trivial⟩) ⟨Nat.zero_le _,fun j h=>absurd h (Nat.not_lt_zero j)⟩ fun i ⟨hi,hh⟩=>?_
 have r1:=r1 i
 have r2:=r2 i
 conv=>whnf
 refine bcase (fun(h:decide ((i:Int)<n)=true)=>?_) fun(h:decide ((i:Int)<n)=false)=>?_
 ·have h:=of_decide_eq_true h
  have r1:=r1 (by omega)
  have r2:=r2 (by omega)
  conv=>whnf
  refine⟨by omega,by omega,?_⟩
  conv=>whnf
  refine bcase (fun(a1:gw false (decide ((1:Int)<(q i).num.ds.length))=true)=>?_) fun(a1:gw false (decide ((1:Int)<(q i).num.ds.length))=false)=>?_
  ·have a1:=of_decide_eq_false (gwf a1)
   conv=>whnf
   refine⟨by omega,by omega,?_⟩
   conv=>whnf
   refine bcase (fun(a2:decide ((1:Int)<(q i).den.ds.length)=true)=>?_) fun(a2:decide ((1:Int)<(q i).den.ds.length)=false)=>?_
   ·have a2:=of_decide_eq_true a2
    have g:=r2 (by omega)
    conv=>whnf
    exact⟨rfl,sub_bool g⟩
   ·have a2:=of_decide_eq_false a2
    conv=>whnf
    refine⟨i64 (by omega) (by omega),?_⟩
    conv=>whnf
    refine⟨i+1,by omega,Weak.gen [] rfl trivial ⟨.inl ⟨_,_,rfl,rfl,fun _ _ _ _=>rfl⟩,⟨_,rfl,rfl⟩,trivial⟩,by omega,fun j hj=>?_⟩
    by_cases e:j=i
    ·rw[e];exact⟨by omega,by omega⟩
    ·exact hh j (by omega)
  ·have a1:=of_decide_eq_true (gwf' a1)
   have g:=r1 (by omega)
   conv=>whnf
   exact⟨rfl,sub_bool g⟩
 ·have h:=of_decide_eq_false h
  have g:=r3 fun j hj=>hh j (by omega)
  conv=>whnf
  exact⟨rfl,sub_bool g⟩
noncomputable def E1v:Env:=⟨Tryz.prog,true,fun T=>if T == 70 then some ⟨false,1,[.nil],24,[],some 24,none,0⟩else tyE T,0⟩
theorem tyV:tyOf Tryz.prog 70=some ⟨false,1,[.nil],24,[],some 24,none,0⟩:=by kernel_rfl
theorem E1v_ok:EnvOK E1v:=⟨fun T ti h=>by
 by_cases e:T=70
 ·subst e
  have h:some (⟨false,1,[.nil],24,[],some 24,none,0⟩:TI)=some ti:=h
  cases h
  exact tyV
 ·have h2:(if T == 70 then some (⟨false,1,[.nil],24,[],some 24,none,0⟩:TI)else tyE T)=some ti:=h
  rw[if_neg (by simpa using e)]at h2
  exact tyE_ok T ti h2⟩
def lite11 (m:Int) (r c:Int) (len:Nat) (q:Nat->RawR):Prop:=okm r c len/\r=c/\r≤m/\shq len q
abbrev oneM (r c:Int) (len:Nat) (q:Nat->RawR):V := .c (.row 3 1 (rowF 3 [.int .i64 r,.int .i64 c,ql len q]))
theorem light11_a {m r c:Int} {len:Nat} {q:Nat->RawR} (v0:FnOK Tryz.prog true 37 [.g [.int .i64 r,.int .i64 c,ql len q]] (.c (.bool false))):FnOK Tryz.prog true 9 [.c (.int .i64 m),oneM r c len q] (.c (.bool false)):=by
 refine fn_okS (E:=E1v) E1v_ok Tryz.func9 rfl (by kernel_rfl) ?_
 refine swp_seq0 E1v_ok mixed (by kernel_rfl) ?_
 conv=>whnf
 refine swp_seqS ?_
 refine swp_seq0 E1v_ok mixed (by kernel_rfl) ?_
 conv=>whnf
 refine swp_block ?_
 refine swp_loop (fun i:Nat=>gst [(0,.c (.int .i64 m)),(1,oneM r c len q),(5,.c (.int .i64 i))] []) (fun i=>1-i) (fun i=>i≤0) 0 (Weak.gen [] rfl trivial ⟨⟨_,rfl,rfl⟩,.inl ⟨_,_,rfl,rfl,fun _ _ _ _=>rfl⟩,⟨_,rfl,rfl⟩,trivial⟩) (Nat.zero_le _) fun i hi=>?_
 match i,hi with
 | 0,_ =>
  refine swp_seq0 E1v_ok mixed (by kernel_rfl) ?_
  conv=>whnf
  refine swp_seqS (swp_block ?_)
  refine swp_seq0 E1v_ok mixed (by kernel_rfl) ?_
  conv=>whnf
  refine⟨by decide,by decide,?_⟩
  conv=>whnf
  refine⟨_,v0,?_⟩
  conv=>whnf
  refine swp_of E1v_ok mixed (by kernel_rfl) ?_
  conv=>whnf
  exact⟨rfl,Sub.refl _⟩
theorem light11_b {m r c:Int} {len:Nat} {q:Nat->RawR} (v0:FnOK Tryz.prog true 37 [.g [.int .i64 r,.int .i64 c,ql len q]] (.c (.bool true))) (h2:r≠c):FnOK Tryz.prog true 9 [.c (.int .i64 m),oneM r c len q] (.c (.bool false)):=by
 refine fn_okS (E:=E1v) E1v_ok Tryz.func9 rfl (by kernel_rfl) ?_
 refine swp_seq0 E1v_ok mixed (by kernel_rfl) ?_
 conv=>whnf
 refine swp_seqS ?_
 refine swp_seq0 E1v_ok mixed (by kernel_rfl) ?_
 conv=>whnf
 refine swp_block ?_
 refine swp_loop (fun i:Nat=>gst [(0,.c (.int .i64 m)),(1,oneM r c len q),(5,.c (.int .i64 i))] []) (fun i=>1-i) (fun i=>i≤0) 0 (Weak.gen [] rfl trivial ⟨⟨_,rfl,rfl⟩,.inl ⟨_,_,rfl,rfl,fun _ _ _ _=>rfl⟩,⟨_,rfl,rfl⟩,trivial⟩) (Nat.zero_le _) fun i hi=>?_
 match i,hi with
 | 0,_ =>
  refine swp_seq0 E1v_ok mixed (by kernel_rfl) ?_
  conv=>whnf
  refine swp_seqS (swp_block ?_)
  refine swp_seq0 E1v_ok mixed (by kernel_rfl) ?_
  conv=>whnf
  refine⟨by decide,by decide,?_⟩
  conv=>whnf
  refine⟨_,v0,?_⟩
  conv=>whnf
  refine⟨by decide,by decide,?_⟩
  conv=>whnf
  refine⟨by decide,by decide,?_⟩
  conv=>whnf
  refine bneg (gw_false.2 (show(!decide (r=c))=true by simp[h2])) ?_
  conv=>whnf
  refine swp_of E1v_ok mixed (by kernel_rfl) ?_
  conv=>whnf
  exact⟨rfl,Sub.refl _⟩
theorem light11_c {m r c:Int} {len:Nat} {q:Nat->RawR} (v0:FnOK Tryz.prog true 37 [.g [.int .i64 r,.int .i64 c,ql len q]] (.c (.bool true))) (h2:r=c) (h3:m<r):FnOK Tryz.prog true 9 [.c (.int .i64 m),oneM r c len q] (.c (.bool false)):=by
 refine fn_okS (E:=E1v) E1v_ok Tryz.func9 rfl (by kernel_rfl) ?_
 refine swp_seq0 E1v_ok mixed (by kernel_rfl) ?_
 conv=>whnf
 refine swp_seqS ?_
 refine swp_seq0 E1v_ok mixed (by kernel_rfl) ?_
 conv=>whnf
 refine swp_block ?_
 refine swp_loop (fun i:Nat=>gst [(0,.c (.int .i64 m)),(1,oneM r c len q),(5,.c (.int .i64 i))] []) (fun i=>1-i) (fun i=>i≤0) 0 (Weak.gen [] rfl trivial ⟨⟨_,rfl,rfl⟩,.inl ⟨_,_,rfl,rfl,fun _ _ _ _=>rfl⟩,⟨_,rfl,rfl⟩,trivial⟩) (Nat.zero_le _) fun i hi=>?_
 match i,hi with
 | 0,_ =>
  refine swp_seq0 E1v_ok mixed (by kernel_rfl) ?_
  conv=>whnf
  refine swp_seqS (swp_block ?_)
  refine swp_seq0 E1v_ok mixed (by kernel_rfl) ?_
  conv=>whnf
  refine⟨by decide,by decide,?_⟩
  conv=>whnf
  refine⟨_,v0,?_⟩
  conv=>whnf
  refine⟨by decide,by decide,?_⟩
  conv=>whnf
  refine⟨by decide,by decide,?_⟩
  conv=>whnf
  refine bpos (gw_true.2 (show(!decide (r=c))=false by simp[h2])) ?_
  conv=>whnf
  refine⟨by decide,by decide,?_⟩
  conv=>whnf
  refine bneg (gw_false.2 (show decide (m<r)=true from decide_eq_true h3)) ?_
  conv=>whnf
  refine swp_of E1v_ok mixed (by kernel_rfl) ?_
  conv=>whnf
  exact⟨rfl,Sub.refl _⟩
theorem light11_d {m r c:Int} {len:Nat} {q:Nat->RawR} (v0:FnOK Tryz.prog true 37 [.g [.int .i64 r,.int .i64 c,ql len q]] (.c (.bool true))) (s0:FnOK Tryz.prog true 15 [.c (ql len q)] (.c (.bool false))) (h2:r=c) (h3:r≤m):FnOK Tryz.prog true 9 [.c (.int .i64 m),oneM r c len q] (.c (.bool false)):=by
 refine fn_okS (E:=E1v) E1v_ok Tryz.func9 rfl (by kernel_rfl) ?_
 refine swp_seq0 E1v_ok mixed (by kernel_rfl) ?_
 conv=>whnf
 refine swp_seqS ?_
 refine swp_seq0 E1v_ok mixed (by kernel_rfl) ?_
 conv=>whnf
 refine swp_block ?_
 refine swp_loop (fun i:Nat=>gst [(0,.c (.int .i64 m)),(1,oneM r c len q),(5,.c (.int .i64 i))] []) (fun i=>1-i) (fun i=>i≤0) 0 (Weak.gen [] rfl trivial ⟨⟨_,rfl,rfl⟩,.inl ⟨_,_,rfl,rfl,fun _ _ _ _=>rfl⟩,⟨_,rfl,rfl⟩,trivial⟩) (Nat.zero_le _) fun i hi=>?_
 match i,hi with
 | 0,_ =>
  refine swp_seq0 E1v_ok mixed (by kernel_rfl) ?_
  conv=>whnf
  refine swp_seqS (swp_block ?_)
  refine swp_seq0 E1v_ok mixed (by kernel_rfl) ?_
  conv=>whnf
  refine⟨by decide,by decide,?_⟩
  conv=>whnf
  refine⟨_,v0,?_⟩
  conv=>whnf
  refine⟨by decide,by decide,?_⟩
  conv=>whnf
  refine⟨by decide,by decide,?_⟩
  conv=>whnf
  refine bpos (gw_true.2 (show(!decide (r=c))=false by simp[h2])) ?_
  conv=>whnf
  refine⟨by decide,by decide,?_⟩
  conv=>whnf
  refine bpos (gw_true.2 (show decide (m<r)=false from decide_eq_false (by omega))) ?_
  conv=>whnf
  refine⟨by decide,by decide,?_⟩
  conv=>whnf
  refine⟨_,s0,?_⟩
  conv=>whnf
  refine swp_of E1v_ok mixed (by kernel_rfl) ?_
  conv=>whnf
  exact⟨rfl,Sub.refl _⟩
theorem light11_e {m r c:Int} {len:Nat} {q:Nat->RawR} (v0:FnOK Tryz.prog true 37 [.g [.int .i64 r,.int .i64 c,ql len q]] (.c (.bool true))) (s0:FnOK Tryz.prog true 15 [.c (ql len q)] (.c (.bool true))) (h2:r=c) (h3:r≤m):FnOK Tryz.prog true 9 [.c (.int .i64 m),oneM r c len q] (.c (.bool true)):=by
 refine fn_okS (E:=E1v) E1v_ok Tryz.func9 rfl (by kernel_rfl) ?_
 refine swp_seq0 E1v_ok mixed (by kernel_rfl) ?_
 conv=>whnf
 refine swp_seqS ?_
 refine swp_seq0 E1v_ok mixed (by kernel_rfl) ?_
 conv=>whnf
 refine swp_block ?_
 refine swp_loop (fun i:Nat=>gst [(0,.c (.int .i64 m)),(1,oneM r c len q),(5,.c (.int .i64 i))] []) (fun i=>1-i) (fun i=>i≤1) 0 (Weak.gen [] rfl trivial ⟨⟨_,rfl,rfl⟩,.inl ⟨_,_,rfl,rfl,fun _ _ _ _=>rfl⟩,⟨_,rfl,rfl⟩,trivial⟩) (Nat.zero_le _) fun i hi=>?_
 match i,hi with
 | 0,_ =>
  refine swp_seq0 E1v_ok mixed (by kernel_rfl) ?_
  conv=>whnf
  refine swp_seqS (swp_block ?_)
  refine swp_seq0 E1v_ok mixed (by kernel_rfl) ?_
  conv=>whnf
  refine⟨by decide,by decide,?_⟩
  conv=>whnf
  refine⟨_,v0,?_⟩
  conv=>whnf
  refine⟨by decide,by decide,?_⟩
  conv=>whnf
  refine⟨by decide,by decide,?_⟩
  conv=>whnf
  refine bpos (gw_true.2 (show(!decide (r=c))=false by simp[h2])) ?_
  conv=>whnf
  refine⟨by decide,by decide,?_⟩
  conv=>whnf
  refine bpos (gw_true.2 (show decide (m<r)=false from decide_eq_false (by omega))) ?_
  conv=>whnf
  refine⟨by decide,by decide,?_⟩
  conv=>whnf
  refine⟨_,s0,?_⟩
  conv=>whnf
  refine swp_of E1v_ok mixed (by kernel_rfl) ?_
  conv=>whnf
  refine swp_of E1v_ok mixed (by kernel_rfl) ?_
  conv=>whnf
  refine⟨i64 (by decide) (by decide),?_⟩
  conv=>whnf
  exact⟨1,by decide,Weak.gen [] rfl trivial ⟨⟨_,rfl,rfl⟩,.inl ⟨_,_,rfl,rfl,fun _ _ _ _=>rfl⟩,⟨_,rfl,rfl⟩,trivial⟩,by decide⟩
 | 1,_ =>
  refine swp_seq0 E1v_ok mixed (by kernel_rfl) ?_
  conv=>whnf
  refine swp_of E1v_ok mixed (by kernel_rfl) ?_
  conv=>whnf
  exact⟨rfl,Sub.refl _⟩
open Classical in
theorem light11_ok {m r c:Int} {len:Nat} {q:Nat->RawR} (hn:len≤9223372036854775807):FnOK Tryz.prog true 9 [.c (.int .i64 m),oneM r c len q] (.c (.bool (decide (lite11 m r c len q)))):=by
 have v0:=rvalid_ok (r:=r) (c:=c) (len:=len) (f:=qlF q)
 have s0:=short11_ok (n:=len) (q:=q) (r:=decide (shq len q)) hn ⟨fun a=>of_decide_eq_true a,fun a=>decide_eq_true a⟩
 by_cases h1:okm r c len
 ·rw[decide_eq_true h1]at v0
  by_cases h2:r=c
  ·by_cases h3:r≤m
   ·by_cases h4:shq len q
    ·rw[decide_eq_true h4]at s0
     rw[decide_eq_true (show lite11 m r c len q from⟨h1,h2,h3,h4⟩)]
     exact light11_e v0 s0 h2 h3
    ·rw[decide_eq_false h4]at s0
     rw[decide_eq_false (fun e:lite11 m r c len q=>h4 e.2.2.2)]
     exact light11_d v0 s0 h2 h3
   ·rw[decide_eq_false (fun e:lite11 m r c len q=>h3 e.2.2.1)]
    exact light11_c v0 h2 (by omega)
  ·rw[decide_eq_false (fun e:lite11 m r c len q=>h2 e.2.1)]
   exact light11_b v0 h2
 ·rw[decide_eq_false h1]at v0
  rw[decide_eq_false (fun e:lite11 m r c len q=>h1 e.1)]
  exact light11_a v0
end Rf
end Go.Proofs.YtkmbnldginonbaaGreat
/- Polynomials at matrices: how long the fractions get; the law's calls and what they hand back. -/
namespace Go.Proofs.YtkmbnldginonbaaGreat
open Go.RowKit
theorem su_sm (f : Nat → Rat) : ∀ n, Q.su f n = rsm n f
 | 0=>rfl
 | n+1=>by
  show Q.su f n+f n=rsm n f+f n
  rw[su_sm f n]
theorem lt_B {e L:Nat} (h:e<32*L):2^e<Dg.B^L:=by
 have h1:Dg.B^L=2^(32*L):=(Nat.pow_mul 2 32 L).symm
 rw[h1]
 exact Nat.pow_lt_pow_right (by decide) h
theorem fits_len {D N e:Nat} {x:Rat} (h:Fits D N x) (h0:0<D) (hD:D≤2^e) (hN:N≤2^e) (he:e<2097120):qlen x≤65535:=by
 have h1:=h.small h0
 have hB:=lt_B (e:=e) (L:=65535) (by omega)
 have a:zlen x.num≤65535:=zlen_le (Nat.lt_of_le_of_lt (Nat.le_trans h1.1 hN) hB)
 have b:zlen (x.den:Int)≤65535:=zlen_le (Nat.lt_of_le_of_lt (Nat.le_trans h1.2 hD) hB)
 show max (zlen x.num) (zlen (x.den:Int))≤65535
 omega
theorem le_two {a b:Nat} (h:a≤b):2^a≤2^b:=Nat.pow_le_pow_right (by decide) h
theorem pow_le_two {D a t:Nat} (h:D≤2^a):D^t≤2^(a*t):=by
 rw[Nat.pow_mul]
 exact Nat.pow_le_pow_left h t
theorem mul_le_two {D E a b:Nat} (h:D≤2^a) (h':E≤2^b):D*E≤2^(a+b):=by
 rw[Nat.pow_add]
 exact Nat.mul_le_mul h h'
def hrn (n T:Nat) (F:Nat->Rat) (A:Nat->Nat->Rat) (t:Nat):Nat->Nat->Rat:=horner n A t fun i=>F (T-t+i)
theorem hrn_hor (n T:Nat) (F:Nat->Rat) (A:Nat->Nat->Rat):Rf.Hor n T F A (hrn n T F A):=by
 refine⟨rfl,fun t i j ht=>?_⟩
 show horner n A (t+1) (fun i=>F (T-(t+1)+i)) i j=Q.su (fun k=>hrn n T F A t i k*A k j) n+F (T-1-t)*mone i j
 rw[su_sm]
 have e:(fun i=>F (T-(t+1)+(i+1)))=fun i=>F (T-t+i):=funext fun i=>by rw[show T-(t+1)+(i+1)=T-t+i by omega]
 show rsm n (fun k=>horner n A t (fun i=>F (T-(t+1)+(i+1))) i k*A k j)+F (T-(t+1)+0)*mone i j=_
 rw[e,show T-(t+1)+0=T-1-t by omega]
 rfl
theorem short_fits {n:Nat} {q:Nat->RawR} (hd:∀ i,i<n->Rf.dgq (q i)) (hs:Rf.shq n q):∃ D,0<D/\D≤2^(32*n)/\∀ i,i<n->Fits D (2^(32*n)) (q i).val:=by
 have h:∀ i,i<n->(q i).val.num.natAbs≤2^32/\(q i).val.den≤2^32:=fun i hi=>by
  have f:(q i).Fit 1:=⟨(hd i hi).1,(hd i hi).2,(hs i hi).1,(hs i hi).2⟩
  have g:max (zlen (q i).val.num) (zlen ((q i).val.den:Int))≤1:=f.qlen (Nat.le_refl _)
  have a:=zlen_lt (q i).val.num
  have b:=zlen_lt ((q i).val.den:Int)
  have a':=Nat.lt_of_lt_of_le a (Nat.pow_le_pow_right (show 0<Dg.B by decide) (show zlen (q i).val.num≤1 by omega))
  have b':=Nat.lt_of_lt_of_le b (Nat.pow_le_pow_right (show 0<Dg.B by decide) (show zlen ((q i).val.den:Int)≤1 by omega))
  rw[Nat.pow_one]at a' b'
  have e:Dg.B=2^32:=rfl
  rw[e]at a' b'
  rw[Int.natAbs_natCast]at b'
  exact⟨Nat.le_of_lt a',Nat.le_of_lt b'⟩
 refine⟨dens n fun i=>(q i).val,dens_pos _ _,?_,fun i hi=>?_⟩
 ·rw[Nat.pow_mul]
  exact dens_le fun i hi=>(h i hi).2
 ·rw[Nat.pow_mul]
  exact fits_dens (f:=fun i=>(q i).val) h i hi
namespace Rf
end Rf
end Go.Proofs.YtkmbnldginonbaaGreat
/- The law CharpolyEvaluates: its calls, one behind the other, and what they hand back. -/
namespace Go.Proofs.YtkmbnldginonbaaGreat
open Go.RowKit
theorem matL_eq {n m:Nat} {Z W:Nat->Nat->Rat} (h:∀ i j,i<n->j<m->Z i j=W i j) (D:Nat->Prop) (w:World) (v:Value) (hv:VRel D w [] (.g (matL n m Z)) v):VRel D w [] (.g (matL n m W)) v:=by
 obtain⟨vs,e,h1⟩:=hv
 refine⟨vs,e,?_⟩
 match vs.toList,h1 with
 | [a,b,c],⟨g1,g2,g3,_⟩ =>
  refine⟨g1,g2,subRowG rfl (fun k l hk hl=>?_) D w c g3,trivial⟩
  have hk:=Rf.mat_lt hk
  exact qlF_eq (c:=fun k=>ofR (Z (k / m) (k%m))) (e:=fun k=>ofR (W (k / m) (k%m))) (i:=k) (k:=k) (congrArg ofR (h _ _ hk.1 hk.2))
namespace Rf
end Rf
end Go.Proofs.YtkmbnldginonbaaGreat
/- The document's places and traces of a matrix. -/
namespace Go.Proofs.YtkmbnldginonbaaGreat
open Go.RowKit
namespace Mx
open Rf
end Mx
end Go.Proofs.YtkmbnldginonbaaGreat
/- Powers of a small matrix and their traces: values and sizes. -/
namespace Go.Proofs.YtkmbnldginonbaaGreat
open Go.RowKit
namespace Mx
open Rf
theorem su_crg (f : Nat → Rat) : ∀ n, Q.su f n = Crg.sm f n
 | 0=>rfl
 | n+1=>congrArg (·+f n) (su_crg f n)
def xw (n : Nat) (A : Nat → Nat → Rat) : Nat → Nat → Nat → Rat
 | 0=>A
 | t+1=>fun r j=>sumR (xw n A t r) A n j
theorem sm_fits {D N n:Nat} {f:Nat->Rat} (h:∀ i,i<n->Fits D N (f i)):∀ i,i≤n->Fits D (i*N) (Crg.sm f i):=fun i hi=>by
 rw[← su_crg,su_sm]
 exact fits_sm i fun j hj=>h j (by omega)
def sk (n:Nat) (A:Nat->Nat->Rat) (k:Nat):Rat:=if 1≤k/\k≤6 then tr n (mpw n A k)else 0
end Mx
end Go.Proofs.YtkmbnldginonbaaGreat
/- charpoly.annihilator hands back the annihilator: sizes, contract. -/
namespace Go.Proofs.YtkmbnldginonbaaGreat
open Go.RowKit
namespace Mx
open Rf
def fnz (n:Nat) (w:Nat->Rat):Nat:=pvf (fun i _=>w i) 0 n 0
theorem fnz_spec (n:Nat) (w:Nat->Rat):fnz n w≤n/\(∀ j,j<fnz n w->w j=0)/\(fnz n w<n->w (fnz n w)≠0):=by
 obtain⟨-,h2,h3,h4⟩:=pvf_spec (fun i _=>w i) 0 n 0
 rw[Nat.zero_add]at h2 h4
 exact⟨h2,fun j hj=>h3 j (Nat.zero_le j) hj,h4⟩
def mkn (n:Nat) (s:(Nat->Rat) × (Nat->Rat)):Kn Rat:=⟨fun j=>s.1 j*(1 / s.1 (fnz n s.1)),fnz n s.1,fun j=>s.2 j*(1 / s.1 (fnz n s.1))⟩
def aL (L : Nat) : Nat → Nat
 | 0=>L
 | i+1=>4*aL L i+2
theorem aL_mono (L:Nat) {i j:Nat} (h:i≤j):aL L i≤aL L j:=by
 induction j with
 | zero=>rw[Nat.le_zero.1 h];exact Nat.le_refl _
 | succ j ih =>
  rcases Nat.lt_or_ge i (j+1)with e | e
  ·have:=ih (by omega)
   show aL L i≤4*aL L j+2
   omega
  ·rw[show i=j+1 by omega];exact Nat.le_refl _
theorem aL_le {L i:Nat} (h1:1≤L) (hi:i≤6):aL L i≤8192*L:=by
 refine Nat.le_trans (aL_mono L hi) ?_
 show 4*(4*(4*(4*(4*(4*L+2)+2)+2)+2)+2)+2≤8192*L
 omega
theorem xpn_len (r j:Nat):qlen (xpn r j:Rat)≤1:=by
 unfold xpn
 split
 ·exact q_one
 ·exact q_zero
theorem rdw_len {n R L : Nat} {A : Nat → Nat → Rat} {v : Nat → Rat} {kn : Nat → Kn Rat} (h1 : 1 ≤ L) (hk : ∀ r, kn r = mkn n (rdw n A v kn r r)) (hlt : ∀ r, r < R → (kn r).p < n) (hV : ∀ r j, r ≤ R → j < n → qlen (av n A v r j) ≤ L) : ∀ i r, i ≤ r → r ≤ R → (∀ j, j < n → qlen ((rdw n A v kn r i).1 j) ≤ aL L i) ∧ (∀ j, qlen ((rdw n A v kn r i).2 j) ≤ aL L i) ∧ (i < r → (∀ j, j < n → qlen ((kn i).v j) ≤ 2 * aL L i + 1) ∧ ∀ j, qlen ((kn i).q j) ≤ 2 * aL L i + 1)
 | i,r,hi,hr=>by
  have hb:(∀ r,i≤r->r≤R->(∀ j,j<n->qlen ((rdw n A v kn r i).1 j)≤aL L i)/\(∀ j,qlen ((rdw n A v kn r i).2 j)≤aL L i)):=fun r hi hr=>by
   cases i with
   | zero=>exact⟨fun j hj=>hV r j hr hj,fun j=>Nat.le_trans (xpn_len r j) h1⟩
   | succ i =>
    obtain⟨a1,a2,a3⟩:=rdw_len h1 hk hlt hV i r (by omega) hr
    obtain⟨b1,b2⟩:=a3 (by omega)
    have hp:=hlt i (by omega)
    refine⟨fun j hj=>?_,fun j=>?_⟩
    ·exact Nat.le_trans (q_sub (a1 j hj) (q_mul (a1 _ hp) (b1 j hj) (by omega)) (by omega)) (by show _≤4*aL L i+2;omega)
    ·exact Nat.le_trans (q_sub (a2 j) (q_mul (b2 j) (a1 _ hp) (by omega)) (by omega)) (by show _≤4*aL L i+2;omega)
  refine⟨(hb r hi hr).1,(hb r hi hr).2,fun hir=>?_⟩
  obtain⟨a1,a2⟩:=hb i (Nat.le_refl i) (by omega)
  have hp:=hlt i (by omega)
  have e:(kn i).p=fnz n (rdw n A v kn i i).1:=by rw[hk i];rfl
  rw[e]at hp
  have hd:qlen (1 / (rdw n A v kn i i).1 (fnz n (rdw n A v kn i i).1))≤1+aL L i:=q_div q_one (a1 _ hp) (by omega)
  refine⟨fun j hj=>?_,fun j=>?_⟩
  ·rw[hk i]
   exact Nat.le_trans (q_mul (a1 j hj) hd (by omega)) (by omega)
  ·rw[hk i]
   exact Nat.le_trans (q_mul (a2 j) hd (by omega)) (by omega)
theorem least_ex {P : Nat → Prop} : ∀ n, (∃ r, r ≤ n ∧ P r) → ∃ R, R ≤ n ∧ P R ∧ ∀ r, r < R → ¬ P r
 | 0,⟨r,h1,h2⟩=>⟨0,Nat.le_refl 0,by rw[← Nat.le_zero.1 h1];exact h2,fun r hr=>absurd hr (Nat.not_lt_zero r)⟩
 | n+1,⟨r,h1,h2⟩=>by
  by_cases h:∃ r,r≤n/\P r
  ·obtain⟨R,a,b,c⟩:=least_ex n h
   exact⟨R,by omega,b,c⟩
  ·exact⟨r,h1,h2,fun s hs hp=>h ⟨s,by omega,hp⟩⟩
theorem rat_inv {x:Rat} (h:x≠0):x*(1 / x)=1:=by
 rw[Rat.div_def,Rat.one_mul,Rat.mul_inv_cancel x h]
theorem ann_ok {n:Nat} {p:Nat->RawR} {A:Nat->Nat->Rat} {v:Nat->Rat} {L:Nat} (hn:n≤6) (hp:∀ a,a<n*n->(p a).Fit KD) (hA:∀ i j,i<n->j<n->(p (i*n+j)).val=A i j) (lA:∀ i j,i<n->j<n->qlen (A i j)≤KD) (hV:∀ r j,r≤n->j<n->qlen (av n A v r j)≤L) (h1:1≤L) (hL:L≤1048576) (hS:∀ r i j,r<n->i≤n->j<n->qlen (sumR (av n A v r) A i j)≤KD):∃ g:Pol Rat,Ann n A v g/\g.len≤n+1/\(∀ i,qlen (g.f i)≤8192*L)/\FnOK Tryz.prog true 67 [.g (rmat n n p),.c (nql n v)] (.c (nql g.len g.f)):=by
 have hLIM:LIM=1099511627776:=rfl
 obtain⟨kn,hk⟩:=ex_kn n A v (mkn n)
 have ep:∀ r,(kn r).p=fnz n (rdw n A v kn r r).1:=fun r=>by rw[hk r];rfl
 have mkK:∀ R,(∀ r,r<R->¬ fnz n (rdw n A v kn r r).1=n)->Kns n A v R kn fun r=>1 / (rdw n A v kn r r).1 (fnz n (rdw n A v kn r r).1):=fun R h=>by
  have hlt:∀ r,r<R->fnz n (rdw n A v kn r r).1<n:=fun r hr=>Nat.lt_of_le_of_ne (fnz_spec n _).1 (h r hr)
  exact⟨fun r hr=>by rw[ep];exact hlt r hr,fun r hr=>by rw[ep];exact rat_inv ((fnz_spec n _).2.2 (hlt r hr)),fun r _ j=>by rw[hk r];rfl,fun r _ j=>by rw[hk r];rfl⟩
 obtain⟨R,hR,hz,hne⟩:∃ R,R≤n/\fnz n (rdw n A v kn R R).1=n/\∀ r,r<R->¬ fnz n (rdw n A v kn r r).1=n:=by
  refine least_ex n (Classical.byContradiction fun hx=>?_)
  have:=(mkK (n+1) fun r hr e=>hx ⟨r,by omega,e⟩).len
  omega
 have K:=mkK R hne
 have hlt:=K.lt
 have hl:=fun i r (hi:i≤r) (hr:r≤R)=>rdw_len (R:=R) h1 hk hlt (fun r j hr hj=>hV r j (by omega) hj) i r hi hr
 have hl1:∀ i r j,i≤r->r≤R->j<n->qlen ((rdw n A v kn r i).1 j)≤8192*L:=fun i r j hi hr hj=>Nat.le_trans ((hl i r hi hr).1 j hj) (aL_le h1 (by omega))
 have hl2:∀ i r j,i≤r->r≤R->qlen ((rdw n A v kn r i).2 j)≤8192*L:=fun i r j hi hr=>Nat.le_trans ((hl i r hi hr).2.1 j) (aL_le h1 (by omega))
 have hl3:∀ i j,i<R->j<n->qlen ((kn i).v j)≤16385*L:=fun i j hi hj=>by
  have a:=((hl i R (by omega) (Nat.le_refl R)).2.2 hi).1 j hj
  have b:=aL_le (L:=L) (i:=i) h1 (by omega)
  omega
 have hl4:∀ i j,i<R->qlen ((kn i).q j)≤16385*L:=fun i j hi=>by
  have a:=((hl i R (by omega) (Nat.le_refl R)).2.2 hi).2 j
  have b:=aL_le (L:=L) (i:=i) h1 (by omega)
  omega
 have hw:∀ r,r<R->(rdw n A v kn r r).1 ((kn r).p)≠0:=fun r hr=>by rw[ep];exact(fnz_spec n _).2.2 (by rw[← ep];exact hlt r hr)
 have hb:∀ r,r<R->qlen (1 / (rdw n A v kn r r).1 ((kn r).p))≤1+8192*L:=fun r hr=>q_div q_one (hl1 r r _ (Nat.le_refl r) (by omega) (hlt r hr)) (by omega)
 have kvE:∀ r,(kn r).v=fun j=>(rdw n A v kn r r).1 j*(1 / (rdw n A v kn r r).1 ((kn r).p)):=fun r=>by rw[ep];exact congrArg Kn.v (hk r)
 have kqE:∀ r,(kn r).q=fun j=>(rdw n A v kn r r).2 j*(1 / (rdw n A v kn r r).1 ((kn r).p)):=fun r=>by rw[ep];exact congrArg Kn.q (hk r)
 have kred:∀ r,r≤R->FnM Tryz.prog true 113 (gb (kcB n r (fun i=>(kn i).v) (fun i=>(kn i).q) fun i=>(kn i).p)) [.c (.gs 0 0),.c (nql n (av n A v r)),.c (nql (r+1) (xpn r))] (.t2 (.c (nql n (rdw n A v kn r r).1)) (.c (nql (r+1) (rdw n A v kn r r).2))) (gb (kcB n r (fun i=>(kn i).v) (fun i=>(kn i).q) fun i=>(kn i).p)) []:=fun r hr=>by
  refine red_ok (W:=fun i=>(rdw n A v kn r i).1) (G:=fun i=>(rdw n A v kn r i).2) (L:=16385*L) (by omega) (by omega) ⟨fun i hi=>hlt i (by omega),fun i j hi hj=>Nat.le_trans (hl1 i r j hi hr hj) (by omega),fun i j hi _=>Nat.le_trans (hl2 i r j hi hr) (by omega),fun i j hi hj=>hl3 i j (by omega) hj,fun i j hi _=>hl4 i j (by omega),fun _ _ _ _=>rfl,fun _ _ _ _=>rfl,fun i j hi hj=>(K.all i (by omega)).deg j hj,fun i hi=>(K.inv hr hi).2.2.2⟩ (by omega) (by omega)
 have W:Anw n R p (av n A v) (fun r=>(rdw n A v kn r r).1) (fun r=>(rdw n A v kn r r).2) (fun i=>(kn i).v) (fun i=>(kn i).q) (fun i=>(kn i).p) fun r=>1 / (rdw n A v kn r r).1 ((kn r).p):=by
  refine⟨by omega,by omega,kred,fun r j hr hj=>nz_ok (hl1 r r j (Nat.le_refl r) hr hj) (by omega),hlt,hw,fun r j hr hj=>(fnz_spec n _).2.1 j (by rw[← ep];exact hj),fun j hj=>(fnz_spec n _).2.1 j (by rw[hz];exact hj),fun r hr=>qquo_n q_one (hl1 r r _ (Nat.le_refl r) (by omega) (hlt r hr)) (by omega) (hw r hr) rfl,fun r j hr hj=>?_,fun r hr=>?_,fun r hr=>?_,fun r hr=>?_,?_⟩
  ·exact qmul_n (hl1 r r j (Nat.le_refl r) (by omega) hj) (hb r hr) (by omega) (by rw[kvE])
  ·have h:=scale_step (m:=r+1) (F:=(rdw n A v kn r r).2) (w:=1 / (rdw n A v kn r r).1 ((kn r).p)) (by omega) (fun j _=>hl2 r r j (Nat.le_refl r) (by omega)) (hb r hr) (by omega)
   show FnOK _ _ _ _ (.c (nql (r+1) (kn r).q))
   rw[kqE]
   rwa [Q.tq_self (n:=r+1) (fun k hk'=>by
    rw[show k=r by omega]
    have e:=(K.all r hr).top
    rwa [kqE]at e)]at h
  ·exact apply_n (by omega) (fun i hi=>Nat.le_trans (hV r i (by omega) hi) (Nat.le_trans hL (by decide))) hp hA lA (fun i j hi hj=>hS r i j (by omega) hi hj) fun j hj=>su_crg (fun a=>av n A v r a*A a j) n
  ·have h:=shift_step (n:=r) (v:=(xpn r:Nat->Rat)) (L:=1) (by omega) (fun i _=>xpn_len r i) (Nat.le_refl 1) (by omega) (by
    show(if r=r then(1:Rat)else 0)≠0
    rw[if_pos rfl]
    exact rat_one_ne)
   have e:xs (xpn r:Nat->Rat)=xpn (r+1):=funext fun j=>by
    show(if 1≤j then(if j-1=r then(1:Rat)else 0)else 0)=if j=r+1 then 1 else 0
    by_cases c:j=r+1
    ·rw[if_pos (by omega),if_pos (by omega),if_pos c]
    ·rw[if_neg c]
     split
     ·rw[if_neg (by omega)]
     ·rfl
   rwa [e]at h
  ·exact monic_n (by omega) (fun i _=>hl2 R R i (Nat.le_refl R) (Nat.le_refl R)) (by omega) (K.inv (Nat.le_refl R) (Nat.le_refl R)).2.2.2
 obtain⟨g,gl,gf,ga⟩:=K.ann fun j hj=>(fnz_spec n _).2.1 j (by rw[hz];exact hj)
 have e:g.f=(rdw n A v kn R R).2:=funext gf
 refine⟨g,ga,by omega,fun i=>by rw[gf];exact hl2 R R i (Nat.le_refl R) (Nat.le_refl R),?_⟩
 rw[gl,e]
 exact ann_walk W
end Mx
end Go.Proofs.YtkmbnldginonbaaGreat
