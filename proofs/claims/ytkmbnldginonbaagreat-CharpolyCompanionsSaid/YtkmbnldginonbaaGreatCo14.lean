/- charpoly.grid at six rows. -/
import Derived.Test.YtkmbnldginonbaaGreatCo13
import Derived.Test.YtkmbnldginonbaaGreatCo9
import Derived.Test.YtkmbnldginonbaaGreatCo12
import Derived.Test.YtkmbnldginonbaaGreatCo11
import Derived.Test.YtkmbnldginonbaaGreatCo8
import Derived.Test.YtkmbnldginonbaaGreatCo7
namespace Go.Proofs.YtkmbnldginonbaaGreat
open Go.RowKit
namespace Mx
theorem zk6 {b0 b1 b2 b3 b4 b5 b6:Blk} {r:List Blk} {t:List (Option Nat)} (h:([b1,b2,b3,b4,b5,b6].all fun b=>b.u == 0&&b.st == 0)=true):srcG 0 (b0 :: gb (zG 6) :: b1 :: b2 :: b3 :: b4 :: b5 :: b6 :: r) (some 0 :: some 1 :: some 2 :: some 3 :: some 4 :: some 5 :: some 6 :: some 7 :: t) (zG 6) (some 1):=by
 simp only[List.all_cons,List.all_nil,Bool.and_true,Bool.and_eq_true,beq_iff_eq]at h
 obtain⟨⟨u1,s1⟩,⟨u2,s2⟩,⟨u3,s3⟩,⟨u4,s4⟩,⟨u5,s5⟩,⟨u6,s6⟩⟩:=h
 exact⟨_,rfl,rfl,rfl,rfl,rfl,cells6 ⟨b1,rfl,by rw[u1],s1⟩ ⟨b2,rfl,by rw[u2],s2⟩ ⟨b3,rfl,by rw[u3],s3⟩ ⟨b4,rfl,by rw[u4],s4⟩ ⟨b5,rfl,by rw[u5],s5⟩ ⟨b6,rfl,by rw[u6],s6⟩⟩
set_option maxHeartbeats 64000000 in
set_option maxRecDepth 100000 in
theorem grid_6 {p:Nat->RawR} {A:Nat->Nat->Rat} {L:Nat} (hp:∀ k,k<36->(p k).Fit L) (hL:L+3≤LIM) (hA:∀ i j,i<6->j<6->(p (i*6+j)).val=A i j):FnT Tryz.prog true 39 0 [] [.g [.int .i64 6,.int .i64 6,ql 36 p]] (.c (.gs 0 0)) ((R6 A).map gb):=by
 have hN:∀ i j,i<6->j<6->FnOK Tryz.prog true 73 [.g (rr (p (i*6+j)))] (.g (nq (A i j))):=fun i j hi hj=>by
  have:=qnormal_ok (hp (i*6+j) (by omega)) hL
  rwa [hA i j hi hj]at this
 clear hp hL hA
 refine fnt_okS (E:=E1) E1_ok Tryz.func39 rfl (by kernel_rfl) ?_
 refine sq1 ?_
 conv=>whnf
 refine⟨gst [(1,.c (.p 0 0 3 0 0))] [zb 6 36 p],Weak.gen [some 0] rfl ⟨Rf.boxK rfl rfl,trivial⟩ ⟨⟨_,rfl,rfl,rfl⟩,trivial⟩,?_⟩
 refine sq1 ?_
 conv=>whnf
 refine⟨by decide,by decide,by decide,by decide,?_⟩
 conv=>whnf
 refine⟨gst [(1,.c (.p 0 0 3 0 0)),(3,.c (.gs 1 0))] [zb 6 36 p,zG 6,gq (gwl 6 0 0 0) (A 0),gq (gwl 6 0 0 1) (A 1),gq (gwl 6 0 0 2) (A 2),gq (gwl 6 0 0 3) (A 3),gq (gwl 6 0 0 4) (A 4),gq (gwl 6 0 0 5) (A 5)],Weak.gen [some 0,some 1,none,none,none,none,none,none] rfl ⟨Rf.boxK rfl rfl,⟨_,rfl,rfl,rfl,rfl,rfl,cells6 rfl rfl rfl rfl rfl rfl⟩,rfl,rfl,rfl,rfl,rfl,rfl,trivial⟩ ⟨⟨_,rfl,rfl,rfl⟩,⟨_,rfl,rfl,rfl⟩,trivial⟩,?_⟩
 refine swp_mid (fun _:Unit=>gst [(3,.c (.gs 1 0))] [zb 6 36 p,zG 6,gq 6 (A 0),gq 6 (A 1),gq 6 (A 2),gq 6 (A 3),gq 6 (A 4),gq 6 (A 5)]) (fun _=>True) ?_ fun _ _=>?_
 rotate_left
 ·refine so1 ?_
  conv=>whnf
  exact Weak.gen (tl:=[(0,.c (.gs 0 0))]) (xs:=R6 A) [some 1,some 2,some 3,some 4,some 5,some 6,some 7] rfl ⟨⟨_,rfl,rfl,rfl,rfl,rfl,cells6 ⟨_,rfl,rfl,rfl⟩ ⟨_,rfl,rfl,rfl⟩ ⟨_,rfl,rfl,rfl⟩ ⟨_,rfl,rfl,rfl⟩ ⟨_,rfl,rfl,rfl⟩ ⟨_,rfl,rfl,rfl⟩⟩,rs rfl,rs rfl,rs rfl,rs rfl,rs rfl,rs rfl,trivial⟩ ⟨⟨_,rfl,rfl,rfl⟩,trivial⟩
 refine sq1 ?_
 conv=>whnf
 refine⟨(fun i:Nat=>gst [(1,.c (.p 0 0 3 0 0)),(3,.c (.gs 1 0)),(11,.c (.int .i64 6)),nt 12 i] [zb 6 36 p,zG 6,gq (gwl 6 i 0 0) (A 0),gq (gwl 6 i 0 1) (A 1),gq (gwl 6 i 0 2) (A 2),gq (gwl 6 i 0 3) (A 3),gq (gwl 6 i 0 4) (A 4),gq (gwl 6 i 0 5) (A 5)]) 0,Weak.gen [some 0,some 1,some 2,some 3,some 4,some 5,some 6,some 7] rfl ⟨Rf.boxK rfl rfl,zk6 rfl,rs rfl,rs rfl,rs rfl,rs rfl,rs rfl,rs rfl,trivial⟩ ⟨⟨_,rfl,rfl,rfl⟩,⟨_,rfl,rfl,rfl⟩,⟨_,rfl,rfl⟩,⟨_,rfl,rfl⟩,trivial⟩,?_⟩
 refine swp_block (swp_loop (fun i:Nat=>gst [(1,.c (.p 0 0 3 0 0)),(3,.c (.gs 1 0)),(11,.c (.int .i64 6)),nt 12 i] [zb 6 36 p,zG 6,gq (gwl 6 i 0 0) (A 0),gq (gwl 6 i 0 1) (A 1),gq (gwl 6 i 0 2) (A 2),gq (gwl 6 i 0 3) (A 3),gq (gwl 6 i 0 4) (A 4),gq (gwl 6 i 0 5) (A 5)]) (fun i=>7-i) (fun i=>i≤6) 0 (Weak.refl _) (Nat.zero_le _) fun i hi=>?_)
 rcases Nat.lt_or_ge i 6 with ilt | ige
 rotate_left
 ·obtain rfl:i=6:=Nat.le_antisymm hi ige
  refine so1 ?_
  conv=>whnf
  exact⟨(),trivial,Weak.gen [some 0,some 1,some 2,some 3,some 4,some 5,some 6,some 7] rfl ⟨Rf.boxK rfl rfl,zk6 rfl,rs rfl,rs rfl,rs rfl,rs rfl,rs rfl,rs rfl,trivial⟩ ⟨⟨_,rfl,rfl,rfl⟩,trivial⟩⟩
 have e:i=0∨i=1∨i=2∨i=3∨i=4∨i=5:=by omega
 have F:_/\_/\_/\_/\_:=⟨ilt,hN i,(i64_range (by omega) (by omega):inR .i64 (((i:Nat):Int)*6)),(i64_range (by omega) (by omega):inR .i64 (((i:Nat):Int)+1)),(i64_range (by omega) (by omega):inR .i64 ((((i:Nat):Int)+1)*6))⟩
 clear hi ilt hN
 revert F
 rcases e with e | e | e | e | e | e <;> (
  apply lets e
  intro i F
  obtain⟨ilt,hN,r1,r2,r3⟩:=F
  refine swp_seq0 E1_ok mixed (by kernel_rfl) ?_
  conv=>whnf
  refine sq1 ?_
  conv=>whnf
  refine⟨gst [(1,.c (.p 0 0 3 0 0)),(3,.c (.gs 1 0)),(11,.c (.int .i64 6)),nt 12 i] [zb 6 36 p,zG 6,gq (gwl 6 i 0 0) (A 0),gq (gwl 6 i 0 1) (A 1),gq (gwl 6 i 0 2) (A 2),gq (gwl 6 i 0 3) (A 3),gq (gwl 6 i 0 4) (A 4),gq (gwl 6 i 0 5) (A 5)],Weak.gen [some 0,some 1,some 2,some 3,some 4,some 5,some 6,some 7] rfl ⟨Rf.boxK rfl rfl,zk6 rfl,rs rfl,rs rfl,rs rfl,rs rfl,rs rfl,rs rfl,trivial⟩ ⟨⟨_,rfl,rfl,rfl⟩,⟨_,rfl,rfl,rfl⟩,⟨_,rfl,rfl⟩,⟨_,rfl,rfl⟩,trivial⟩,?_⟩
  refine swp_mid (fun _:Unit=>gst [(1,.c (.p 0 0 3 0 0)),(3,.c (.gs 1 0)),(11,.c (.int .i64 6)),nt 12 i] [zb 6 36 p,zG 6,gq (gwl 6 (i+1) 0 0) (A 0),gq (gwl 6 (i+1) 0 1) (A 1),gq (gwl 6 (i+1) 0 2) (A 2),gq (gwl 6 (i+1) 0 3) (A 3),gq (gwl 6 (i+1) 0 4) (A 4),gq (gwl 6 (i+1) 0 5) (A 5)]) (fun _=>True) ?_ fun _ _=>?_
  rotate_left
  ·refine so1 ?_
   conv=>whnf
   repeat (refine⟨by first | exact r1 | exact r2 | exact r3 | exact ib rfl | exact ixl rfl,?_⟩;conv=>whnf)
   exact⟨i+1,by omega,Weak.gen [some 0,some 1,some 2,some 3,some 4,some 5,some 6,some 7] rfl ⟨Rf.boxK rfl rfl,zk6 rfl,rs rfl,rs rfl,rs rfl,rs rfl,rs rfl,rs rfl,trivial⟩ ⟨⟨_,rfl,rfl,rfl⟩,⟨_,rfl,rfl,rfl⟩,⟨_,rfl,rfl⟩,⟨_,rfl,rfl⟩,trivial⟩,ilt⟩
  refine swp_block ?_
  refine sq1 ?_
  conv=>whnf
  refine⟨gst [(1,.c (.p 0 0 3 0 0)),(3,.c (.gs 1 0)),(11,.c (.int .i64 6)),nt 12 i,nt 4 i] [zb 6 36 p,zG 6,gq (gwl 6 i 0 0) (A 0),gq (gwl 6 i 0 1) (A 1),gq (gwl 6 i 0 2) (A 2),gq (gwl 6 i 0 3) (A 3),gq (gwl 6 i 0 4) (A 4),gq (gwl 6 i 0 5) (A 5)],Weak.gen [some 0,some 1,some 2,some 3,some 4,some 5,some 6,some 7] rfl ⟨Rf.boxK rfl rfl,zk6 rfl,rs rfl,rs rfl,rs rfl,rs rfl,rs rfl,rs rfl,trivial⟩ ⟨⟨_,rfl,rfl,rfl⟩,⟨_,rfl,rfl,rfl⟩,⟨_,rfl,rfl⟩,⟨_,rfl,rfl⟩,⟨_,rfl,rfl⟩,trivial⟩,?_⟩
  refine sq1 ?_
  conv=>whnf
  repeat (refine⟨by first | exact r1 | exact r2 | exact r3 | exact ib rfl | exact ixl rfl,?_⟩;conv=>whnf)
  refine⟨(fun x:Nat=>gst [(1,.c (.p 0 0 3 0 0)),(3,.c (.gs 1 0)),(11,.c (.int .i64 6)),nt 12 i,nt 4 i,(26,.c (.row 4 6 (qlF fun k=>p (i*6+k)))),(27,.c (.int .i64 6)),nt 28 x] [zb 6 36 p,zG 6,gq (gwl 6 i x 0) (A 0),gq (gwl 6 i x 1) (A 1),gq (gwl 6 i x 2) (A 2),gq (gwl 6 i x 3) (A 3),gq (gwl 6 i x 4) (A 4),gq (gwl 6 i x 5) (A 5)]) 0,Weak.gen [some 0,some 1,some 2,some 3,some 4,some 5,some 6,some 7] rfl ⟨Rf.boxK rfl rfl,zk6 rfl,rs rfl,rs rfl,rs rfl,rs rfl,rs rfl,rs rfl,trivial⟩ ⟨⟨_,rfl,rfl,rfl⟩,⟨_,rfl,rfl,rfl⟩,⟨_,rfl,rfl⟩,⟨_,rfl,rfl⟩,⟨_,rfl,rfl⟩,.inl ⟨_,_,rfl,rfl,fun _ _ _ _=>rfl⟩,⟨_,rfl,rfl⟩,⟨_,rfl,rfl⟩,trivial⟩,?_⟩
  refine swp_block (swp_loop (fun x:Nat=>gst [(1,.c (.p 0 0 3 0 0)),(3,.c (.gs 1 0)),(11,.c (.int .i64 6)),nt 12 i,nt 4 i,(26,.c (.row 4 6 (qlF fun k=>p (i*6+k)))),(27,.c (.int .i64 6)),nt 28 x] [zb 6 36 p,zG 6,gq (gwl 6 i x 0) (A 0),gq (gwl 6 i x 1) (A 1),gq (gwl 6 i x 2) (A 2),gq (gwl 6 i x 3) (A 3),gq (gwl 6 i x 4) (A 4),gq (gwl 6 i x 5) (A 5)]) (fun x=>6-x) (fun x=>x≤6) 0 (Weak.refl _) (Nat.zero_le _) fun x hx=>?_)
  have hN:=hN x ilt
  have hx:x≤6:=hx
  have hj0:(0:Int)≤(x:Int):=by omega
  refine so1 ?_
  conv=>whnf
  refine bcase (fun(h:decide ((x:Int)<6)=true)=>?_) fun(h:decide ((x:Int)<6)=false)=>?_
  ·have h:=of_decide_eq_true h
   have hN:=hN (by omega)
   have hj1:(x:Int)<((6:Nat):Int):=by omega
   conv=>whnf
   repeat (refine⟨by first | exact hj0 | exact hj1 | exact ib rfl | exact ixl rfl,?_⟩;conv=>whnf)
   refine⟨_,hN,?_⟩
   conv=>whnf
   refine .inr ⟨rfl,?_⟩
   conv=>whnf
   refine⟨by show x+1≤16777216;omega,fun a b ha hb=>Rf.one_nq (A i x) true a b ha hb,?_⟩
   conv=>whnf
   repeat (refine⟨by first | exact r1 | exact r2 | exact r3 | exact ib rfl | exact ixl rfl,?_⟩;conv=>whnf)
   refine⟨i64_range (by omega) (by omega),?_⟩
   conv=>whnf
   exact⟨x+1,by omega,Weak.gen [some 0,some 1,some 2,some 3,some 4,some 5,some 6,some 7] rfl ⟨Rf.boxK rfl rfl,⟨_,rfl,rfl,rfl,rfl,rfl,cells6 ⟨_,rfl,rfl,rfl⟩ ⟨_,rfl,rfl,rfl⟩ ⟨_,rfl,rfl,rfl⟩ ⟨_,rfl,rfl,rfl⟩ ⟨_,rfl,rfl,rfl⟩ ⟨_,rfl,rfl,rfl⟩⟩,by first | exact rs rfl | exact⟨_,rfl,rfl,rfl,rfl,rfl,fun x y hx hy=>row_app hx hy⟩,by first | exact rs rfl | exact⟨_,rfl,rfl,rfl,rfl,rfl,fun x y hx hy=>row_app hx hy⟩,by first | exact rs rfl | exact⟨_,rfl,rfl,rfl,rfl,rfl,fun x y hx hy=>row_app hx hy⟩,by first | exact rs rfl | exact⟨_,rfl,rfl,rfl,rfl,rfl,fun x y hx hy=>row_app hx hy⟩,by first | exact rs rfl | exact⟨_,rfl,rfl,rfl,rfl,rfl,fun x y hx hy=>row_app hx hy⟩,by first | exact rs rfl | exact⟨_,rfl,rfl,rfl,rfl,rfl,fun x y hx hy=>row_app hx hy⟩,trivial⟩ ⟨⟨_,rfl,rfl,rfl⟩,⟨_,rfl,rfl,rfl⟩,⟨_,rfl,rfl⟩,⟨_,rfl,rfl⟩,⟨_,rfl,rfl⟩,.inl ⟨_,_,rfl,rfl,fun _ _ _ _=>rfl⟩,⟨_,rfl,rfl⟩,⟨_,rfl,rfl⟩,trivial⟩,by show x+1≤6;omega⟩
  ·have h:=of_decide_eq_false h
   obtain rfl:x=6:=by omega
   conv=>whnf
   exact⟨(),trivial,Weak.gen [some 0,some 1,some 2,some 3,some 4,some 5,some 6,some 7] rfl ⟨Rf.boxK rfl rfl,zk6 rfl,rs rfl,rs rfl,rs rfl,rs rfl,rs rfl,rs rfl,trivial⟩ ⟨⟨_,rfl,rfl,rfl⟩,⟨_,rfl,rfl,rfl⟩,⟨_,rfl,rfl⟩,⟨_,rfl,rfl⟩,trivial⟩⟩)
end Mx
end Go.Proofs.YtkmbnldginonbaaGreat
/- A Hessenberg matrix that splits: its polynomial is the product of those of its blocks. Plain: no program. -/
namespace Go.Proofs.YtkmbnldginonbaaGreat
open Crg Pol
namespace Mx
section
variable {R:Type} [Crg R]
end
end Mx
end Go.Proofs.YtkmbnldginonbaaGreat
/- Polynomials at a matrix; what takes a cyclic matrix's first unit vector to 0 is divisible by its polynomial. Plain: no program. -/
namespace Go.Proofs.YtkmbnldginonbaaGreat
open Crg Pol
namespace Mx
section
variable {K:Type} [Fld K] {n:Nat} {A:Nat->Nat->K}
noncomputable def evm (n:Nat) (A:Nat->Nat->K) (g:Pol K) (i j:Nat):K:=sm (fun t=>g.f t*mpw n A t i j) g.len
theorem evm_of {g:Pol K} {N:Nat} (h:g.len≤N) (i j:Nat):evm n A g i j=sm (fun t=>g.f t*mpw n A t i j) N:=(sm_more (fun t ht=>by rw[len_out g t ht,zero_mul]) h).symm
theorem evm_zero (i j:Nat):evm n A 0 i j=0:=by
 unfold evm
 rw[len_zero]
 rfl
theorem evm_add (g h:Pol K) (i j:Nat):evm n A (g+h) i j=evm n A g i j+evm n A h i j:=by
 rw[evm_of (len_add g h),evm_of (Nat.le_max_left g.len h.len),evm_of (Nat.le_max_right g.len h.len),← sm_add]
 exact sm_congr fun t _=>by rw[f_add,add_mul]
theorem evm_mn (c:K) (k i j:Nat):evm n A (mn c k) i j=c*mpw n A k i j:=by
 rw[evm_of (len_mn c k),sm_one (k:=k) (by omega) fun t _ ht=>by rw[show(mn c k:Pol K).f t=0 from if_neg ht,zero_mul],show(mn c k:Pol K).f k=c from if_pos rfl]
theorem evm_shift (c:K) (k:Nat) (g:Pol K) {i j:Nat} (hi:i<n) (hj:j<n):evm n A (mn c k*g) i j=c*mm n (mpw n A k) (evm n A g) i j:=by
 have e:mm n (mpw n A k) (evm n A g) i j=sm (fun t=>mm n (mpw n A k) (fun a b=>g.f t*mpw n A t a b) i j) g.len:=mm_sm (fun t a b=>g.f t*mpw n A t a b) g.len i j
 rw[evm_of (N:=k+g.len) (len_le fun t ht=>by rw[mn_mul,if_pos (by omega),len_out g _ (by omega),mul_zero]),sm_split,sm_zero (n:=k) fun t ht=>by rw[mn_mul,if_neg (by omega),zero_mul],zero_add,e,mul_sm]
 refine sm_congr fun t _=>?_
 rw[mn_mul,if_pos (by omega),show k+t-k=t by omega,mm_sc,mpw_add A k t i j hi hj,mul_assoc]
theorem mm_add (B C D:Nat->Nat->K) (i j:Nat):mm n (fun a b=>B a b+C a b) D i j=mm n B D i j+mm n C D i j:=by
 unfold mm
 rw[← sm_add]
 exact sm_congr fun a _=>add_mul _ _ _
theorem evm_mul (h : Pol K) : ∀ (N : Nat) (g : Pol K), g.len ≤ N → Eqn n (evm n A (g * h)) (mm n (evm n A g) (evm n A h))
 | 0,g,hg,i,j,_,_=>by
  obtain rfl:=len_nil (Nat.le_zero.1 hg)
  rw[zero_mul,evm_zero]
  exact(sm_zero fun a _=>by rw[evm_zero,zero_mul]).symm
 | N+1,g,hg,i,j,hi,hj=>by
  have e:g=(g-mn (g.f N) N)+mn (g.f N) N:=RE.eq [g,mn (g.f N) N] t0 (t0-t1+t1) rfl
  have hl:(g-mn (g.f N) N).len≤N:=len_le fun t ht=>by
   rw[f_sub]
   rcases Nat.lt_or_ge N t with h1 | h1
   ·rw[len_out g t (by omega),show(mn (g.f N) N:Pol K).f t=0 from if_neg (by omega),sub_self]
   ·obtain rfl:t=N:=by omega
    rw[show(mn (g.f t) t:Pol K).f t=g.f t from if_pos rfl,sub_self]
  have k1:=evm_mul h N _ hl i j hi hj
  generalize g.f N=c at *
  generalize g-mn c N=g1 at *
  subst e
  rw[add_mul,evm_add,k1,evm_shift c N h hi hj]
  have e2:mm n (evm n A (g1+mn c N)) (evm n A h) i j=mm n (fun a b=>evm n A g1 a b+c*mpw n A N a b) (evm n A h) i j:=sm_congr fun a _=>by rw[evm_add,evm_mn]
  rw[e2,mm_add]
  congr 1
  unfold mm
  rw[mul_sm]
  exact sm_congr fun a _=>(mul_assoc _ _ _).symm
end
end Mx
end Go.Proofs.YtkmbnldginonbaaGreat
/- Annihilators of vectors by reduced vectors of a sequence: plain, over any field. No program. -/
namespace Go.Proofs.YtkmbnldginonbaaGreat
open Crg Pol
namespace Mx
section
variable {K:Type} [Fld K]
def av (n : Nat) (A : Nat → Nat → K) (v : Nat → K) : Nat → Nat → K
 | 0=>v
 | r+1=>fun j=>sm (fun i=>av n A v r i*A i j) n
structure Kn (K : Type) where
 v:Nat->K
 p:Nat
 q:Nat->K
def rdst (s:(Nat->K) × (Nat->K)) (k:Kn K):(Nat->K) × (Nat->K):=(fun j=>s.1 j-s.1 k.p*k.v j,fun j=>s.2 j-k.q j*s.1 k.p)
def xpn (r j:Nat):K:=if j=r then 1 else 0
def rdw (n : Nat) (A : Nat → Nat → K) (v : Nat → K) (kn : Nat → Kn K) (r : Nat) : Nat → (Nat → K) × (Nat → K)
 | 0=>(av n A v r,xpn r)
 | i+1=>rdst (rdw n A v kn r i) (kn i)
theorem rdw_congr {n : Nat} {A : Nat → Nat → K} {v : Nat → K} {k l : Nat → Kn K} (r : Nat) : ∀ m, (∀ i, i < m → k i = l i) → rdw n A v k r m = rdw n A v l r m
 | 0,_=>rfl
 | m+1,h=>by
  show rdst (rdw n A v k r m) (k m)=rdst (rdw n A v l r m) (l m)
  rw[rdw_congr r m fun i hi=>h i (by omega),h m (by omega)]
theorem ex_kn (n:Nat) (A:Nat->Nat->K) (v:Nat->K) (mk:(Nat->K) × (Nat->K)->Kn K):∃ kn:Nat->Kn K,∀ r,kn r=mk (rdw n A v kn r r):=by
 let kf:Nat->Nat->Kn K:=fun r=>Nat.rec (fun _=>⟨fun _=>0,0,fun _=>0⟩) (fun r k i=>if i=r then mk (rdw n A v k r r)else k i) r
 have h1:∀ r,kf (r+1) r=mk (rdw n A v (kf r) r r):=fun r=>if_pos rfl
 have h2:∀ r i,i<r->kf r i=kf (i+1) i:=by
  intro r
  induction r with
  | zero=>intro i hi;omega
  | succ r ih =>
   intro i hi
   rcases Nat.lt_or_ge i r with h | h
   ·have e:kf (r+1) i=kf r i:=if_neg (by omega)
    rw[e,ih i h]
   ·rw[show i=r by omega]
 refine⟨fun i=>kf (i+1) i,fun r=>?_⟩
 show kf (r+1) r=_
 rw[h1,rdw_congr r r fun i hi=>h2 r i hi]
structure Kns (n : Nat) (A : Nat → Nat → K) (v : Nat → K) (R : Nat) (kn : Nat → Kn K) (b : Nat → K) : Prop where
 lt:∀ i,i<R->(kn i).p<n
 bw:∀ i,i<R->(rdw n A v kn i i).1 (kn i).p*b i=1
 hv:∀ i,i<R->∀ j,(kn i).v j=(rdw n A v kn i i).1 j*b i
 hq:∀ i,i<R->∀ j,(kn i).q j=(rdw n A v kn i i).2 j*b i
variable {n R:Nat} {A:Nat->Nat->K} {v:Nat->K} {kn:Nat->Kn K} {b:Nat->K}
def avl (n:Nat) (A:Nat->Nat->K) (v:Nat->K) (g:Nat->K) (N j:Nat):K:=sm (fun t=>g t*av n A v t j) N
structure Kg (n : Nat) (A : Nat → Nat → K) (v : Nat → K) (kn : Nat → Kn K) (i : Nat) : Prop where
 one:(kn i).v (kn i).p=1
 zer:∀ a,a<i->(kn i).v (kn a).p=0
 val:∀ j,(kn i).v j=avl n A v (kn i).q (i+1) j
 deg:∀ t,i<t->(kn i).q t=0
 top:(kn i).q i≠0
theorem rdw_inv {r : Nat} (h : ∀ i, i < r → Kg n A v kn i) : ∀ m, m ≤ r → (∀ a, a < m → (rdw n A v kn r m).1 (kn a).p = 0) ∧ (∀ j, (rdw n A v kn r m).1 j = avl n A v (rdw n A v kn r m).2 (r + 1) j) ∧ (∀ t, r < t → (rdw n A v kn r m).2 t = 0) ∧ (rdw n A v kn r m).2 r = 1
 | 0,_=>by
  refine⟨fun a ha=>absurd ha (Nat.not_lt_zero a),fun j=>?_,fun t ht=>if_neg (by omega),if_pos rfl⟩
  show av n A v r j=sm (fun t=>xpn r t*av n A v t j) (r+1)
  rw[sm_one (k:=r) (by omega) fun t _ ht=>by rw[show(xpn r t:K)=0 from if_neg ht,zero_mul],show(xpn r r:K)=1 from if_pos rfl,one_mul]
 | m+1,hm=>by
  obtain⟨h1,h2,h3,h4⟩:=rdw_inv h m (by omega)
  have g:=h m (by omega)
  generalize hs:rdw n A v kn r m=s at h1 h2 h3 h4
  have e:rdw n A v kn r (m+1)=rdst s (kn m):=by rw[← hs];rfl
  rw[e]
  refine⟨fun a ha=>?_,fun j=>?_,fun t ht=>?_,?_⟩
  ·show s.1 (kn a).p-s.1 (kn m).p*(kn m).v (kn a).p=0
   rcases Nat.lt_or_ge a m with h | h
   ·rw[h1 a h,g.zer a h,mul_zero,sub_self]
   ·rw[show a=m by omega,g.one,Crg.mul_one,sub_self]
  ·show s.1 j-s.1 (kn m).p*(kn m).v j=sm (fun t=>(s.2 t-(kn m).q t*s.1 (kn m).p)*av n A v t j) (r+1)
   have e2:avl n A v (kn m).q (m+1) j=sm (fun t=>(kn m).q t*av n A v t j) (r+1):=(sm_more (fun t ht=>by rw[g.deg t (by omega),zero_mul]) (by omega)).symm
   rw[h2 j,g.val j,e2,sub_def]
   show sm (fun t=>s.2 t*av n A v t j) (r+1)+_=_
   rw[mul_sm,← sm_neg,← sm_add]
   exact sm_congr fun t _=>RE.eq [s.2 t,av n A v t j,s.1 (kn m).p,(kn m).q t] (t0*t1 + -(t2*(t3*t1))) ((t0-t3*t2)*t1) rfl
  ·show s.2 t-(kn m).q t*s.1 (kn m).p=0
   rw[h3 t ht,g.deg t (by omega),zero_mul,sub_self]
  ·show s.2 r-(kn m).q r*s.1 (kn m).p=1
   rw[h4,g.deg r (by omega),zero_mul,sub_zero]
theorem avl_mul (g:Nat->K) (c:K) (N j:Nat):avl n A v (fun t=>g t*c) N j=avl n A v g N j*c:=by
 unfold avl
 rw[sm_mul]
 exact sm_congr fun t _=>RE.eq [g t,c,av n A v t j] (t0*t1*t2) (t0*t2*t1) rfl
theorem Kns.all (h:Kns n A v R kn b):∀ i,i<R->Kg n A v kn i:=by
 intro i
 induction i using Nat.strongRecOn with
 | ind i ih =>
  intro hi
  obtain⟨h1,h2,h3,h4⟩:=rdw_inv (r:=i) (fun a ha=>ih a ha (by omega)) i (Nat.le_refl i)
  have hb:b i≠0:=fun e=>by
   have:=h.bw i hi
   rw[e,mul_zero]at this
   exact Fld.one_ne this.symm
  refine⟨?_,fun a ha=>?_,fun j=>?_,fun t ht=>?_,?_⟩
  ·rw[h.hv i hi,h.bw i hi]
  ·rw[h.hv i hi,h1 a ha,zero_mul]
  ·rw[h.hv i hi,h2 j,← avl_mul]
   exact sm_congr fun t _=>by rw[h.hq i hi]
  ·rw[h.hq i hi,h3 t ht,zero_mul]
  ·rw[h.hq i hi,h4,one_mul]
   exact hb
theorem Kns.inv (h:Kns n A v R kn b) {r:Nat} (hr:r≤R) {m:Nat} (hm:m≤r):(∀ a,a<m->(rdw n A v kn r m).1 (kn a).p=0)/\(∀ j,(rdw n A v kn r m).1 j=avl n A v (rdw n A v kn r m).2 (r+1) j)/\(∀ t,r<t->(rdw n A v kn r m).2 t=0)/\(rdw n A v kn r m).2 r=1:=rdw_inv (fun i hi=>h.all i (by omega)) m hm
theorem avl_sub (g f:Nat->K) (N j:Nat):avl n A v (fun t=>g t-f t) N j=avl n A v g N j-avl n A v f N j:=by
 unfold avl
 rw[sub_def,← sm_neg,← sm_add]
 exact sm_congr fun t _=>RE.eq [g t,f t,av n A v t j] ((t0-t1)*t2) (t0*t2 + -(t1*t2)) rfl
theorem avl_more {g:Nat->K} {N M:Nat} (hg:∀ t,N≤t->g t=0) (h:N≤M) (j:Nat):avl n A v g M j=avl n A v g N j:=sm_more (fun t ht=>by rw[hg t ht,zero_mul]) h
theorem Kns.span (h : Kns n A v R kn b) : ∀ d, d ≤ R → ∀ g : Nat → K, (∀ t, d ≤ t → g t = 0) → ∃ e : Nat → K, ∀ j, avl n A v g d j = sm (fun a => e a * (kn a).v j) d
 | 0,_,_,_=>⟨fun _=>0,fun _=>rfl⟩
 | d+1,hd,g,hg=>by
  have k:=h.all d (by omega)
  obtain⟨z,hz⟩:∃ z,(kn d).q d*z=1:=⟨_,Fld.mul_inv _ k.top⟩
  let g':Nat->K:=fun t=>g t-(kn d).q t*(g d*z)
  have hg':∀ t,d≤t->g' t=0:=fun t ht=>by
   show g t-(kn d).q t*(g d*z)=0
   rcases Nat.eq_or_lt_of_le ht with e | e
   ·rw[← e,show(kn d).q d*(g d*z)=g d*((kn d).q d*z)from RE.eq [(kn d).q d,g d,z] (t0*(t1*t2)) (t1*(t0*t2)) rfl,hz,Crg.mul_one,sub_self]
   ·rw[hg t e,k.deg t e,zero_mul,sub_self]
  obtain⟨e,he⟩:=h.span d (by omega) g' hg'
  refine⟨fun a=>if a=d then g d*z else e a,fun j=>?_⟩
  have h1:avl n A v g' (d+1) j=avl n A v g' d j:=avl_more hg' (by omega) j
  have h2:avl n A v g' (d+1) j=avl n A v g (d+1) j-(kn d).v j*(g d*z):=by
   show avl n A v (fun t=>g t-(kn d).q t*(g d*z)) (d+1) j=_
   rw[avl_sub,avl_mul,k.val j]
  rw[h1,he j]at h2
  show _=sm (fun a=>(if a=d then g d*z else e a)*(kn a).v j) d+(if d=d then g d*z else e d)*(kn d).v j
  rw[if_pos rfl,sm_congr (g:=fun a=>e a*(kn a).v j) fun a ha=>by rw[if_neg (by omega)],h2,sub_def,Crg.mul_comm ((kn d).v j),Crg.add_assoc,neg_add,Crg.add_zero]
theorem Kns.least (h : Kns n A v R kn b) : ∀ d, d ≤ R → ∀ g : Nat → K, (∀ t, d ≤ t → g t = 0) → (∀ j, j < n → avl n A v g d j = 0) → ∀ t, g t = 0
 | 0,_,g,hg,_,t=>hg t (Nat.zero_le t)
 | d+1,hd,g,hg,h0,t=>by
  obtain⟨h1,h2,h3,h4⟩:=h.inv (r:=d) (by omega) (Nat.le_refl d)
  let g':Nat->K:=fun t=>g t-(rdw n A v kn d d).2 t*g d
  have hg':∀ t,d≤t->g' t=0:=fun t ht=>by
   show g t-(rdw n A v kn d d).2 t*g d=0
   rcases Nat.eq_or_lt_of_le ht with e | e
   ·rw[← e,h4,one_mul,sub_self]
   ·rw[hg t e,h3 t e,zero_mul,sub_self]
  have e1:∀ j,j<n->avl n A v g' d j = -((rdw n A v kn d d).1 j*g d):=fun j hj=>by
   rw[← avl_more hg' (show d≤d+1 by omega) j]
   show avl n A v (fun t=>g t-(rdw n A v kn d d).2 t*g d) (d+1) j=_
   rw[avl_sub,avl_mul,h0 j hj,← h2 j,sub_def,zero_add]
  obtain⟨e,he⟩:=h.span d (by omega) g' hg'
  have ez:∀ a,a<d->e a=0:=by
   intro a
   induction a using Nat.strongRecOn with
   | ind a ih =>
    intro ha
    have k:=e1 (kn a).p (h.lt a (by omega))
    rw[he,h1 a ha,zero_mul,neg_zero]at k
    rw[sm_one (k:=a) ha fun c hc hn=>by
     rcases Nat.lt_or_ge c a with q | q
     ·rw[ih c q (by omega),zero_mul]
     ·rw[(h.all c (by omega)).zer a (by omega),mul_zero],(h.all a (by omega)).one,Crg.mul_one]at k
    exact k
  have e2:avl n A v g' d (kn d).p=0:=by rw[he];exact sm_zero fun a ha=>by rw[ez a ha,zero_mul]
  rw[e1 _ (h.lt d (by omega))]at e2
  have e3:g d=0:=by
   have e4:(rdw n A v kn d d).1 (kn d).p*g d=0:=by rw[← neg_neg ((rdw n A v kn d d).1 (kn d).p*g d),e2,neg_zero]
   have e5:=h.bw d (by omega)
   have e6:g d=(rdw n A v kn d d).1 (kn d).p*b d*g d:=by rw[e5,one_mul]
   rw[e6,show(rdw n A v kn d d).1 (kn d).p*b d*g d=(rdw n A v kn d d).1 (kn d).p*g d*b d from RE.eq [(rdw n A v kn d d).1 (kn d).p,b d,g d] (t0*t1*t2) (t0*t2*t1) rfl,e4,zero_mul]
  have hg2:∀ t,d≤t->g t=0:=fun t ht=>by
   rcases Nat.eq_or_lt_of_le ht with e | e
   ·rw[← e,e3]
   ·exact hg t e
  exact h.least d (by omega) g hg2 (fun j hj=>by rw[← avl_more hg2 (show d≤d+1 by omega) j];exact h0 j hj) t
theorem inj_le : ∀ (n m : Nat) (f : Nat → Nat), (∀ i, i < m → f i < n) → (∀ i j, i < j → j < m → f i ≠ f j) → m ≤ n
 | 0,0,_,_,_=>Nat.le_refl 0
 | 0,m+1,f,h,_=>absurd (h 0 (by omega)) (Nat.not_lt_zero _)
 | n+1,0,_,_,_=>Nat.zero_le _
 | n+1,m+1,f,h,k=>by
  -- the place of the last one is filled by what stands at n
  have:=inj_le n m (fun i=>if f i=n then f m else f i) (fun i hi=>by
   show(if f i=n then f m else f i)<n
   have a:=h i (by omega)
   have c:=h m (by omega)
   have d:=k i m hi (by omega)
   split <;> omega) fun i j hij hj=>by
   show(if f i=n then f m else f i)≠if f j=n then f m else f j
   have a:=k i j hij (by omega)
   have c:=k i m (by omega) (by omega)
   have d:=k j m hj (by omega)
   split <;> split <;> omega
  omega
theorem Kns.len (h:Kns n A v R kn b):R≤n:=inj_le n R (fun i=>(kn i).p) h.lt fun i j hij hj e=>by
 have e:(kn i).p=(kn j).p:=e
 have h1:=(h.all j hj).zer i hij
 rw[e,(h.all j hj).one]at h1
 exact Fld.one_ne h1
end
end Mx
end Go.Proofs.YtkmbnldginonbaaGreat
/- charpoly.reduced: the reduction of a vector and its polynomial by known ones. -/
namespace Go.Proofs.YtkmbnldginonbaaGreat
open Go.RowKit
namespace Mx
open Rf
abbrev tiK:TI:=⟨true,3,[.nil,.int .i64 0,.nil],56,[some (0,1),some (1,1),some (2,1)],none,none,3⟩
abbrev tiKs:TI:=⟨false,1,[.nil],24,[],some 130,none,0⟩
noncomputable def tyK (T:Nat):Option TI:=if T == 130 then some tiK else if T == 126 then some tiKs else tyE T
noncomputable def E1k:Env:=⟨Tryz.prog,true,tyK,0⟩
theorem tyK1:tyOf Tryz.prog 130=some tiK:=by kernel_rfl
theorem tyK2:tyOf Tryz.prog 126=some tiKs:=by kernel_rfl
theorem tyK_ok (T:Nat) (ti:TI) (h:tyK T=some ti):tyOf Tryz.prog T=some ti:=by
 unfold tyK at h
 split at h
 ·next e =>
  rw[beq_iff_eq.1 e,← h]
  exact tyK1
 ·split at h
  ·next e =>
   rw[beq_iff_eq.1 e,← h]
   exact tyK2
  ·exact tyE_ok T ti h
theorem E1k_ok:EnvOK E1k:=⟨tyK_ok⟩
noncomputable def E1km:Env:=⟨Tryz.prog,true,tyK,1⟩
theorem E1km_ok:EnvOK E1km:=⟨tyK_ok⟩
theorem FnT.m {P:Program} {r:Bool} {f:FuncId} {B B':Blk} {fresh:List Blk} {args:List V} {X:V} (h:FnT P r f 1 [B] args X (B' :: fresh)):FnM P r f B args X B' fresh:=⟨h.1,fun D w0 l w vs hs hv=>(h.2 D w0 [l] w vs hs hv).mono fun e w' ⟨v,ρ',he,hs',hl,hr⟩=>by
 match ρ',hs'.len with
 | [],hlen=>simp at hlen
 | l' :: ρ'',_=>exact⟨v,l',ρ'',he,hs',fun i x hx=>by
   match i,hx with
   | 0,hx =>
    obtain⟨y,hy,k⟩:=hl 0 x hx
    exact⟨y,hy,k⟩,hr⟩⟩
abbrev kcells (n:Nat) (kv kq:Nat->Nat->Rat) (kp:Nat->Nat) (i:Nat):List Cell:=[nql n (kv i),.int .i64 (kp i:Nat),nql (i+1) (kq i)]
abbrev kcF (n:Nat) (kv kq:Nat->Nat->Rat) (kp:Nat->Nat):Nat->Nat->Cell:=fun i y=>(kcells n kv kq kp i).getD y .any
abbrev kcB (n m:Nat) (kv kq:Nat->Nat->Rat) (kp:Nat->Nat):Gx:=⟨130,3,m,kcF n kv kq kp⟩
theorem kc_clos {n:Nat} {kv kq:Nat->Nat->Rat} {kp:Nat->Nat} {i y:Nat} (hy:y<3):(kcF n kv kq kp i y).clos=true:=by
 match y,hy with
 | 0,_=>rfl
 | 1,_=>rfl
 | 2,_=>rfl
structure Rdk (n m : Nat) (W G kv kq : Nat → Nat → Rat) (kp : Nat → Nat) (L : Nat) : Prop where
 p:∀ i,i<m->kp i<n
 lW:∀ i j,i≤m->j<n->qlen (W i j)≤L
 lG:∀ i j,i≤m->j<m+1->qlen (G i j)≤L
 lv:∀ i j,i<m->j<n->qlen (kv i j)≤L
 lq:∀ i j,i<m->j<i+1->qlen (kq i j)≤L
 sW:∀ i j,i<m->j<n->W i j-W i (kp i)*kv i j=W (i+1) j
 sG:∀ i j,i<m->j<m+1->G i j-kq i j*W i (kp i)=G (i+1) j
 zq:∀ i j,i<m->i<j->kq i j=0
 gt:∀ i,i≤m->G i m=1
theorem reg_nq {q:Nat} {bl:List Blk} {ks:List (Option Nat)} {n:Nat} {v w:Nat->Rat} (h:∀ i,i<n->w i=v i):regV q bl ks (.c (nql n w)) (.c (nql n v)) := .inl ⟨_,_,rfl,rfl,fun i j hi _=>congrArg (fun x=>(rr (ofR x)).getD j .any) (h i hi)⟩
theorem rat_one_ne:(1:Rat)≠0:=by decide
set_option maxRecDepth 100000 in
set_option maxHeartbeats 16000000 in
theorem red_ok {n m:Nat} {W G kv kq:Nat->Nat->Rat} {kp:Nat->Nat} {L:Nat} (hn:n≤1000) (hm:m≤100) (h:Rdk n m W G kv kq kp L) (h1:1≤L) (hL:8*L+32≤LIM):FnM Tryz.prog true 113 (gb (kcB n m kv kq kp)) [.c (.gs 0 0),.c (nql n (W 0)),.c (nql (m+1) (G 0))] (.t2 (.c (nql n (W m))) (.c (nql (m+1) (G m)))) (gb (kcB n m kv kq kp)) []:=by
 have knz:∀ i,i<m->FnOK Tryz.prog true 47 [.g (nq (W i (kp i)))] (.c (.bool (decide (W i (kp i)≠0)))):=fun i hi=>nz_ok (h.lW i _ (by omega) (h.p i hi)) (by omega)
 have kmul:∀ i j,i<m->j<n->FnOK Tryz.prog true 46 [.g (nq (W i (kp i))),.g (nq (kv i j))] (.g (nq (W i (kp i)*kv i j))):=fun i j hi hj=>qmul_n (h.lW i _ (by omega) (h.p i hi)) (h.lv i j hi hj) (by omega) rfl
 have ksub:∀ i j,i<m->j<n->FnOK Tryz.prog true 50 [.g (nq (W i j)),.g (nq (W i (kp i)*kv i j))] (.g (nq (W (i+1) j))):=fun i j hi hj=>qsub_n (h.lW i j (by omega) hj) (q_mul (h.lW i _ (by omega) (h.p i hi)) (h.lv i j hi hj) (by omega)) (by omega) (by omega) (h.sW i j hi hj)
 have ksc:∀ i,i<m->FnOK Tryz.prog true 44 [.c (nql (i+1) (kq i)),.g (nq (W i (kp i)))] (.c (nql (Q.tq (fun t=>kq i t*W i (kp i)) (i+1)) fun t=>kq i t*W i (kp i))):=fun i hi=>scale_step (by omega) (fun j hj=>h.lq i j hi hj) (h.lW i _ (by omega) (h.p i hi)) (by omega)
 have ksb:∀ i,i<m->FnOK Tryz.prog true 42 [.c (nql (m+1) (G i)),.c (nql (Q.tq (fun t=>kq i t*W i (kp i)) (i+1)) fun t=>kq i t*W i (kp i))] (.c (nql (m+1) (G (i+1)))):=fun i hi=>sub_step (L:=2*L) (by omega) (by omega) (by omega) (fun j hj=>Nat.le_trans (h.lG i j (by omega) hj) (by omega)) (fun j hj=>Nat.le_trans (q_mul (h.lq i j hi hj) (h.lW i _ (by omega) (h.p i hi)) (by omega)) (by omega)) (by omega) (by omega) (fun t ht=>by rw[h.zq i t hi (by omega),Rat.zero_mul]) (fun j hj=>h.sG i j hi hj) (by rw[Nat.add_sub_cancel,h.gt (i+1) (by omega)];exact rat_one_ne)
 have hsk:∀ i,i<m->W i (kp i)=0->(∀ j,j<n->W i j=W (i+1) j)/\∀ j,j<m+1->G i j=G (i+1) j:=fun i hi e=>⟨fun j hj=>by rw[← h.sW i j hi hj,e,Rat.zero_mul,Rat.sub_eq_add_neg,Rat.neg_zero,Rat.add_zero],fun j hj=>by rw[← h.sG i j hi hj,e,Rat.mul_zero,Rat.sub_eq_add_neg,Rat.neg_zero,Rat.add_zero]⟩
 have hp:=h.p
 clear h h1
 refine FnT.m ?_
 refine fnt_okS (E:=E1km) E1km_ok Tryz.func113 rfl (by kernel_rfl) ?_
 refine swp_seq0 E1km_ok mixed (by kernel_rfl) ?_
 conv=>whnf
 refine swp_mid (fun _:Unit=>gst [(1,.c (nql n (W m))),(2,.c (nql (m+1) (G m)))] [kcB n m kv kq kp]) (fun _=>True) ?_ fun _ _=>?_
 rotate_left
 ·refine swp_of E1km_ok mixed (by kernel_rfl) ?_
  conv=>whnf
  exact Weak.genT (tl:=[(0,.t2 (.c (nql n (W m))) (.c (nql (m+1) (G m))))]) (xs:=[kcB n m kv kq kp]) [some 0] rfl rfl ⟨_,rfl,rfl,Nat.zero_le 1⟩ ⟨⟨_,rfl,rfl,rfl,rfl,rfl,fun x y hx hy=>regE rfl (kc_clos hy)⟩,trivial⟩ ⟨⟨rfl,rfl⟩,trivial⟩
 refine swp_seq E1km_ok mixed (by kernel_rfl) ?_
 conv=>whnf
 refine⟨(fun i:Nat=>gst [(1,.c (nql n (W i))),(2,.c (nql (m+1) (G i))),(13,.c (.gs 0 0)),(14,.c (.int .i64 ((m:Nat):Int))),(15,.c (.int .i64 ((i:Nat):Int)))] [kcB n m kv kq kp]) 0,Weak.genT [some 0] rfl rfl ⟨_,rfl,rfl,Nat.zero_le 1⟩ ⟨⟨_,rfl,rfl,rfl,rfl,rfl,fun x y hx hy=>regE rfl (kc_clos hy)⟩,trivial⟩ ⟨.inl ⟨_,_,rfl,rfl,fun _ _ _ _=>rfl⟩,.inl ⟨_,_,rfl,rfl,fun _ _ _ _=>rfl⟩,⟨_,rfl,rfl,rfl⟩,⟨_,rfl,rfl⟩,⟨_,rfl,rfl⟩,trivial⟩,?_⟩
 refine swp_block (swp_loop (fun i:Nat=>gst [(1,.c (nql n (W i))),(2,.c (nql (m+1) (G i))),(13,.c (.gs 0 0)),(14,.c (.int .i64 ((m:Nat):Int))),(15,.c (.int .i64 ((i:Nat):Int)))] [kcB n m kv kq kp]) (fun i=>m-i) (fun i=>i≤m) 0 (Weak.refl _) (Nat.zero_le m) fun i hi=>?_)
 have i0:(0:Int)≤(i:Int):=by omega
 refine swp_seq0 E1km_ok mixed (by kernel_rfl) ?_
 conv=>whnf
 refine swp_seq E1km_ok mixed (by kernel_rfl) ?_
 conv=>whnf
 refine bcase (fun(g:decide ((i:Int)<(m:Int))=true)=>?_) fun(g:decide ((i:Int)<(m:Int))=false)=>?_
 rotate_left
 ·have g:=of_decide_eq_false g
  obtain rfl:i=m:=by have hi:i≤m:=hi;omega
  conv=>whnf
  exact⟨(),trivial,Weak.genT [some 0] rfl rfl ⟨_,rfl,rfl,Nat.zero_le 1⟩ ⟨⟨_,rfl,rfl,rfl,rfl,rfl,fun x y hx hy=>regE rfl (kc_clos hy)⟩,trivial⟩ ⟨.inl ⟨_,_,rfl,rfl,fun _ _ _ _=>rfl⟩,.inl ⟨_,_,rfl,rfl,fun _ _ _ _=>rfl⟩,trivial⟩⟩
 have g:=of_decide_eq_true g
 have i1:(i:Int)<(m:Int):=g
 have him:i<m:=by omega
 have knz:=knz i him
 have kmul:=fun j=>kmul i j him
 have ksub:=fun j=>ksub i j him
 have ksc:=ksc i him
 have ksb:=ksb i him
 have hsk:=hsk i him
 have hp:=hp i him
 conv=>whnf
 refine⟨gst [(1,.c (nql n (W i))),(2,.c (nql (m+1) (G i))),(13,.c (.gs 0 0)),(14,.c (.int .i64 ((m:Nat):Int))),(15,.c (.int .i64 ((i:Nat):Int)))] [kcB n m kv kq kp],Weak.genT [some 0] rfl rfl ⟨_,rfl,rfl,Nat.zero_le 1⟩ ⟨⟨_,rfl,rfl,rfl,rfl,rfl,fun x y hx hy=>regE rfl (kc_clos hy)⟩,trivial⟩ ⟨.inl ⟨_,_,rfl,rfl,fun _ _ _ _=>rfl⟩,.inl ⟨_,_,rfl,rfl,fun _ _ _ _=>rfl⟩,⟨_,rfl,rfl,rfl⟩,⟨_,rfl,rfl⟩,⟨_,rfl,rfl⟩,trivial⟩,?_⟩
 refine swp_mid (fun _:Unit=>gst [(1,.c (nql n (W (i+1)))),(2,.c (nql (m+1) (G (i+1)))),(13,.c (.gs 0 0)),(14,.c (.int .i64 ((m:Nat):Int))),(15,.c (.int .i64 ((i:Nat):Int)))] [kcB n m kv kq kp]) (fun _=>True) ?_ fun _ _=>?_
 rotate_left
 ·refine swp_of E1km_ok mixed (by kernel_rfl) ?_
  conv=>whnf
  refine⟨i64_range (by omega) (by omega),?_⟩
  conv=>whnf
  exact⟨i+1,by omega,Weak.genT [some 0] rfl rfl ⟨_,rfl,rfl,Nat.zero_le 1⟩ ⟨⟨_,rfl,rfl,rfl,rfl,rfl,fun x y hx hy=>regE rfl (kc_clos hy)⟩,trivial⟩ ⟨.inl ⟨_,_,rfl,rfl,fun _ _ _ _=>rfl⟩,.inl ⟨_,_,rfl,rfl,fun _ _ _ _=>rfl⟩,⟨_,rfl,rfl,rfl⟩,⟨_,rfl,rfl⟩,⟨_,rfl,rfl⟩,trivial⟩,him⟩
 refine swp_block ?_
 refine swp_seq E1km_ok mixed (by kernel_rfl) ?_
 conv=>whnf
 refine⟨i0,i1,?_⟩
 conv=>whnf
 refine⟨gst [(1,.c (nql n (W i))),(2,.c (nql (m+1) (G i))),(13,.c (.gs 0 0)),(14,.c (.int .i64 ((m:Nat):Int))),(15,.c (.int .i64 ((i:Nat):Int))),(9,.c (.p 1 0 3 0 0))] [kcB n m kv kq kp,⟨130,3,1,boxF (kcells n kv kq kp i)⟩],Weak.genT [some 0,some 1] rfl rfl ⟨_,rfl,rfl,Nat.zero_le 1⟩ ⟨⟨_,rfl,rfl,rfl,rfl,rfl,fun x y hx hy=>regE rfl (kc_clos hy)⟩,Rf.boxU rfl rfl rfl,trivial⟩ ⟨.inl ⟨_,_,rfl,rfl,fun _ _ _ _=>rfl⟩,.inl ⟨_,_,rfl,rfl,fun _ _ _ _=>rfl⟩,⟨_,rfl,rfl,rfl⟩,⟨_,rfl,rfl⟩,⟨_,rfl,rfl⟩,⟨_,rfl,rfl,rfl⟩,trivial⟩,?_⟩
 refine swp_seq E1km_ok mixed (by kernel_rfl) ?_
 conv=>whnf
 refine⟨by omega,by show((kp i:Nat):Int)<((n:Nat):Int);omega,?_⟩
 conv=>whnf
 refine⟨gst [(1,.c (nql n (W i))),(2,.c (nql (m+1) (G i))),(13,.c (.gs 0 0)),(14,.c (.int .i64 ((m:Nat):Int))),(15,.c (.int .i64 ((i:Nat):Int))),(9,.c (.p 1 0 3 0 0)),(10,.c (.p 2 0 4 0 0))] [kcB n m kv kq kp,⟨130,3,1,boxF (kcells n kv kq kp i)⟩,⟨38,4,1,boxF (nq (W i (kp i)))⟩],Weak.genT [some 0,some 1,some 2] rfl rfl ⟨_,rfl,rfl,Nat.zero_le 1⟩ ⟨⟨_,rfl,rfl,rfl,rfl,rfl,fun x y hx hy=>regE rfl (kc_clos hy)⟩,Rf.boxK rfl rfl,Rf.boxU rfl rfl rfl,trivial⟩ ⟨.inl ⟨_,_,rfl,rfl,fun _ _ _ _=>rfl⟩,.inl ⟨_,_,rfl,rfl,fun _ _ _ _=>rfl⟩,⟨_,rfl,rfl,rfl⟩,⟨_,rfl,rfl⟩,⟨_,rfl,rfl⟩,⟨_,rfl,rfl,rfl⟩,⟨_,rfl,rfl,rfl⟩,trivial⟩,?_⟩
 refine swp_seq E1km_ok mixed (by kernel_rfl) ?_
 conv=>whnf
 refine⟨_,knz,?_⟩
 conv=>whnf
 refine bcase (fun(g:(!decide (W i (kp i)≠0))=true)=>?_) fun(g:(!decide (W i (kp i)≠0))=false)=>?_
 ·have h0:W i (kp i)=0:=by simpa using g
  obtain⟨w1,w2⟩:=hsk h0
  conv=>whnf
  exact⟨(),trivial,Weak.genT [some 0] rfl rfl ⟨_,rfl,rfl,Nat.zero_le 1⟩ ⟨⟨_,rfl,rfl,rfl,rfl,rfl,fun x y hx hy=>regE rfl (kc_clos hy)⟩,trivial⟩ ⟨reg_nq fun x hx=>w1 x hx,reg_nq fun x hx=>w2 x hx,⟨_,rfl,rfl,rfl⟩,⟨_,rfl,rfl⟩,⟨_,rfl,rfl⟩,trivial⟩⟩
 conv=>whnf
 refine⟨gst [(1,.c (nql n (W i))),(2,.c (nql (m+1) (G i))),(13,.c (.gs 0 0)),(14,.c (.int .i64 ((m:Nat):Int))),(15,.c (.int .i64 ((i:Nat):Int))),(9,.c (.p 1 0 3 0 0)),(10,.c (.p 2 0 4 0 0))] [kcB n m kv kq kp,⟨130,3,1,boxF (kcells n kv kq kp i)⟩,⟨38,4,1,boxF (nq (W i (kp i)))⟩],Weak.genT [some 0,some 1,some 2] rfl rfl ⟨_,rfl,rfl,Nat.zero_le 1⟩ ⟨⟨_,rfl,rfl,rfl,rfl,rfl,fun x y hx hy=>regE rfl (kc_clos hy)⟩,Rf.boxK rfl rfl,Rf.boxK rfl rfl,trivial⟩ ⟨.inl ⟨_,_,rfl,rfl,fun _ _ _ _=>rfl⟩,.inl ⟨_,_,rfl,rfl,fun _ _ _ _=>rfl⟩,⟨_,rfl,rfl,rfl⟩,⟨_,rfl,rfl⟩,⟨_,rfl,rfl⟩,⟨_,rfl,rfl,rfl⟩,⟨_,rfl,rfl,rfl⟩,trivial⟩,?_⟩
 refine swp_seq E1km_ok mixed (by kernel_rfl) ?_
 conv=>whnf
 refine⟨by omega,Int.le_refl _,by omega,by show(64:Int)*n≤281474976710656;omega,?_⟩
 conv=>whnf
 refine⟨gst [(1,.c (nql n (W i))),(2,.c (nql (m+1) (G i))),(13,.c (.gs 0 0)),(14,.c (.int .i64 ((m:Nat):Int))),(15,.c (.int .i64 ((i:Nat):Int))),(9,.c (.p 1 0 3 0 0)),(10,.c (.p 2 0 4 0 0)),(11,.c (.gs 3 0))] [kcB n m kv kq kp,⟨130,3,1,boxF (kcells n kv kq kp i)⟩,⟨38,4,1,boxF (nq (W i (kp i)))⟩,gqp n (W (i+1)) 0],Weak.genT [some 0,some 1,some 2,some 3] rfl rfl ⟨_,rfl,rfl,Nat.zero_le 1⟩ ⟨⟨_,rfl,rfl,rfl,rfl,rfl,fun x y hx hy=>regE rfl (kc_clos hy)⟩,Rf.boxK rfl rfl,Rf.boxK rfl rfl,⟨_,rfl,rfl,rfl,by show Int.toNat n=n;omega,rfl,fun k j hk hj=>regE (congrArg (fun l=>l.getD j .any) (qp_zero (W (i+1)) k).symm) (qp_clos k j)⟩,trivial⟩ ⟨.inl ⟨_,_,rfl,rfl,fun _ _ _ _=>rfl⟩,.inl ⟨_,_,rfl,rfl,fun _ _ _ _=>rfl⟩,⟨_,rfl,rfl,rfl⟩,⟨_,rfl,rfl⟩,⟨_,rfl,rfl⟩,⟨_,rfl,rfl,rfl⟩,⟨_,rfl,rfl,rfl⟩,⟨_,rfl,rfl,rfl⟩,trivial⟩,?_⟩
 refine swp_mid (fun _:Unit=>gst [(1,.c (nql n (W i))),(2,.c (nql (m+1) (G i))),(13,.c (.gs 0 0)),(14,.c (.int .i64 ((m:Nat):Int))),(15,.c (.int .i64 ((i:Nat):Int))),(9,.c (.p 1 0 3 0 0)),(10,.c (.p 2 0 4 0 0)),(11,.c (nql n (W (i+1))))] [kcB n m kv kq kp,⟨130,3,1,boxF (kcells n kv kq kp i)⟩,⟨38,4,1,boxF (nq (W i (kp i)))⟩]) (fun _=>True) ?_ fun _ _=>?_
 rotate_left
 ·refine swp_of E1km_ok mixed (by kernel_rfl) ?_
  conv=>whnf
  refine⟨_,ksc,?_⟩
  conv=>whnf
  refine⟨_,ksb,?_⟩
  conv=>whnf
  exact⟨(),trivial,Weak.genT [some 0] rfl rfl ⟨_,rfl,rfl,Nat.zero_le 1⟩ ⟨⟨_,rfl,rfl,rfl,rfl,rfl,fun x y hx hy=>regE rfl (kc_clos hy)⟩,trivial⟩ ⟨.inl ⟨_,_,rfl,rfl,fun _ _ _ _=>rfl⟩,.inl ⟨_,_,rfl,rfl,fun _ _ _ _=>rfl⟩,⟨_,rfl,rfl,rfl⟩,⟨_,rfl,rfl⟩,⟨_,rfl,rfl⟩,trivial⟩⟩
 refine swp_seq E1km_ok mixed (by kernel_rfl) ?_
 conv=>whnf
 refine⟨(fun j:Nat=>gst [(1,.c (nql n (W i))),(2,.c (nql (m+1) (G i))),(13,.c (.gs 0 0)),(14,.c (.int .i64 ((m:Nat):Int))),(15,.c (.int .i64 ((i:Nat):Int))),(9,.c (.p 1 0 3 0 0)),(10,.c (.p 2 0 4 0 0)),(11,.c (.gs 3 0)),(31,.c (.int .i64 ((n:Nat):Int))),(32,.c (.int .i64 ((j:Nat):Int)))] [kcB n m kv kq kp,⟨130,3,1,boxF (kcells n kv kq kp i)⟩,⟨38,4,1,boxF (nq (W i (kp i)))⟩,gqp n (W (i+1)) j]) 0,Weak.genT [some 0,some 1,some 2,some 3] rfl rfl ⟨_,rfl,rfl,Nat.zero_le 1⟩ ⟨⟨_,rfl,rfl,rfl,rfl,rfl,fun x y hx hy=>regE rfl (kc_clos hy)⟩,Rf.boxK rfl rfl,Rf.boxK rfl rfl,⟨_,rfl,rfl,rfl,rfl,rfl,fun k j hk hj=>regE rfl (qp_clos k j)⟩,trivial⟩ ⟨.inl ⟨_,_,rfl,rfl,fun _ _ _ _=>rfl⟩,.inl ⟨_,_,rfl,rfl,fun _ _ _ _=>rfl⟩,⟨_,rfl,rfl,rfl⟩,⟨_,rfl,rfl⟩,⟨_,rfl,rfl⟩,⟨_,rfl,rfl,rfl⟩,⟨_,rfl,rfl,rfl⟩,⟨_,rfl,rfl,rfl⟩,⟨_,rfl,rfl⟩,⟨_,rfl,rfl⟩,trivial⟩,?_⟩
 refine swp_block (swp_loop (fun j:Nat=>gst [(1,.c (nql n (W i))),(2,.c (nql (m+1) (G i))),(13,.c (.gs 0 0)),(14,.c (.int .i64 ((m:Nat):Int))),(15,.c (.int .i64 ((i:Nat):Int))),(9,.c (.p 1 0 3 0 0)),(10,.c (.p 2 0 4 0 0)),(11,.c (.gs 3 0)),(31,.c (.int .i64 ((n:Nat):Int))),(32,.c (.int .i64 ((j:Nat):Int)))] [kcB n m kv kq kp,⟨130,3,1,boxF (kcells n kv kq kp i)⟩,⟨38,4,1,boxF (nq (W i (kp i)))⟩,gqp n (W (i+1)) j]) (fun j=>n-j) (fun j=>j≤n) 0 (Weak.refl _) (Nat.zero_le n) fun j hj=>?_)
 have kmul:=kmul j
 have ksub:=ksub j
 have hj:j≤n:=hj
 have j0:(0:Int)≤(j:Int):=by omega
 refine swp_of E1km_ok mixed (by kernel_rfl) ?_
 conv=>whnf
 refine bcase (fun(g:decide ((j:Int)<(n:Int))=true)=>?_) fun(g:decide ((j:Int)<(n:Int))=false)=>?_
 ·have g:=of_decide_eq_true g
  have j1:(j:Int)<(n:Int):=g
  have kmul:=kmul (by omega)
  have ksub:=ksub (by omega)
  conv=>whnf
  repeat (refine⟨by first | exact j0 | exact j1,?_⟩;conv=>whnf)
  refine⟨_,kmul,?_⟩
  conv=>whnf
  repeat (refine⟨by first | exact j0 | exact j1,?_⟩;conv=>whnf)
  refine⟨_,ksub,?_⟩
  conv=>whnf
  repeat (refine⟨by first | exact j0 | exact j1,?_⟩;conv=>whnf)
  refine⟨i64_range (by omega) (by omega),?_⟩
  conv=>whnf
  exact⟨j+1,by omega,Weak.genT [some 0,some 1,some 2,some 3] rfl rfl ⟨_,rfl,rfl,Nat.zero_le 1⟩ ⟨⟨_,rfl,rfl,rfl,rfl,rfl,fun x y hx hy=>regE rfl (kc_clos hy)⟩,Rf.boxK rfl rfl,Rf.boxK rfl rfl,⟨_,rfl,rfl,rfl,rfl,rfl,fun k y hk hy=>regE (updG (sz:=4) (g:=qpF (W (i+1)) j) (g':=qpF (W (i+1)) (j+1)) (l:=nq (W (i+1) j)) rfl hy (qp_next (W (i+1)) j k)) (qp_clos k y)⟩,trivial⟩ ⟨.inl ⟨_,_,rfl,rfl,fun _ _ _ _=>rfl⟩,.inl ⟨_,_,rfl,rfl,fun _ _ _ _=>rfl⟩,⟨_,rfl,rfl,rfl⟩,⟨_,rfl,rfl⟩,⟨_,rfl,rfl⟩,⟨_,rfl,rfl,rfl⟩,⟨_,rfl,rfl,rfl⟩,⟨_,rfl,rfl,rfl⟩,⟨_,rfl,rfl⟩,⟨_,rfl,rfl⟩,trivial⟩,by omega⟩
 ·have g:=of_decide_eq_false g
  obtain rfl:j=n:=by omega
  conv=>whnf
  exact⟨(),trivial,Weak.genT [some 0,some 1,some 2] rfl rfl ⟨_,rfl,rfl,Nat.zero_le 1⟩ ⟨⟨_,rfl,rfl,rfl,rfl,rfl,fun x y hx hy=>regE rfl (kc_clos hy)⟩,Rf.boxK rfl rfl,Rf.boxK rfl rfl,trivial⟩ ⟨.inl ⟨_,_,rfl,rfl,fun _ _ _ _=>rfl⟩,.inl ⟨_,_,rfl,rfl,fun _ _ _ _=>rfl⟩,⟨_,rfl,rfl,rfl⟩,⟨_,rfl,rfl⟩,⟨_,rfl,rfl⟩,⟨_,rfl,rfl,rfl⟩,⟨_,rfl,rfl,rfl⟩,.inr (.inr ⟨3,_,rfl,rfl,rfl,rfl,Nat.zero_le _,rfl,rfl,fun x y hx hy=>⟨qp_all hx y,q_clos _ x y⟩⟩),trivial⟩⟩
end Mx
end Go.Proofs.YtkmbnldginonbaaGreat
/- Runs whose results are told cell by cell. -/
namespace Go.Proofs.YtkmbnldginonbaaGreat
open Go.RowKit
def sameC : Cell → Cell → Bool
 | .bool a,.bool b=>a == b
 | .int k a,.int l b=>decide (k=l)&&decide (a=b)
 | .nil,.nil=>true
 | .nil,.row _ n _=>n == 0
 | .row sz n f,.row sz' n' f'=>sz == sz'&&(n == n'&&((List.range n).all fun i=>(List.range sz).all fun j=>sameC (f i j) (f' i j)))
 | _,_=>false
theorem sameC_ok (a:Cell):∀(b:Cell),sameC a b=true->∀(D:Nat->Prop) (w:World) (v:Value),CRel D w [] a v->CRel D w [] b v:=by
 induction a with
 | bool a =>
  intro b h D w v hv
  cases b with
  | bool b=>simp[sameC]at h;subst h;exact hv
  | _=>simp[sameC]at h
 | int k a =>
  intro b h D w v hv
  cases b with
  | int l b=>simp[sameC]at h;obtain⟨rfl,rfl⟩:=h;exact hv
  | _=>simp[sameC]at h
 | nil =>
  intro b h D w v hv
  cases b with
  | nil=>exact hv
  | row sz n f =>
   have h:n=0:=by simpa [sameC] using h
   subst h
   have hv:v = .slice none 0 0:=hv
   exact⟨none,0,hv,Nat.le_refl _,fun h=>absurd h (Nat.lt_irrefl 0)⟩
  | _=>simp[sameC]at h
 | row sz n f ih =>
  intro b h D w v hv
  cases b with
  | row sz' n' f' =>
   simp only[sameC,Bool.and_eq_true,beq_iff_eq,List.all_eq_true,List.mem_range]at h
   obtain⟨rfl,rfl,h⟩:=h
   obtain⟨A,c,e1,e2,e3⟩:=hv
   refine⟨A,c,e1,e2,fun hn=>?_⟩
   obtain⟨b,o,g1,g2,g3,g4⟩:=e3 hn
   refine⟨b,o,g1,g2,g3,fun i j hi hj=>?_⟩
   obtain⟨u,hu,hr⟩:=g4 i j hi hj
   exact⟨u,hu,ih i j (f' i j) (h i hi j hj) D w u hr⟩
  | _=>simp[sameC]at h
 | _=>intro b h;cases b <;> simp[sameC]at h
def sameL : List Cell → List Cell → Bool
 | [],[]=>true
 | a :: l,b :: l'=>sameC a b&&sameL l l'
 | _,_=>false
def sameV : V → V → Bool
 | .c a,.c b=>sameC a b
 | .g l,.g l'=>sameL l l'
 | .t2 a b,.t2 c d=>sameV a c&&sameV b d
 | _,_=>false
theorem sameL_ok : ∀ (l l' : List Cell), sameL l l' = true → ∀ (D : Nat → Prop) (w : World) (vs : List Value), CRels D w [] l vs → CRels D w [] l' vs
 | [],[],_,_,_,_,hv=>hv
 | a :: l,b :: l',h,D,w,v :: vs,hv=>by
  simp only[sameL,Bool.and_eq_true]at h
  exact⟨sameC_ok a b h.1 D w v hv.1,sameL_ok l l' h.2 D w vs hv.2⟩
 | [],_ :: _,h,_,_,_,_=>by simp[sameL]at h
 | _ :: _,[],h,_,_,_,_=>by simp[sameL]at h
 | _ :: _,_ :: _,_,_,_,[],hv=>hv.elim
theorem sameV_ok : ∀ (a b : V), sameV a b = true → ∀ (D : Nat → Prop) (w : World) (v : Value), VRel D w [] a v → VRel D w [] b v
 | .c a,.c b,h,D,w,v,hv=>sameC_ok a b h D w v hv
 | .g l,.g l',h,D,w,v,hv=>by
  obtain⟨vs,h1,h2⟩:=hv
  exact⟨vs,h1,sameL_ok l l' h D w _ h2⟩
 | .t2 a b,.t2 c d,h,D,w,v,hv=>by
  simp only[sameV,Bool.and_eq_true]at h
  obtain⟨x,y,h1,h2,h3⟩:=hv
  exact⟨x,y,h1,sameV_ok a c h.1 D w x h2,sameV_ok b d h.2 D w y h3⟩
 | .c _,.g _,h,_,_,_,_=>by simp[sameV]at h
 | .c _,.t2 ..,h,_,_,_,_=>by simp[sameV]at h
 | .c _,.t3 ..,h,_,_,_,_=>by simp[sameV]at h
 | .c _,.t4 ..,h,_,_,_,_=>by simp[sameV]at h
 | .g _,.c _,h,_,_,_,_=>by simp[sameV]at h
 | .g _,.t2 ..,h,_,_,_,_=>by simp[sameV]at h
 | .g _,.t3 ..,h,_,_,_,_=>by simp[sameV]at h
 | .g _,.t4 ..,h,_,_,_,_=>by simp[sameV]at h
 | .t2 ..,.c _,h,_,_,_,_=>by simp[sameV]at h
 | .t2 ..,.g _,h,_,_,_,_=>by simp[sameV]at h
 | .t2 ..,.t3 ..,h,_,_,_,_=>by simp[sameV]at h
 | .t2 ..,.t4 ..,h,_,_,_,_=>by simp[sameV]at h
 | .t3 ..,_,h,_,_,_,_=>by simp[sameV]at h
 | .t4 ..,_,h,_,_,_,_=>by simp[sameV]at h
 | .un,_,h,_,_,_,_=>by simp[sameV]at h
 | .c _,.un,h,_,_,_,_=>by simp[sameV]at h
 | .g _,.un,h,_,_,_,_=>by simp[sameV]at h
 | .t2 ..,.un,h,_,_,_,_=>by simp[sameV]at h
theorem run_same {inl:FuncId->Bool} {f:FuncId} {args:List V} {Y:V} (h:(pureX orcC (runX ER orcC okF inl 1000 40) f args).map (fun X=>sameV X Y)=some true):FnOK Tryz.prog false f args Y:=by
 cases hx:pureX orcC (runX ER orcC okF inl 1000 40) f args with
 | none=>rw[hx]at h;cases h
 | some X =>
  rw[hx]at h
  have h:sameV X Y=true:=by simpa using h
  have hf:=run_call orcC_ok hx
  refine⟨hf.1,fun D w vs h1 h2 h3=>(hf.2 D w vs h1 h2 h3).mono ?_⟩
  rintro e w' ⟨v,h4,h5,h6⟩
  exact⟨v,h4,sameV_ok X Y h D w' v h5,h6⟩
end Go.Proofs.YtkmbnldginonbaaGreat
/- The document's polynomials over the rational numbers: normal form, degree, product. -/
set_option maxHeartbeats 4000000
namespace Go.Proofs.YtkmbnldginonbaaGreat
open Go.RowKit
namespace Rf
theorem normal6_ok {n:Nat} {q:Nat->RawR} {v:Nat->Rat} (hn:n≤4096) (hv:∀ i,i<n->(q i).val=v i) (hq:∀ i,i<n->wq (q i)) (hl:∀ i,i<n->qlen (v i)≤524286):FnOK Tryz.prog false 61 [.c (ql n q)] (.c (nql (Q.tq v n) v)):=by
 have h1:∀ i,i<n->FnOK Tryz.prog false 102 [.g (rr (q i))] (.g (nq (v i))):=fun i hi=>by
  rw[← hv i hi]
  exact rqnormal_ok (hq i hi)
 have h2:∀ i,i<n->FnOK Tryz.prog false 106 [.g (nq (v i))] (.c (.int .i64 (v i).num.sign)):=fun i hi=>rqsign_n (hl i hi)
 clear hv hq hl
 refine fn_ok (E:=E0) E0_ok Tryz.func61 rfl mixed (by kernel_rfl) (by kernel_rfl) ?_
 conv=>whnf
 refine loop_ints (fun i:Nat=>gst [(0,.c (ql n q)),(3,.c (.gs 0 0)),(4,.c (.int .i64 i))] [gqr i fun k=>ofR (v k)]) (fun i=>n-i) (fun i=>i≤n) 0 rfl (Weak.gen [none] rfl ⟨rfl,trivial⟩ ⟨.inl ⟨_,_,rfl,rfl,fun _ _ _ _=>rfl⟩,rfl,⟨_,rfl,rfl⟩,trivial⟩) (Nat.zero_le _) fun i hi=>?_
 conv=>whnf
 refine bcase (fun(h:decide ((i:Int)<n)=true)=>?_) fun(h:decide ((i:Int)<n)=false)=>?_
 ·have h:=of_decide_eq_true h
  have g1:=h1 i (by omega)
  conv=>whnf
  refine⟨by omega,?_⟩
  conv=>whnf
  refine⟨by omega,?_⟩
  conv=>whnf
  refine⟨_,g1,?_⟩
  conv=>whnf
  refine⟨by show i+1≤16777216;omega,fun x y hx hy=>one_nq (v i) _ x y hx hy,?_⟩
  conv=>whnf
  refine⟨i64 (by omega) (by omega),?_⟩
  conv=>whnf
  refine⟨i+1,by omega,Weak.gen [some 0] rfl ⟨⟨_,rfl,rfl,rfl,rfl,rfl,fun j k hj hk=>?_⟩,trivial⟩ ⟨.inl ⟨_,_,rfl,rfl,fun _ _ _ _=>rfl⟩,⟨_,rfl,rfl,rfl⟩,⟨_,rfl,rfl⟩,trivial⟩,by omega⟩
  exact regE (appG (sz:=4) (g:=fun i=>nq (v i)) (g':=fun i=>nq (v i)) (l:=nq (v i)) (app_sameq v i j) (Nat.le_refl (i+1)) hj) (ql_clos (c:=fun i=>ofR (v i)) j k)
 ·have h:=of_decide_eq_false h
  have e:i=n:=by omega
  conv=>whnf
  refine loop_ints (fun m:Nat=>gst [(3,.c (.gs 0 0)),(5,.c (.int .i64 m))] [gqr i fun k=>ofR (v k)]) (fun m=>m) (fun m=>m≤i/\Q.tq v m=Q.tq v i) i rfl (Weak.gen [some 0] rfl ⟨⟨_,rfl,rfl,rfl,rfl,rfl,fun j k hj hk=>regE rfl (ql_clos (c:=fun i=>ofR (v i)) j k)⟩,trivial⟩ ⟨⟨_,rfl,rfl,rfl⟩,⟨_,rfl,rfl⟩,trivial⟩) ⟨Nat.le_refl _,rfl⟩ fun m ⟨hm,ht⟩=>?_
  conv=>whnf
  refine bcase (fun(h:gw true (decide ((0:Int)<m))=true)=>?_) fun(h:gw true (decide ((0:Int)<m))=false)=>?_
  ·have h:=of_decide_eq_true (gw_true.1 h)
   have ek:((m:Int)-1).toNat=m-1:=by omega
   have hs:=h2 ((m:Int)-1).toNat (by omega)
   have hz:v ((m:Int)-1).toNat=0->Q.tq v (m-1)=Q.tq v i:=fun h=>by
    rw[← ht]
    obtain⟨k,rfl⟩:∃ k,m=k+1:=⟨m-1,by omega⟩
    rw[ek]at h
    show Q.tq v k=_
    simp only[Q.tq,Nat.add_sub_cancel]at h ⊢
    rw[if_pos h]
   have hz':v ((m:Int)-1).toNat≠0->m=Q.tq v n:=fun h=>by
    rw[← e,← ht]
    obtain⟨k,rfl⟩:∃ k,m=k+1:=⟨m-1,by omega⟩
    rw[ek]at h
    simp only[Q.tq,Nat.add_sub_cancel]at h ⊢
    rw[if_neg h]
   conv=>whnf
   refine⟨i64 (by omega) (by omega),?_⟩
   conv=>whnf
   refine⟨by omega,?_⟩
   conv=>whnf
   refine⟨by show((m:Int)-1)<(i:Int);omega,?_⟩
   conv=>whnf
   refine⟨_,hs,?_⟩
   conv=>whnf
   refine bcase (fun(h3:decide ((v ((m:Int)-1).toNat).num.sign=0)=true)=>?_) fun(h3:decide ((v ((m:Int)-1).toNat).num.sign=0)=false)=>?_
   ·have h3:=Rat.num_eq_zero.1 (Int.sign_eq_zero_iff_zero.1 (of_decide_eq_true h3))
    have g3:=hz h3
    conv=>whnf
    refine⟨i64 (by omega) (by omega),?_⟩
    conv=>whnf
    exact⟨m-1,by omega,Weak.gen [some 0] rfl ⟨⟨_,rfl,rfl,rfl,rfl,rfl,fun j k hj hk=>regE rfl (ql_clos (c:=fun i=>ofR (v i)) j k)⟩,trivial⟩ ⟨⟨_,rfl,rfl,rfl⟩,⟨_,rfl,by omega⟩,trivial⟩,by omega,g3⟩
   ·have h3:=hz' fun e=>of_decide_eq_false h3 (by rw[e];rfl)
    conv=>whnf
    refine⟨by omega,by omega,?_⟩
    conv=>whnf
    refine⟨by show(m:Int)≤(i:Int);omega,?_⟩
    conv=>whnf
    refine⟨fun j k _ _=>ql_clos (c:=fun i=>ofR (v i)) j k,?_⟩
    conv=>whnf
    exact⟨rfl,subRowG (by show((m:Int)-0).toNat=_;omega) fun j k _ _=>qlF_eq (c:=fun i=>ofR (v i)) (e:=fun i=>ofR (v i)) (i:=Int.toNat 0+j) (k:=j) (congrArg (fun t=>ofR (v t)) (by omega))⟩
  ·have h:¬(0:Int)<m:=of_decide_eq_false (gw_false.1 h)
   have h3:Q.tq v n=0:=by rw[← e,← ht];rw[show m=0 by omega];rfl
   conv=>whnf
   refine⟨by omega,by omega,?_⟩
   conv=>whnf
   refine⟨by show(m:Int)≤(i:Int);omega,?_⟩
   conv=>whnf
   refine⟨fun j k _ _=>ql_clos (c:=fun i=>ofR (v i)) j k,?_⟩
   conv=>whnf
   exact⟨rfl,subRowG (by show((m:Int)-0).toNat=_;omega) fun j k _ _=>qlF_eq (c:=fun i=>ofR (v i)) (e:=fun i=>ofR (v i)) (i:=Int.toNat 0+j) (k:=j) (congrArg (fun t=>ofR (v t)) (by omega))⟩
theorem degree6_ok {n:Nat} {q:Nat->RawR} {v:Nat->Rat} (hn:n≤4096) (hv:∀ i,i<n->(q i).val=v i) (hq:∀ i,i<n->wq (q i)) (hl:∀ i,i<n->qlen (v i)≤524286):FnOK Tryz.prog false 17 [.c (ql n q)] (.c (.int .i64 ((Q.tq v n:Nat)-1))):=by
 have s:=normal6_ok hn hv hq hl
 have hl:=Q.tq_le v n
 refine fn_ok (E:=E0) E0_ok Tryz.func17 rfl mixed (by kernel_rfl) (by kernel_rfl) ?_
 conv=>whnf
 refine .inr ?_
 conv=>whnf
 refine⟨_,s,?_⟩
 conv=>whnf
 refine⟨i64 (by omega) (by omega),?_⟩
 conv=>whnf
 exact⟨rfl,Sub.refl _⟩
end Rf
end Go.Proofs.YtkmbnldginonbaaGreat
/- Plain laws of finite sums of fractions, of matrices as functions, and of polynomials at matrices. -/
namespace Go.Proofs.YtkmbnldginonbaaGreat
def rsm : Nat → (Nat → Rat) → Rat
 | 0,_=>0
 | n+1,f=>rsm n f+f n
abbrev Mx:=Nat->Nat->Rat
def mmul (d:Nat) (a b:Mx):Mx:=fun i j=>rsm d fun k=>a i k*b k j
def madd (a b:Mx):Mx:=fun i j=>a i j+b i j
def mscale (c:Rat) (a:Mx):Mx:=fun i j=>c*a i j
def mone:Mx:=fun i j=>if i=j then 1 else 0
def horner (d : Nat) (a : Mx) : Nat → (Nat → Rat) → Mx
 | 0,_=>fun _ _=>0
 | n+1,f=>madd (mmul d (horner d a n fun i=>f (i+1)) a) (mscale (f 0) mone)
end Go.Proofs.YtkmbnldginonbaaGreat
/- Plain laws of the size of fractions: over a common denominator. -/
namespace Go.Proofs.YtkmbnldginonbaaGreat
end Go.Proofs.YtkmbnldginonbaaGreat
/- Polynomials at matrices: the unit matrix, by runs; the document's sum of matrices. -/
set_option maxHeartbeats 4000000
namespace Go.Proofs.YtkmbnldginonbaaGreat
open Go.RowKit
def inlUnit (f:FuncId):Bool:=[119,109,151,108].contains f
theorem ident0:FnOK Tryz.prog false 77 [.c (.int .i64 (0:Nat))] (.t2 (.g (matL 0 0 mone)) (.c (.int .i64 0))):=run_same (inl:=inlUnit) (by kernel_rfl)
theorem ident1:FnOK Tryz.prog false 77 [.c (.int .i64 (1:Nat))] (.t2 (.g (matL 1 1 mone)) (.c (.int .i64 0))):=run_same (inl:=inlUnit) (by kernel_rfl)
theorem ident2:FnOK Tryz.prog false 77 [.c (.int .i64 (2:Nat))] (.t2 (.g (matL 2 2 mone)) (.c (.int .i64 0))):=run_same (inl:=inlUnit) (by kernel_rfl)
theorem ident3:FnOK Tryz.prog false 77 [.c (.int .i64 (3:Nat))] (.t2 (.g (matL 3 3 mone)) (.c (.int .i64 0))):=run_same (inl:=inlUnit) (by kernel_rfl)
theorem ident4:FnOK Tryz.prog false 77 [.c (.int .i64 (4:Nat))] (.t2 (.g (matL 4 4 mone)) (.c (.int .i64 0))):=run_same (inl:=inlUnit) (by kernel_rfl)
theorem ident5:FnOK Tryz.prog false 77 [.c (.int .i64 (5:Nat))] (.t2 (.g (matL 5 5 mone)) (.c (.int .i64 0))):=run_same (inl:=inlUnit) (by kernel_rfl)
theorem ident6:FnOK Tryz.prog false 77 [.c (.int .i64 (6:Nat))] (.t2 (.g (matL 6 6 mone)) (.c (.int .i64 0))):=run_same (inl:=inlUnit) (by kernel_rfl)
theorem identity_ok : ∀ {n : Nat}, n ≤ 6 → FnOK Tryz.prog true 77 [.c (.int .i64 n)] (.t2 (.g (matL n n mone)) (.c (.int .i64 0)))
 | 0,_=>ident0.weak
 | 1,_=>ident1.weak
 | 2,_=>ident2.weak
 | 3,_=>ident3.weak
 | 4,_=>ident4.weak
 | 5,_=>ident5.weak
 | 6,_=>ident6.weak
namespace Rf
end Rf
end Go.Proofs.YtkmbnldginonbaaGreat
/- A polynomial at a matrix, in the program and in the document. -/
namespace Go.Proofs.YtkmbnldginonbaaGreat
open Go.RowKit
namespace Rf
structure Hor (n T : Nat) (F : Nat → Rat) (A : Nat → Nat → Rat) (H : Nat → Nat → Nat → Rat) : Prop where
 zero:H 0=fun _ _=>0
 step:∀ t i j,t<T->H (t+1) i j=sumR (H t i) A n j+F (T-1-t)*mone i j
theorem mone_mul_len {x:Rat} {L:Nat} (h:qlen x≤L) (i j:Nat):qlen (x*mone i j)≤L:=by
 unfold mone
 split
 ·rw[Rat.mul_one];exact h
 ·rw[Rat.mul_zero]
  have:qlen 0≤qlen x:=by
   have h0:qlen 0=1:=by decide
   have h1:1≤qlen x:=by
    have h2:zlen (x.den:Int)≤qlen x:=Nat.le_max_right _ _
    have h3:zlen (x.den:Int)≠0:=fun e=>by
     have:=zlen_eq_zero.1 e
     have:=x.den_pos
     omega
    omega
   omega
  omega
theorem fit_mat {n m L:Nat} {G:Nat->Nat->Rat} (h:∀ i j,i<n->j<m->qlen (G i j)≤L) (k:Nat) (hk:k<n*m):(ofR (G (k / m) (k%m))).Fit L:=by
 have h0:0<m:=Nat.pos_of_ne_zero fun e=>by rw[e,Nat.mul_zero]at hk;omega
 exact ofR_fit (h _ _ (Nat.div_lt_of_lt_mul (by rw[Nat.mul_comm];exact hk)) (Nat.mod_lt _ h0))
theorem mat_lt {n m k:Nat} (hk:k<n*m):k / m<n/\k%m<m:=by
 have h0:0<m:=Nat.pos_of_ne_zero fun e=>by rw[e,Nat.mul_zero]at hk;omega
 exact⟨Nat.div_lt_of_lt_mul (by rw[Nat.mul_comm];exact hk),Nat.mod_lt _ h0⟩
theorem at_ok {n N T : Nat} {q p : Nat → RawR} {F : Nat → Rat} {A : Nat → Nat → Rat} {H : Nat → Nat → Nat → Rat} (hn : n ≤ 6) (hN : N ≤ 1024) (hqF : (fun i => (q i).val) = F) (hT : Q.tq F N = T) (hT64 : T ≤ 65) (hq : ∀ i, i < N → (q i).Fit KD) (hp : ∀ a, a < n * n → (p a).Fit KD) (hpv : ∀ i j, i < n → j < n → (p (i * n + j)).val = A i j) (hA : ∀ i j, i < n → j < n → qlen (A i j) ≤ KD) (hF : ∀ i, i < T → qlen (F i) ≤ KD)
  (hH:∀ t i j,t≤T->i<n->j<n->qlen (H t i j)≤KD) (hS:∀ t r i j,t<T->r<n->i≤n->j<n->qlen (sumR (H t r) A i j)≤KD) (hor:Hor n T F A H):FnOK Tryz.prog true 27 [.c (ql N q),.g (rmat n n p)] (.t2 (.g (matL n n (H T))) (.c (.int .i64 0))):=by
 have k0:FnOK Tryz.prog true 38 [.g (rmat n n p)] (.c (.int .i64 0)):=by
  have h:=check_ok (r:=n) (c:=n) (len:=n*n) (f:=qlF p)
  rwa [show firstErr (n:Int) n ((n*n:Nat):Int)=0 by
   unfold firstErr
   rw[if_pos ⟨⟨⟨by omega,by omega⟩,⟨by omega,by omega⟩,by rw[Int.natCast_mul]⟩,rfl⟩,if_neg (by omega)]]at h
 have q0:=qnorm_ok (n:=N) hqF (by omega) hq (by decide)
 rw[hT]at q0
 have n0:FnOK Tryz.prog true 58 [.c (.int .i64 n),.c (.int .i64 n)] (.t2 (.g (matL n n (H 0))) (.c (.int .i64 0))):=by
  rw[hor.zero]
  exact new_ok (by omega) (by omega)
 have i0:=identity_ok hn
 have m0':∀ t,t<T->FnOK Tryz.prog true 78 [.g (matL n n (H t)),.g (rmat n n p)] (.t2 (.g (matL n n fun r=>sumR (H t r) A n)) (.c (.int .i64 0))):=fun t ht =>
  mulR_ok (q:=fun k=>ofR (H t (k / n) (k%n))) (by omega) (by omega) (by omega) (fit_mat fun i j hi hj=>hH t i j (by omega) hi hj) (val_mat (n:=n)) hp hpv (fun i j hi hj=>hH t i j (by omega) hi hj) hA fun r i j hr hi hj=>hS t r i j ht hr hi hj
 have s0':∀ t,t<T->FnOK Tryz.prog true 79 [.g (matL n n mone),.g (nq (F ((T:Int)-1-(t:Int)).toNat))] (.t2 (.g (matL n n fun i j=>F (T-1-t)*mone i j)) (.c (.int .i64 0))):=fun t ht=>by
  rw[show((T:Int)-1-(t:Int)).toNat=T-1-t by omega]
  exact scaleR_ok (q:=fun k=>ofR (mone (k / n) (k%n))) (x:=ofR (F (T-1-t))) (z:=fun k=>F (T-1-t)*mone (k / n) (k%n)) (L:=KD) (by omega) (by omega) (fit_mat fun i j _ _=>by
   have:=mone_mul_len (x:=1) (L:=1) (by decide) i j
   rw[Rat.one_mul]at this
   exact Nat.le_trans this (by decide)) (ofR_fit (hF _ (by omega))) (by decide) fun a _=>by rw[ofR_val,ofR_val]
 have a0':∀ t,t<T->FnOK Tryz.prog true 80 [.g (matL n n fun r=>sumR (H t r) A n),.g (matL n n fun i j=>F (T-1-t)*mone i j)] (.t2 (.g (matL n n (H (t+1)))) (.c (.int .i64 0))):=fun t ht =>
  addR_ok (q:=fun k=>ofR (sumR (H t (k / n)) A n (k%n))) (p:=fun k=>ofR (F (T-1-t)*mone (k / n) (k%n))) (z:=fun k=>H (t+1) (k / n) (k%n)) (L:=KD) (by omega) (by omega) (fit_mat (G:=fun r=>sumR (H t r) A n) fun i j hi hj=>hS t i n j ht hi (Nat.le_refl _) hj) (fit_mat (G:=fun i j=>F (T-1-t)*mone i j) fun i j _ _=>mone_mul_len (hF _ (by omega)) i j) (by decide) fun a _=>by rw[ofR_val,ofR_val,hor.step t _ _ ht]
 clear hqF hT hq hp hpv hA hF hH hS hor
 obtain⟨P,hP⟩:∃ P:Nat->Nat->Nat->Rat,P=fun t r=>sumR (H t r) A n:=⟨_,rfl⟩
 obtain⟨Z,hZ⟩:∃ Z:Nat->Nat->Nat->Rat,Z=fun t i j=>F (T-1-t)*mone i j:=⟨_,rfl⟩
 have m0:∀ t,t<T->FnOK Tryz.prog true 78 [.g (matL n n (H t)),.g (rmat n n p)] (.t2 (.g (matL n n (P t))) (.c (.int .i64 0))):=by rw[hP];exact m0'
 have s0:∀ t,t<T->FnOK Tryz.prog true 79 [.g (matL n n mone),.g (nq (F ((T:Int)-1-(t:Int)).toNat))] (.t2 (.g (matL n n (Z t))) (.c (.int .i64 0))):=by rw[hZ];exact s0'
 have a0:∀ t,t<T->FnOK Tryz.prog true 80 [.g (matL n n (P t)),.g (matL n n (Z t))] (.t2 (.g (matL n n (H (t+1)))) (.c (.int .i64 0))):=by rw[hP,hZ];exact a0'
 clear hP hZ m0' s0' a0'
 generalize mone=U at *
 refine fn_ok (E:=E1) E1_ok Tryz.func27 rfl mixed (by kernel_rfl) (by kernel_rfl) ?_
 conv=>whnf
 refine⟨_,k0,?_⟩
 conv=>whnf
 refine .inr ⟨_,q0,?_⟩
 conv=>whnf
 refine⟨i64 (by omega) (by omega),?_⟩
 conv=>whnf
 refine bneg (show decide ((64:Int)<(T:Int)-1)=false from decide_eq_false (by omega)) ?_
 conv=>whnf
 refine⟨_,n0,?_⟩
 conv=>whnf
 refine⟨_,i0,?_⟩
 conv=>whnf
 refine⟨i64 (by omega) (by omega),?_⟩
 conv=>whnf
 refine loop_ints (fun t:Nat=>gst [(0,.c (nql T F)),(3,.c (.p 0 0 3 0 0)),(4,.c (.p 1 0 3 0 0)),(7,.c (.p 2 0 3 0 0)),(9,.c (.p 3 0 3 0 0)),(11,.c (.int .i64 ((T:Int)-1-(t:Int))))] [⟨24,3,1,boxF (rmat n n p)⟩,⟨24,3,1,boxF [.int .i64 0,.int .i64 0,.nil]⟩,⟨24,3,1,boxF (matL n n (H t))⟩,⟨24,3,1,boxF (matL n n U)⟩]) (fun t=>T-t) (fun t=>t≤T) 0 rfl (Weak.gen [some 0,some 1,some 2,some 3] rfl ⟨boxK rfl rfl,boxK rfl rfl,boxU rfl rfl rfl,boxU rfl rfl rfl,trivial⟩ ⟨.inl ⟨_,_,rfl,rfl,fun _ _ _ _=>rfl⟩,⟨_,rfl,rfl,rfl⟩,⟨_,rfl,rfl,rfl⟩,⟨_,rfl,rfl,rfl⟩,⟨_,rfl,rfl,rfl⟩,⟨_,rfl,by omega⟩,trivial⟩) (Nat.zero_le _) fun t ht=>?_
 have m0:=m0 t
 have s0:=s0 t
 have a0:=a0 t
 conv=>whnf
 refine bcase (fun(h:decide ((0:Int)≤(T:Int)-1-(t:Int))=true)=>?_) fun(h:decide ((0:Int)≤(T:Int)-1-(t:Int))=false)=>?_
 ·have h:=of_decide_eq_true h
  have m0:=m0 (by omega)
  have s0:=s0 (by omega)
  have a0:=a0 (by omega)
  conv=>whnf
  refine⟨_,m0,?_⟩
  conv=>whnf
  refine⟨by omega,by show(T:Int)-1-(t:Int)<(T:Int);omega,?_⟩
  conv=>whnf
  refine⟨_,s0,?_⟩
  conv=>whnf
  refine⟨_,a0,?_⟩
  conv=>whnf
  refine⟨i64 (by omega) (by omega),?_⟩
  conv=>whnf
  exact⟨t+1,by omega,Weak.gen [some 0,some 1,some 2,some 3] rfl ⟨boxK rfl rfl,boxK rfl rfl,boxU rfl rfl rfl,boxK rfl rfl,trivial⟩ ⟨.inl ⟨_,_,rfl,rfl,fun _ _ _ _=>rfl⟩,⟨_,rfl,rfl,rfl⟩,⟨_,rfl,rfl,rfl⟩,⟨_,rfl,rfl,rfl⟩,⟨_,rfl,rfl,rfl⟩,⟨_,rfl,by omega⟩,trivial⟩,by omega⟩
 ·have h:=of_decide_eq_false h
  have e:t=T:=by omega
  have g:Sub (.t2 (.g (matL n n (H t))) (.c (.int .i64 0))) (.t2 (.g (matL n n (H T))) (.c (.int .i64 0))):=by rw[e];exact Sub.refl _
  conv=>whnf
  exact⟨rfl,g⟩
end Rf
end Go.Proofs.YtkmbnldginonbaaGreat
/- The law's tests of matrices and lists of fractions. -/
namespace Go.Proofs.YtkmbnldginonbaaGreat
open Go.RowKit
namespace Rf
def okm (r c:Int) (len:Nat):Prop:=0≤r/\r≤1024/\0≤c/\c≤1024/\(len:Int)=r*c
instance (r c:Int) (len:Nat):Decidable (okm r c len):=by unfold okm;infer_instance
def shq (n:Nat) (q:Nat->RawR):Prop:=∀ i,i<n->(q i).num.ds.length≤1/\(q i).den.ds.length≤1
theorem short11_ok {n:Nat} {q:Nat->RawR} {r:Bool} (hn:n≤9223372036854775807) (hr:r=true↔shq n q):FnOK Tryz.prog true 15 [.c (ql n q)] (.c (.bool r)):=by
 have r1:∀ i,i<n->¬(q i).num.ds.length≤1->false=r:=fun i hi a=>(Bool.eq_false_iff.2 fun e=>a (hr.1 e i hi).1).symm
 have r2:∀ i,i<n->¬(q i).den.ds.length≤1->false=r:=fun i hi a=>(Bool.eq_false_iff.2 fun e=>a (hr.1 e i hi).2).symm
 have r3:shq n q->true=r:=fun a=>(hr.2 a).symm
 clear hr
 refine fn_ok (E:=E1) E1_ok Tryz.func15 rfl mixed (by kernel_rfl) (by kernel_rfl) ?_
 conv=>whnf
 refine loop_ints (fun i:Nat=>gst [(0,.c (ql n q)),(3,.c (.int .i64 i))] []) (fun i=>n-i) (fun i=>i≤n/\∀ j,j<i->(q j).num.ds.length≤1/\(q j).den.ds.length≤1) 0 rfl (Weak.gen [] rfl trivial ⟨.inl ⟨_,_,rfl,rfl,fun _ _ _ _=>rfl⟩,⟨_,rfl,rfl⟩,trivial⟩) ⟨Nat.zero_le _,fun j h=>absurd h (Nat.not_lt_zero j)⟩ fun i ⟨hi,hh⟩=>?_
 have r1:=r1 i
 have r2:=r2 i
 conv=>whnf
 refine bcase (fun(h:decide ((i:Int)<n)=true)=>?_) fun(h:decide ((i:Int)<n)=false)=>?_
 ·have h:=of_decide_eq_true h
  have r1:=r1 (by omega)
  have r2:=r2 (by omega)
  conv=>whnf
  refine⟨by omega,by omega,?_⟩
  conv=>whnf
  refine bcase (fun(a1:gw false (decide ((1:Int)<(q i).num.ds.length))=true)=>?_) fun(a1:gw false (decide ((1:Int)<(q i).num.ds.length))=false)=>?_
  ·have a1:=of_decide_eq_false (gwf a1)
   conv=>whnf
   refine⟨by omega,by omega,?_⟩
   conv=>whnf
   refine bcase (fun(a2:decide ((1:Int)<(q i).den.ds.length)=true)=>?_) fun(a2:decide ((1:Int)<(q i).den.ds.length)=false)=>?_
   ·have a2:=of_decide_eq_true a2
    have g:=r2 (by omega)
    conv=>whnf
    exact⟨rfl,sub_bool g⟩
   ·have a2:=of_decide_eq_false a2
    conv=>whnf
    refine⟨i64 (by omega) (by omega),?_⟩
    conv=>whnf
    refine⟨i+1,by omega,Weak.gen [] rfl trivial ⟨.inl ⟨_,_,rfl,rfl,fun _ _ _ _=>rfl⟩,⟨_,rfl,rfl⟩,trivial⟩,by omega,fun j hj=>?_⟩
    by_cases e:j=i
    ·rw[e];exact⟨by omega,by omega⟩
    ·exact hh j (by omega)
  ·have a1:=of_decide_eq_true (gwf' a1)
   have g:=r1 (by omega)
   conv=>whnf
   exact⟨rfl,sub_bool g⟩
 ·have h:=of_decide_eq_false h
  have g:=r3 fun j hj=>hh j (by omega)
  conv=>whnf
  exact⟨rfl,sub_bool g⟩
end Rf
end Go.Proofs.YtkmbnldginonbaaGreat
/- Polynomials at matrices: how long the fractions get; the law's calls and what they hand back. -/
namespace Go.Proofs.YtkmbnldginonbaaGreat
open Go.RowKit
theorem su_sm (f : Nat → Rat) : ∀ n, Q.su f n = rsm n f
 | 0=>rfl
 | n+1=>by
  show Q.su f n+f n=rsm n f+f n
  rw[su_sm f n]
def hrn (n T:Nat) (F:Nat->Rat) (A:Nat->Nat->Rat) (t:Nat):Nat->Nat->Rat:=horner n A t fun i=>F (T-t+i)
theorem hrn_hor (n T:Nat) (F:Nat->Rat) (A:Nat->Nat->Rat):Rf.Hor n T F A (hrn n T F A):=by
 refine⟨rfl,fun t i j ht=>?_⟩
 show horner n A (t+1) (fun i=>F (T-(t+1)+i)) i j=Q.su (fun k=>hrn n T F A t i k*A k j) n+F (T-1-t)*mone i j
 rw[su_sm]
 have e:(fun i=>F (T-(t+1)+(i+1)))=fun i=>F (T-t+i):=funext fun i=>by rw[show T-(t+1)+(i+1)=T-t+i by omega]
 show rsm n (fun k=>horner n A t (fun i=>F (T-(t+1)+(i+1))) i k*A k j)+F (T-(t+1)+0)*mone i j=_
 rw[e,show T-(t+1)+0=T-1-t by omega]
 rfl
namespace Rf
end Rf
end Go.Proofs.YtkmbnldginonbaaGreat
/- The law CharpolyEvaluates: its calls, one behind the other, and what they hand back. -/
namespace Go.Proofs.YtkmbnldginonbaaGreat
open Go.RowKit
theorem matL_eq {n m:Nat} {Z W:Nat->Nat->Rat} (h:∀ i j,i<n->j<m->Z i j=W i j) (D:Nat->Prop) (w:World) (v:Value) (hv:VRel D w [] (.g (matL n m Z)) v):VRel D w [] (.g (matL n m W)) v:=by
 obtain⟨vs,e,h1⟩:=hv
 refine⟨vs,e,?_⟩
 match vs.toList,h1 with
 | [a,b,c],⟨g1,g2,g3,_⟩ =>
  refine⟨g1,g2,subRowG rfl (fun k l hk hl=>?_) D w c g3,trivial⟩
  have hk:=Rf.mat_lt hk
  exact qlF_eq (c:=fun k=>ofR (Z (k / m) (k%m))) (e:=fun k=>ofR (W (k / m) (k%m))) (i:=k) (k:=k) (congrArg ofR (h _ _ hk.1 hk.2))
namespace Rf
end Rf
end Go.Proofs.YtkmbnldginonbaaGreat
/- matrix.store and matrix.New with a list that is written later. -/
set_option maxHeartbeats 16000000
namespace Go.Proofs.YtkmbnldginonbaaGreat
open Go.RowKit
theorem Weak.t2 {m:Nat} {bl bl':List Blk} {x y x' y':V} (h:Weak m ⟨asg [(0,x),(1,y)],bl⟩ ⟨asg [(0,x'),(1,y')],bl'⟩):Weak m ⟨asg [(0,.t2 x y)],bl⟩ ⟨asg [(0,.t2 x' y')],bl'⟩:=by
 rintro C a w hm ⟨ρ,hs,hN,hdf,hf⟩
 obtain⟨vx,vy,he,h1,h2⟩:∃ vx vy,a.tmps.getD 0 undef = .tuple #[vx,vy]/\VRel (Dof C.D0 ρ bl) w ρ x vx/\VRel (Dof C.D0 ρ bl) w ρ y vy:=hf 0
 have hr:Rel ⟨C.D0,C.w0,C.r,0,C.ρ0⟩ ⟨asg [(0,x),(1,y)],bl⟩ ⟨#[vx,vy],[]⟩ w:=by
  refine⟨ρ,hs,⟨Nat.zero_le _,hN.2⟩,rfl,fun t=>?_⟩
  match t with
  | 0=>exact h1
  | 1=>exact h2
  | t+2=>trivial
 obtain⟨ρ',hs',hN',_,hf'⟩:=h ⟨C.D0,C.w0,C.r,0,C.ρ0⟩ _ w hm hr
 refine⟨ρ',hs',⟨hN.1,hN'.2⟩,hdf,fun t=>?_⟩
 match t with
 | 0=>exact⟨vx,vy,he,hf' 0,hf' 1⟩
 | t+1=>trivial
theorem OpGoT.ofM {E : Env} {m : Nat} {o : Oper} {σ : St} {g : Operand} {args : Array Operand} {ts : Array TypeId} (hx : o.op = .call { callee := .value g, args, argTypes := ts }) {f : FuncId} (hg : calleeA σ g = some f)
  {k:Nat} {B B':Blk} {ar:List V} {X:V} {fresh:List Blk} (hM:FnM E.P E.r f B ar X B' fresh) (h2:σ.bl[k]? = some B) (h3:B.st=0∨2≤B.st) (hp:B.plain) (hp':B'.plain) (hpf:∀ F∈fresh,F.plain) (hfst:ar.all V.fst=true)
  (hvs:(args.toList.map fun x=>St.close σ.bl (σ.ev x))=ar.map (renV k σ.bl.length)):OpGoT E m o σ (St.put ⟨σ.tm,σ.bl.set k B'++fresh⟩ o.dst (renV k σ.bl.length X)):=by
 intro C a w next Q hC hm hd hr hn
 exact callM_core hx hg hr (by rw[hC];exact hM) h2 h3 hp hp' hpf hfst hvs hd hn
namespace Mx
open Rf
theorem sr1 {N:Nat} {c:Code} {σ:St} {R:Exit->St->Prop} (h:awp E1m c σ R) (hc:codeB N c=true:=by kernel_rfl):Swp E1m N c σ R:=swp_of E1m_ok mixed hc h
theorem ss1 {N:Nat} {x y:Code} {σ:St} {R:Exit->St->Prop} (h:awp E1m x σ (seqR (fun σ'=>∃ σ2,Weak E1m.m0 σ' σ2/\Swp E1m N y σ2 R) R)) (hc:codeB N x=true:=by kernel_rfl):Swp E1m N (.seq x y) σ R:=swp_seq E1m_ok mixed hc h
theorem cb_keep {cb:Gx} {t sz:Nat} {l0:List Cell} (h:cb=⟨t,sz,1,boxF l0⟩) (h0:l0.all Cell.clos=true) (bl:List Blk) (ks:List (Option Nat)) (hb:bl[0]? = some (gb cb)):srcG 0 bl ks cb (some 0):=by
 subst h
 exact Rf.boxK hb h0
theorem box3 {t q:Nat} {bl:List Blk} {ks:List (Option Nat)} {n m:Int} {k j:Nat} {B F:Blk} (hj:ks[j]? = some (some k)) (hF:bl[k]? = some F) (hu:F.st=0) (h:bl[q]? = some B) (ht:B.t=t/\B.sz=3/\B.n=1/\B.st=0) (h0:B.f 0 0 = .int .i64 n) (h1:B.f 0 1 = .int .i64 m) (h2:B.f 0 2 = .gs k F.u):srcG 0 bl ks ⟨t,3,1,boxF [.int .i64 n,.int .i64 m,.gs j 0]⟩ (some q) :=
 ⟨B,h,ht.1,ht.2.1,ht.2.2.1,ht.2.2.2,fun x y hx hy=>by
  obtain rfl:x=0:=by have hx:x<1:=hx;omega
  match y,hy with
  | 0,_=>exact⟨_,h0,rfl⟩
  | 1,_=>exact⟨_,h1,rfl⟩
  | 2,_ =>
   show match Nat.ble 0 j,ks[j-0]? with
    | true,some (some k)=>∃ B',bl[k]? = some B'/\B.f 0 2 = .gs k B'.u/\B'.st=0
    | true,some none=>B.f 0 2 = .nil
    | _,_=>False
   rw[Nat.sub_zero,hj]
   exact⟨F,hF,h2,hu⟩⟩
set_option maxRecDepth 100000 in
theorem store_m {n m:Nat} {G:Nat->Nat->Rat} {t sz:Nat} {l0:List Cell} (h0:l0.all Cell.clos=true) (hn:n≤64) (hm:m≤64):FnT Tryz.prog true 108 1 [gb ⟨t,sz,1,boxF l0⟩] [.c (.int .i64 m),.c (rowsC n m G)] (.g [.int .i64 n,.int .i64 m,.gs 1 0]) [gb ⟨t,sz,1,boxF l0⟩,gb (gqr (n*m) fun k=>ofR (G (k / m) (k%m)))]:=by
 have hnm:∀ i,i≤n->i*m≤4096:=fun i hi=>Nat.le_trans (Nat.mul_le_mul (show i≤64 by omega) hm) (by decide)
 obtain⟨cb,hcb⟩:∃ cb:Gx,cb=⟨t,sz,1,boxF l0⟩:=⟨_,rfl⟩
 have ck:=cb_keep hcb h0
 have cu:(gb cb).u=0:=rfl
 have cs:(gb cb).st≤1:=Nat.zero_le 1
 rw[← hcb]
 clear hcb h0
 refine fnt_okS (E:=E1m) E1m_ok Tryz.func108 rfl (by kernel_rfl) ?_
 refine ss1 ?_
 conv=>whnf
 refine⟨gst [(0,.c (.int .i64 m)),(1,.c (rowsC n m G)),(4,.c (.p 1 0 3 0 0))] [cb,⟨24,3,1,boxF [.int .i64 0,.int .i64 0,.nil]⟩],Weak.genT [some 0,some 1] rfl rfl ⟨_,rfl,cu,cs⟩ ⟨ck _ _ rfl,Rf.boxK rfl rfl,trivial⟩ ⟨⟨_,rfl,rfl⟩,.inl ⟨_,_,rfl,rfl,fun _ _ _ _=>rfl⟩,⟨_,rfl,rfl,rfl⟩,trivial⟩,?_⟩
 refine ss1 ?_
 conv=>whnf
 refine⟨gst [(1,.c (rowsC n m G)),(4,.c (.p 1 0 3 0 0)),(5,.c (.p 2 0 3 0 0))] [cb,⟨24,3,1,boxF [.int .i64 0,.int .i64 0,.nil]⟩,⟨24,3,1,boxF [.int .i64 n,.int .i64 m,.nil]⟩],Weak.genT [some 0,some 1,some 2] rfl rfl ⟨_,rfl,cu,cs⟩ ⟨ck _ _ rfl,Rf.boxK rfl rfl,Rf.boxU rfl rfl rfl,trivial⟩ ⟨.inl ⟨_,_,rfl,rfl,fun _ _ _ _=>rfl⟩,⟨_,rfl,rfl,rfl⟩,⟨_,rfl,rfl,rfl⟩,trivial⟩,?_⟩
 refine swp_mid (fun _:Unit=>gst [(4,.c (.p 1 0 3 0 0)),(5,.c (.p 2 0 3 0 0))] [cb,⟨24,3,1,boxF [.int .i64 0,.int .i64 0,.nil]⟩,⟨24,3,1,boxF [.int .i64 n,.int .i64 m,.gs 3 0]⟩,gqr (n*m) fun k=>ofR (G (k / m) (k%m))]) (fun _=>True) ?_ fun _ _=>?_
 rotate_left
 ·refine sr1 ?_
  conv=>whnf
  refine Weak.genT (tl:=[(0,.g [.int .i64 n,.int .i64 m,.gs 1 0])]) (xs:=[cb,gqr (n*m) fun k=>ofR (G (k / m) (k%m))]) [some 0,some 3] rfl rfl ⟨_,rfl,cu,cs⟩ ⟨ck _ _ rfl,⟨_,rfl,rfl,rfl,rfl,rfl,fun x y hx hy=>regE rfl (ql_clos (c:=fun k=>ofR (G (k / m) (k%m))) x y)⟩,trivial⟩ ?_
  exact⟨.inr ⟨_,rfl,⟨_,rfl,rfl⟩,⟨_,rfl,rfl⟩,⟨_,rfl,rfl,rfl⟩,trivial⟩,trivial⟩
 refine ss1 ?_
 conv=>whnf
 refine⟨(fun i:Nat=>gst [(4,.c (.p 1 0 3 0 0)),(5,.c (.p 2 0 3 0 0)),(12,.c (rowsC n m G)),(13,.c (.int .i64 n)),(14,.c (.int .i64 i))] [cb,⟨24,3,1,boxF [.int .i64 0,.int .i64 0,.nil]⟩,⟨24,3,1,boxF [.int .i64 n,.int .i64 m,.gs 3 0]⟩,gqr (i*m) fun k=>ofR (G (k / m) (k%m))]) 0,Weak.genT [some 0,some 1,some 2,none] rfl rfl ⟨_,rfl,cu,cs⟩ ⟨ck _ _ rfl,Rf.boxK rfl rfl,⟨_,rfl,rfl,rfl,rfl,rfl,fun x y hx hy=>by
    obtain rfl:=Nat.lt_one_iff.1 hx
    match y,hy with
    | 0,_=>exact⟨_,rfl,rfl⟩
    | 1,_=>exact⟨_,rfl,rfl⟩
    | 2,_=>exact rfl⟩,Nat.zero_mul m,trivial⟩ ⟨⟨_,rfl,rfl,rfl⟩,⟨_,rfl,rfl,rfl⟩,.inl ⟨_,_,rfl,rfl,fun _ _ _ _=>rfl⟩,⟨_,rfl,rfl⟩,⟨_,rfl,rfl⟩,trivial⟩,?_⟩
 refine swp_block (swp_loop (fun i:Nat=>gst [(4,.c (.p 1 0 3 0 0)),(5,.c (.p 2 0 3 0 0)),(12,.c (rowsC n m G)),(13,.c (.int .i64 n)),(14,.c (.int .i64 i))] [cb,⟨24,3,1,boxF [.int .i64 0,.int .i64 0,.nil]⟩,⟨24,3,1,boxF [.int .i64 n,.int .i64 m,.gs 3 0]⟩,gqr (i*m) fun k=>ofR (G (k / m) (k%m))]) (fun i=>n-i) (fun i=>i≤n) 0 (Weak.refl _) (Nat.zero_le n) fun i hi=>?_)
 have hi:i≤n:=hi
 have e1:=hnm i hi
 refine sr1 ?_
 conv=>whnf
 refine bcase (fun(h:decide ((i:Int)<n)=true)=>?_) fun(h:decide ((i:Int)<n)=false)=>?_
 ·have h:=of_decide_eq_true h
  have hin:i<n:=by omega
  conv=>whnf
  refine⟨by omega,by omega,?_⟩
  conv=>whnf
  refine⟨by show i*m+m≤16777216;omega,fun a b ha hb=>one_ql (c:=fun k=>ofR (G i k)) _ a b hb,?_⟩
  conv=>whnf
  refine⟨i64_range (by omega) (by omega),?_⟩
  conv=>whnf
  exact⟨i+1,by omega,Weak.genT [some 0,some 1,some 2,some 3] rfl rfl ⟨_,rfl,cu,cs⟩ ⟨ck _ _ rfl,Rf.boxK rfl rfl,box3 rfl rfl rfl rfl ⟨rfl,rfl,rfl,rfl⟩ rfl rfl rfl,⟨_,rfl,rfl,rfl,(Nat.succ_mul i m).symm,rfl,fun a b ha hb=>regE (row_in hin (by have ha:a<(i+1)*m:=ha;rwa [Nat.succ_mul]at ha)) (ql_clos (c:=fun k=>ofR (G (k / m) (k%m))) a b)⟩,trivial⟩ ⟨⟨_,rfl,rfl,rfl⟩,⟨_,rfl,rfl,rfl⟩,.inl ⟨_,_,rfl,rfl,fun _ _ _ _=>rfl⟩,⟨_,rfl,rfl⟩,⟨_,rfl,rfl⟩,trivial⟩,by omega⟩
 ·have h:=of_decide_eq_false h
  have e:i=n:=by omega
  subst e
  conv=>whnf
  exact⟨(),trivial,Weak.genT [some 0,some 1,some 2,some 3] rfl rfl ⟨_,rfl,cu,cs⟩ ⟨ck _ _ rfl,Rf.boxK rfl rfl,box3 rfl rfl rfl rfl ⟨rfl,rfl,rfl,rfl⟩ rfl rfl rfl,⟨_,rfl,rfl,rfl,rfl,rfl,fun x y hx hy=>regE rfl (ql_clos (c:=fun k=>ofR (G (k / m) (k%m))) x y)⟩,trivial⟩ ⟨⟨_,rfl,rfl,rfl⟩,⟨_,rfl,rfl,rfl⟩,trivial⟩⟩
theorem box_plain {t sz:Nat} {l:List Cell} (h:l.all Cell.clos=true):(gb ⟨t,sz,1,boxF l⟩).plain:=fun _ i j _ _=>Rf.box_clos (i:=i) (j:=j) h
theorem gqr_plain {n:Nat} {c:Nat->RawR}:(gb (gqr n c)).plain:=fun _ i j _ _=>ql_clos (c:=c) i j
set_option maxRecDepth 100000 in
theorem new_m {n m:Nat} {t sz:Nat} {l0:List Cell} (h0:l0.all Cell.clos=true) (hn:n≤64) (hm:m≤64):FnT Tryz.prog true 58 1 [gb ⟨t,sz,1,boxF l0⟩] [.c (.int .i64 n),.c (.int .i64 m)] (.t2 (.g [.int .i64 n,.int .i64 m,.gs 1 0]) (.c (.int .i64 0))) [gb ⟨t,sz,1,boxF l0⟩,gb (gqr (n*m) fun _=>ofR 0)]:=by
 have kb:FnOK Tryz.prog true 109 [.c (.int .i64 n),.c (.int .i64 m)] (.c (rowsC n m fun _ _=>0)):=blank_ok (by omega) (by omega)
 have ks:=store_m (n:=n) (m:=m) (G:=fun _ _=>0) (t:=24) (sz:=3) (l0:=[.int .i64 0,.int .i64 0,.nil]) rfl hn hm
 have f1:=Rf.fits_yes (n:=n) (by omega)
 have f2:=Rf.fits_yes (n:=m) (by omega)
 obtain⟨cb,hcb⟩:∃ cb:Gx,cb=⟨t,sz,1,boxF l0⟩:=⟨_,rfl⟩
 have ck:=cb_keep hcb h0
 have cu:(gb cb).u=0:=rfl
 have cs:(gb cb).st≤1:=Nat.zero_le 1
 rw[← hcb]
 clear hcb h0
 refine fnt_okS (E:=E1m) E1m_ok Tryz.func58 rfl (by kernel_rfl) ?_
 refine ss1 ?_
 conv=>whnf
 refine⟨gst [(0,.c (.int .i64 n)),(1,.c (.int .i64 m)),(4,.c (.p 1 0 3 0 0)),(5,.c (.int .i64 0))] [cb,⟨24,3,1,boxF [.int .i64 0,.int .i64 0,.nil]⟩],Weak.genT [some 0,some 1] rfl rfl ⟨_,rfl,cu,cs⟩ ⟨ck _ _ rfl,Rf.boxK rfl rfl,trivial⟩ ⟨⟨_,rfl,rfl⟩,⟨_,rfl,rfl⟩,⟨_,rfl,rfl,rfl⟩,⟨_,rfl,rfl⟩,trivial⟩,?_⟩
 refine ss1 ?_
 conv=>whnf
 refine⟨_,f1,?_⟩
 conv=>whnf
 refine⟨_,f2,?_⟩
 conv=>whnf
 refine⟨gst [(0,.c (.int .i64 n)),(1,.c (.int .i64 m)),(4,.c (.p 1 0 3 0 0))] [cb,⟨24,3,1,boxF [.int .i64 0,.int .i64 0,.nil]⟩],Weak.genT [some 0,some 1] rfl rfl ⟨_,rfl,cu,cs⟩ ⟨ck _ _ rfl,Rf.boxK rfl rfl,trivial⟩ ⟨⟨_,rfl,rfl⟩,⟨_,rfl,rfl⟩,⟨_,rfl,rfl,rfl⟩,trivial⟩,?_⟩
 refine swp_mid (fun _:Unit=>gst [(4,.c (.p 1 0 3 0 0)),(5,.c (.int .i64 0))] [cb,⟨24,3,1,boxF [.int .i64 n,.int .i64 m,.gs 2 0]⟩,gqr (n*m) fun _=>ofR 0]) (fun _=>True) ?_ fun _ _=>?_
 rotate_left
 ·refine sr1 ?_
  conv=>whnf
  refine Weak.t2 ?_
  refine Weak.genT (tl:=[(0,.g [.int .i64 n,.int .i64 m,.gs 1 0]),(1,.c (.int .i64 0))]) (xs:=[cb,gqr (n*m) fun _=>ofR 0]) [some 0,some 2] rfl rfl ⟨_,rfl,cu,cs⟩ ⟨ck _ _ rfl,⟨_,rfl,rfl,rfl,rfl,rfl,fun x y hx hy=>regE rfl (ql_clos (c:=fun _=>ofR 0) x y)⟩,trivial⟩ ?_
  exact⟨.inr ⟨_,rfl,⟨_,rfl,rfl⟩,⟨_,rfl,rfl⟩,⟨_,rfl,rfl,rfl⟩,trivial⟩,⟨_,rfl,rfl⟩,trivial⟩
 refine swp_goT E1m_ok (pre:=[_,_,_,_]) (post:=[_,_]) rfl rfl (by kernel_rfl) ?_
 conv=>whnf
 refine⟨_,kb,?_⟩
 conv=>whnf
 refine⟨1,_,Nat.le_refl _,OpGoT.ofM (f:=108) (k:=1) (ar:=[.c (.int .i64 m),.c (rowsC n m fun _ _=>0)]) rfl rfl (FnT.m ks) rfl (.inl rfl) (box_plain rfl) (box_plain rfl) (fun F hF=>by
  obtain rfl:=List.mem_singleton.1 hF
  exact gqr_plain) rfl rfl,?_⟩
 conv=>whnf
 exact⟨(),trivial,Weak.genT [some 0,some 1,some 2] rfl rfl ⟨_,rfl,cu,cs⟩ ⟨ck _ _ rfl,box3 rfl rfl rfl rfl ⟨rfl,rfl,rfl,rfl⟩ rfl rfl rfl,⟨_,rfl,rfl,rfl,rfl,rfl,fun x y hx hy=>regE rfl (ql_clos (c:=fun _=>ofR 0) x y)⟩,trivial⟩ ⟨⟨_,rfl,rfl,rfl⟩,⟨_,rfl,rfl⟩,trivial⟩⟩
end Mx
end Go.Proofs.YtkmbnldginonbaaGreat
/- charpoly.Companion. -/
namespace Go.Proofs.YtkmbnldginonbaaGreat
open Go.RowKit
namespace Mx
open Rf
abbrev BZ:Gx:=⟨24,3,1,boxF [.int .i64 0,.int .i64 0,.nil]⟩
abbrev BL (n k:Nat):Gx:=⟨24,3,1,boxF [.int .i64 n,.int .i64 n,.gs k 0]⟩
def cs1 (n : Nat) : Nat → Nat → Rat
 | 0,_=>0
 | i+1,k=>if k=i*n+i+1 then 1 else cs1 n i k
def cs2 (n : Nat) (w : Nat → Rat) : Nat → Nat → Rat
 | 0,k=>cs1 n (n-1) k
 | i+1,k=>if k=(n-1)*n+i then w i else cs2 n w i k
def cpn (n:Nat) (w:Nat->Rat) (i j:Nat):Rat:=if i+1=n then w j else if j=i+1 then 1 else 0
theorem idx_eq {n i j x y:Nat} (hj:j<n) (hy:y<n):i*n+j=x*n+y↔i=x/\j=y:=by
 constructor
 ·intro h
  have h1:(i*n+j) / n=i:=(mat_idx (n:=i+1) (Nat.lt_succ_self i) hj).2.1
  have h2:(x*n+y) / n=x:=(mat_idx (n:=x+1) (Nat.lt_succ_self x) hy).2.1
  have e:i=x:=by rw[← h1,← h2,h]
  subst e
  exact⟨rfl,by omega⟩
 ·rintro ⟨rfl,rfl⟩
  rfl
theorem cs1_get {n : Nat} : ∀ {t i j : Nat}, t < n → j < n → cs1 n t (i * n + j) = if i < t ∧ j = i + 1 then 1 else 0
 | 0,i,j,_,hj=>by rw[if_neg (by omega)];rfl
 | t+1,i,j,ht,hj=>by
  show(if i*n+j=t*n+t+1 then 1 else cs1 n t (i*n+j))=_
  rw[cs1_get (by omega) hj]
  by_cases h:i*n+j=t*n+t+1
  ·rw[if_pos h,if_pos]
   obtain⟨rfl,rfl⟩:=(idx_eq (i:=i) (j:=j) (x:=t) (y:=t+1) hj (by omega)).1 h
   omega
  ·rw[if_neg h]
   by_cases g:i<t/\j=i+1
   ·rw[if_pos g,if_pos (by omega)]
   ·rw[if_neg g,if_neg]
    rintro ⟨g1,g2⟩
    have e:i=t:=by omega
    subst e
    exact h (by omega)
theorem cs2_get {n : Nat} {w : Nat → Rat} : ∀ {t i j : Nat}, t ≤ n → i < n → j < n → cs2 n w t (i * n + j) = if i + 1 = n ∧ j < t then w j else cs1 n (n - 1) (i * n + j)
 | 0,i,j,_,_,_=>by rw[if_neg (by omega)];rfl
 | t+1,i,j,ht,hi,hj=>by
  show(if i*n+j=(n-1)*n+t then w t else cs2 n w t (i*n+j))=_
  rw[cs2_get (by omega) hi hj]
  by_cases h:i*n+j=(n-1)*n+t
  ·obtain⟨h1,rfl⟩:=(idx_eq (i:=i) (j:=j) (x:=n-1) (y:=t) hj (by omega)).1 h
   rw[if_pos h,if_pos (by omega)]
  ·rw[if_neg h]
   by_cases g:i+1=n/\j<t
   ·rw[if_pos g,if_pos (by omega)]
   ·rw[if_neg g,if_neg]
    rintro ⟨g1,g2⟩
    have e:i=n-1:=by omega
    have e2:j=t:=by omega
    exact h (by rw[e,e2])
theorem cs2_cpn {n k:Nat} {w:Nat->Rat} (hk:k<n*n):cs2 n w n k=cpn n w (k / n) (k%n):=by
 have h0:0<n:=Nat.pos_of_ne_zero fun e=>by rw[e]at hk;omega
 have h1:=(mat_lt hk).1
 have h2:=(mat_lt hk).2
 have e:k=k / n*n+k%n:=by rw[Nat.mul_comm];exact(Nat.div_add_mod k n).symm
 conv=>lhs;rw[e]
 rw[cs2_get (Nat.le_refl n) h1 h2,cs1_get (by omega) h2]
 unfold cpn
 by_cases g:k / n+1=n
 ·rw[if_pos ⟨g,h2⟩,if_pos g]
 ·rw[if_neg (fun h=>g h.1),if_neg g]
  by_cases g2:k%n=k / n+1
  ·rw[if_pos ⟨by omega,g2⟩,if_pos g2]
  ·rw[if_neg (fun h=>g2 h.2),if_neg g2]
theorem one_upd {V V':Nat->Rat} {p x y:Nat} {v:Rat} (h:V' x=if x=p then v else V x) (hy:y<4):updF (qlF fun k=>ofR (V k)) p 0 (nq v) x y=qlF (fun k=>ofR (V' k)) x y :=
 updG (sz:=4) (g:=fun k=>nq (V k)) (g':=fun k=>nq (V' k)) (l:=nq v) rfl hy (by
  show(if x=p then nq v else nq (V x))=nq (V' x)
  rw[h]
  by_cases e:x=p
  ·rw[if_pos e,if_pos e]
  ·rw[if_neg e,if_neg e])
set_option maxHeartbeats 16000000 in
set_option maxRecDepth 100000 in
theorem companion_ok {N n:Nat} {q:Nat->RawR} {F w:Nat->Rat} {L:Nat} (hN:N≤1024) (hqF:(fun i=>(q i).val)=F) (hT:Q.tq F N=n+1) (h1:1≤n) (hn:n≤64) (hq:∀ i,i<N->(q i).Fit KD) (hL1:1≤L) (hL:2*L+16≤LIM) (hF:∀ i,i≤n->qlen (F i)≤L) (h0:F n≠0) (hw:∀ i,i<n->w i = -(F i / F n)):FnOK Tryz.prog true 16 [.c (ql N q)] (.t2 (.g (matL n n (cpn n w))) (.c (.int .i64 0))):=by
 have q0:=qnorm_ok (n:=N) hqF (by omega) hq (by decide)
 rw[hT]at q0
 have k1:=q1_ok
 have kq:∀ i,i<n->FnOK Tryz.prog true 59 [.g (nq (F i)),.g (nq (F n))] (.t2 (.g (nq (F i / F n))) (.c (.int .i64 0))):=fun i hi=>qquo_n (hF i (by omega)) (hF n (Nat.le_refl n)) (by omega) h0 rfl
 have kn:∀ i,i<n->FnOK Tryz.prog true 60 [.g (nq (F i / F n))] (.g (nq (w i))):=fun i hi=>by
  have h:=qneg_ok (q:=ofR (F i / F n)) (L:=L+L) (ofR_fit (q_div (hF i (by omega)) (hF n (Nat.le_refl n)) (by omega))) (by omega)
  rwa [ofR_val,← hw i hi]at h
 have hx:∀ i j,i<n->j<n->inR .i64 ((i:Int)*(n:Int))/\inR .i64 ((i:Int)*(n:Int)+(j:Int))/\(0:Int)≤(i:Int)*(n:Int)+(j:Int)/\(i:Int)*(n:Int)+(j:Int)<((n*n:Nat):Int):=fun i j hi hj=>by
  have e1:(i:Int)*(n:Int)=((i*n:Nat):Int):=(Int.natCast_mul i n).symm
  have e2:=(mat_idx (n:=n) hi hj).1
  have e3:i*n≤64*64:=Nat.mul_le_mul (by omega) hn
  rw[e1]
  exact⟨i64_range (by omega) (by omega),i64_range (by omega) (by omega),by omega,by omega⟩
 clear hqF hT hq hF h0 hw
 refine fn_okS (E:=E1) E1_ok Tryz.func16 rfl (by kernel_rfl) ?_

 refine sq1 ?_
 conv=>whnf
 refine⟨gst [(0,.c (ql N q)),(2,.c (.p 0 0 3 0 0)),(3,.c (.int .i64 0))] [BZ],Weak.gen [some 0] rfl ⟨Rf.boxK rfl rfl,trivial⟩ ⟨.inl ⟨_,_,rfl,rfl,fun _ _ _ _=>rfl⟩,⟨_,rfl,rfl,rfl⟩,⟨_,rfl,rfl⟩,trivial⟩,?_⟩
 refine sq1 ?_
 conv=>whnf
 refine .inr ⟨_,q0,?_⟩
 conv=>whnf
 refine⟨gst [(0,.c (nql (n+1) F)),(2,.c (.p 0 0 3 0 0)),(3,.c (.int .i64 0))] [BZ],Weak.gen [some 0] rfl ⟨Rf.boxK rfl rfl,trivial⟩ ⟨.inl ⟨_,_,rfl,rfl,fun _ _ _ _=>rfl⟩,⟨_,rfl,rfl,rfl⟩,⟨_,rfl,rfl⟩,trivial⟩,?_⟩
 refine sq1 ?_
 conv=>whnf
 refine⟨i64_range (by omega) (by omega),?_⟩
 conv=>whnf
 refine⟨gst [(0,.c (nql (n+1) F)),(2,.c (.p 0 0 3 0 0)),(3,.c (.int .i64 0)),(4,.c (.int .i64 n))] [BZ],Weak.gen [some 0] rfl ⟨Rf.boxK rfl rfl,trivial⟩ ⟨.inl ⟨_,_,rfl,rfl,fun _ _ _ _=>rfl⟩,⟨_,rfl,rfl,rfl⟩,⟨_,rfl,rfl⟩,⟨_,rfl,by omega⟩,trivial⟩,?_⟩
 refine sq1 ?_
 conv=>whnf
 refine bpos (show gw false (decide ((n:Int)<1))=true by rw[decide_eq_false (by omega)];rfl) ?_
 conv=>whnf
 refine bneg (show decide ((64:Int)<(n:Int))=false from decide_eq_false (by omega)) ?_
 conv=>whnf
 refine⟨gst [(0,.c (nql (n+1) F)),(2,.c (.p 0 0 3 0 0)),(3,.c (.int .i64 0)),(4,.c (.int .i64 n))] [BZ],Weak.gen [some 0] rfl ⟨Rf.boxK rfl rfl,trivial⟩ ⟨.inl ⟨_,_,rfl,rfl,fun _ _ _ _=>rfl⟩,⟨_,rfl,rfl,rfl⟩,⟨_,rfl,rfl⟩,⟨_,rfl,rfl⟩,trivial⟩,?_⟩
 refine swp_mid (fun _:Unit=>gst [(0,.c (nql (n+1) F)),(2,.c (.p 0 0 3 0 0)),(3,.c (.int .i64 0)),(4,.c (.int .i64 n)),(5,.c (.p 2 0 3 0 0)),(6,.c (.int .i64 0))] [BZ,gqr (n*n) fun _=>ofR 0,BL n 1]) (fun _=>True) ?_ fun _ _=>?_
 ·refine swp_goT E1_ok (pre:=[_,_]) (post:=[_,_,_,_,_,_]) rfl rfl (by kernel_rfl) ?_
  conv=>whnf
  refine⟨1,_,by decide,OpGoT.call0 (f:=58) (cs:=[]) rfl rfl live_all (new_m rfl hn hn) (lt_put (lt_put (lt_asg (tl:=[(0,.c (nql (n+1) F)),(2,.c (.p 0 0 3 0 0)),(3,.c (.int .i64 0)),(4,.c (.int .i64 n))]) ⟨rfl,rfl,rfl,rfl,trivial⟩) rfl) rfl),?_⟩
  conv=>whnf
  exact⟨(),trivial,Weak.gen [some 0,some 1,some 2] rfl ⟨Rf.boxK rfl rfl,⟨_,rfl,rfl,rfl,rfl,rfl,fun x y hx hy=>regE rfl (ql_clos (c:=fun _=>ofR 0) x y)⟩,box3 rfl rfl rfl rfl ⟨rfl,rfl,rfl,rfl⟩ rfl rfl rfl,trivial⟩ ⟨.inl ⟨_,_,rfl,rfl,fun _ _ _ _=>rfl⟩,⟨_,rfl,rfl,rfl⟩,⟨_,rfl,rfl⟩,⟨_,rfl,rfl⟩,⟨_,rfl,rfl,rfl⟩,⟨_,rfl,rfl⟩,trivial⟩⟩
 refine swp_mid (fun _:Unit=>gst [(0,.c (nql (n+1) F)),(2,.c (.p 0 0 3 0 0)),(3,.c (.int .i64 0)),(4,.c (.int .i64 n)),(5,.c (.p 2 0 3 0 0)),(6,.c (.int .i64 0))] [BZ,gqr (n*n) fun k=>ofR (cs2 n w 0 k),BL n 1]) (fun _=>True) ?_ fun _ _=>?_
 ·refine sq1 ?_
  conv=>whnf
  refine⟨i64_range (by omega) (by omega),?_⟩
  conv=>whnf
  refine⟨(fun i:Nat=>gst [(0,.c (nql (n+1) F)),(2,.c (.p 0 0 3 0 0)),(3,.c (.int .i64 0)),(4,.c (.int .i64 n)),(5,.c (.p 2 0 3 0 0)),(6,.c (.int .i64 0)),(30,.c (.int .i64 ((n:Int)-1))),(31,.c (.int .i64 i))] [BZ,gqr (n*n) fun k=>ofR (cs1 n i k),BL n 1]) 0,Weak.gen [some 0,some 1,some 2] rfl ⟨Rf.boxK rfl rfl,⟨_,rfl,rfl,rfl,rfl,rfl,fun x y hx hy=>regE rfl (ql_clos (c:=fun k=>ofR (cs1 n 0 k)) x y)⟩,box3 rfl rfl rfl rfl ⟨rfl,rfl,rfl,rfl⟩ rfl rfl rfl,trivial⟩ ⟨.inl ⟨_,_,rfl,rfl,fun _ _ _ _=>rfl⟩,⟨_,rfl,rfl,rfl⟩,⟨_,rfl,rfl⟩,⟨_,rfl,rfl⟩,⟨_,rfl,rfl,rfl⟩,⟨_,rfl,rfl⟩,⟨_,rfl,rfl⟩,⟨_,rfl,rfl⟩,trivial⟩,?_⟩
  refine swp_block (swp_loop (fun i:Nat=>gst [(0,.c (nql (n+1) F)),(2,.c (.p 0 0 3 0 0)),(3,.c (.int .i64 0)),(4,.c (.int .i64 n)),(5,.c (.p 2 0 3 0 0)),(6,.c (.int .i64 0)),(30,.c (.int .i64 ((n:Int)-1))),(31,.c (.int .i64 i))] [BZ,gqr (n*n) fun k=>ofR (cs1 n i k),BL n 1]) (fun i=>n-i) (fun i=>i+1≤n) 0 (Weak.refl _) h1 fun i hi=>?_)
  have hi:i+1≤n:=hi
  refine so1 ?_
  conv=>whnf
  refine bcase (fun(h:decide ((i:Int)<(n:Int)-1)=true)=>?_) fun(h:decide ((i:Int)<(n:Int)-1)=false)=>?_
  ·have h:=of_decide_eq_true h
   obtain⟨r1,r2,_,_⟩:=hx i i (by omega) (by omega)
   obtain⟨_,r3,r4,r5⟩:=hx i (i+1) (by omega) (by omega)
   have e:((i*n+i+1:Nat):Int)=(i:Int)*(n:Int)+(i:Int)+1:=by rw[Int.natCast_add,Int.natCast_add,Int.natCast_mul];rfl
   have r3:inR .i64 ((i:Int)*(n:Int)+(i:Int)+1):=by rw[Int.add_assoc];exact r3
   have r4:0≤(i:Int)*(n:Int)+(i:Int)+1:=by rw[Int.add_assoc];exact r4
   have r5:(i:Int)*(n:Int)+(i:Int)+1<((n*n:Nat):Int):=by rw[Int.add_assoc];exact r5
   have ep:((i:Int)*(n:Int)+(i:Int)+1).toNat=i*n+i+1:=by rw[← e];rfl
   have eu:∀ x,cs1 n (i+1) x=if x=((i:Int)*(n:Int)+(i:Int)+1).toNat then 1 else cs1 n i x:=fun x=>by rw[ep];rfl
   conv=>whnf
   repeat (refine⟨by first | exact r1 | exact r2 | exact r3,?_⟩;conv=>whnf)
   refine⟨_,k1,?_⟩
   conv=>whnf
   refine⟨r4,r5,?_⟩
   conv=>whnf
   refine⟨i64_range (by omega) (by omega),?_⟩
   conv=>whnf
   exact⟨i+1,by omega,Weak.gen [some 0,some 1,some 2] rfl ⟨Rf.boxK rfl rfl,⟨_,rfl,rfl,rfl,rfl,rfl,fun x y hx hy=>regE (one_upd (eu x) hy) (ql_clos (c:=fun k=>ofR (cs1 n (i+1) k)) x y)⟩,box3 rfl rfl rfl rfl ⟨rfl,rfl,rfl,rfl⟩ rfl rfl rfl,trivial⟩ ⟨.inl ⟨_,_,rfl,rfl,fun _ _ _ _=>rfl⟩,⟨_,rfl,rfl,rfl⟩,⟨_,rfl,rfl⟩,⟨_,rfl,rfl⟩,⟨_,rfl,rfl,rfl⟩,⟨_,rfl,rfl⟩,⟨_,rfl,rfl⟩,⟨_,rfl,rfl⟩,trivial⟩,by omega⟩
  ·have h:=of_decide_eq_false h
   have e:i=n-1:=by omega
   subst e
   conv=>whnf
   exact⟨(),trivial,Weak.gen [some 0,some 1,some 2] rfl ⟨Rf.boxK rfl rfl,⟨_,rfl,rfl,rfl,rfl,rfl,fun x y hx hy=>regE rfl (ql_clos (c:=fun k=>ofR (cs2 n w 0 k)) x y)⟩,box3 rfl rfl rfl rfl ⟨rfl,rfl,rfl,rfl⟩ rfl rfl rfl,trivial⟩ ⟨.inl ⟨_,_,rfl,rfl,fun _ _ _ _=>rfl⟩,⟨_,rfl,rfl,rfl⟩,⟨_,rfl,rfl⟩,⟨_,rfl,rfl⟩,⟨_,rfl,rfl,rfl⟩,⟨_,rfl,rfl⟩,trivial⟩⟩

 refine swp_mid (fun _:Unit=>gst [(0,.c (nql (n+1) F)),(2,.c (.p 0 0 3 0 0)),(3,.c (.int .i64 0)),(4,.c (.int .i64 n)),(5,.c (.p 2 0 3 0 0)),(6,.c (.int .i64 0))] [BZ,gqr (n*n) fun k=>ofR (cpn n w (k / n) (k%n)),BL n 1]) (fun _=>True) ?_ fun _ _=>?_
 ·refine sq1 ?_
  conv=>whnf
  refine⟨(fun i:Nat=>gst [(0,.c (nql (n+1) F)),(2,.c (.p 0 0 3 0 0)),(3,.c (.int .i64 0)),(4,.c (.int .i64 n)),(5,.c (.p 2 0 3 0 0)),(6,.c (.int .i64 0)),(45,.c (.int .i64 n)),(46,.c (.int .i64 i))] [BZ,gqr (n*n) fun k=>ofR (cs2 n w i k),BL n 1]) 0,Weak.gen [some 0,some 1,some 2] rfl ⟨Rf.boxK rfl rfl,⟨_,rfl,rfl,rfl,rfl,rfl,fun x y hx hy=>regE rfl (ql_clos (c:=fun k=>ofR (cs2 n w 0 k)) x y)⟩,box3 rfl rfl rfl rfl ⟨rfl,rfl,rfl,rfl⟩ rfl rfl rfl,trivial⟩ ⟨.inl ⟨_,_,rfl,rfl,fun _ _ _ _=>rfl⟩,⟨_,rfl,rfl,rfl⟩,⟨_,rfl,rfl⟩,⟨_,rfl,rfl⟩,⟨_,rfl,rfl,rfl⟩,⟨_,rfl,rfl⟩,⟨_,rfl,rfl⟩,⟨_,rfl,rfl⟩,trivial⟩,?_⟩
  refine swp_block (swp_loop (fun i:Nat=>gst [(0,.c (nql (n+1) F)),(2,.c (.p 0 0 3 0 0)),(3,.c (.int .i64 0)),(4,.c (.int .i64 n)),(5,.c (.p 2 0 3 0 0)),(6,.c (.int .i64 0)),(45,.c (.int .i64 n)),(46,.c (.int .i64 i))] [BZ,gqr (n*n) fun k=>ofR (cs2 n w i k),BL n 1]) (fun i=>n-i) (fun i=>i≤n) 0 (Weak.refl _) (Nat.zero_le n) fun i hi=>?_)
  have hi:i≤n:=hi
  refine swp_seq0 E1_ok mixed (by kernel_rfl) ?_
  conv=>whnf
  refine sq1 ?_
  conv=>whnf
  refine bcase (fun(h:decide ((i:Int)<(n:Int))=true)=>?_) fun(h:decide ((i:Int)<(n:Int))=false)=>?_
  ·have h:=of_decide_eq_true h
   have kq:=kq i (by omega)
   have i0:(0:Int)≤(i:Int):=by omega
   have n0:(0:Int)≤(n:Int):=by omega
   have i1:(i:Int)<((n+1:Nat):Int):=by omega
   have n1:(n:Int)<((n+1:Nat):Int):=by omega
   have r0:inR .i64 ((n:Int)-1):=i64_range (by omega) (by omega)
   have kn:=kn i (by omega)
   obtain⟨r1,_,_,_⟩:=hx (n-1) i (by omega) (by omega)
   obtain⟨_,r2,r3,r4⟩:=hx (n-1) i (by omega) (by omega)
   have en:((n-1:Nat):Int)=(n:Int)-1:=by omega
   rw[en]at r1 r2 r3 r4
   have e:(((n-1)*n+i:Nat):Int)=((n:Int)-1)*(n:Int)+(i:Int):=by rw[Int.natCast_add,Int.natCast_mul,en]
   have ep:(((n:Int)-1)*(n:Int)+(i:Int)).toNat=(n-1)*n+i:=by rw[← e];rfl
   have eu:∀ x,cs2 n w (i+1) x=if x=(((n:Int)-1)*(n:Int)+(i:Int)).toNat then w i else cs2 n w i x:=fun x=>by rw[ep];rfl
   conv=>whnf
   refine⟨gst [(0,.c (nql (n+1) F)),(2,.c (.p 0 0 3 0 0)),(3,.c (.int .i64 0)),(4,.c (.int .i64 n)),(5,.c (.p 2 0 3 0 0)),(6,.c (.int .i64 0)),(45,.c (.int .i64 n)),(46,.c (.int .i64 i))] [BZ,gqr (n*n) fun k=>ofR (cs2 n w i k),BL n 1],Weak.gen [some 0,some 1,some 2] rfl ⟨Rf.boxK rfl rfl,⟨_,rfl,rfl,rfl,rfl,rfl,fun x y hx hy=>regE rfl (ql_clos (c:=fun k=>ofR (cs2 n w i k)) x y)⟩,box3 rfl rfl rfl rfl ⟨rfl,rfl,rfl,rfl⟩ rfl rfl rfl,trivial⟩ ⟨.inl ⟨_,_,rfl,rfl,fun _ _ _ _=>rfl⟩,⟨_,rfl,rfl,rfl⟩,⟨_,rfl,rfl⟩,⟨_,rfl,rfl⟩,⟨_,rfl,rfl,rfl⟩,⟨_,rfl,rfl⟩,⟨_,rfl,rfl⟩,⟨_,rfl,rfl⟩,trivial⟩,?_⟩
   refine swp_mid (fun _:Unit=>gst [(0,.c (nql (n+1) F)),(2,.c (.p 0 0 3 0 0)),(3,.c (.int .i64 0)),(4,.c (.int .i64 n)),(5,.c (.p 2 0 3 0 0)),(6,.c (.int .i64 0)),(45,.c (.int .i64 n)),(46,.c (.int .i64 i))] [BZ,gqr (n*n) fun k=>ofR (cs2 n w (i+1) k),BL n 1]) (fun _=>True) ?_ fun _ _=>?_
   rotate_left
   ·refine so1 ?_
    conv=>whnf
    refine⟨i64_range (by omega) (by omega),?_⟩
    conv=>whnf
    exact⟨i+1,by omega,Weak.gen [some 0,some 1,some 2] rfl ⟨Rf.boxK rfl rfl,⟨_,rfl,rfl,rfl,rfl,rfl,fun x y hx hy=>regE rfl (ql_clos (c:=fun k=>ofR (cs2 n w (i+1) k)) x y)⟩,box3 rfl rfl rfl rfl ⟨rfl,rfl,rfl,rfl⟩ rfl rfl rfl,trivial⟩ ⟨.inl ⟨_,_,rfl,rfl,fun _ _ _ _=>rfl⟩,⟨_,rfl,rfl,rfl⟩,⟨_,rfl,rfl⟩,⟨_,rfl,rfl⟩,⟨_,rfl,rfl,rfl⟩,⟨_,rfl,rfl⟩,⟨_,rfl,rfl⟩,⟨_,rfl,rfl⟩,trivial⟩,by omega⟩
   refine swp_block ?_
   refine sq1 ?_
   conv=>whnf
   refine⟨gst [(0,.c (nql (n+1) F)),(2,.c (.p 0 0 3 0 0)),(3,.c (.int .i64 0)),(4,.c (.int .i64 n)),(5,.c (.p 2 0 3 0 0)),(6,.c (.int .i64 0)),(45,.c (.int .i64 n)),(46,.c (.int .i64 i)),(8,.c (.int .i64 i))] [BZ,gqr (n*n) fun k=>ofR (cs2 n w i k),BL n 1],Weak.gen [some 0,some 1,some 2] rfl ⟨Rf.boxK rfl rfl,⟨_,rfl,rfl,rfl,rfl,rfl,fun x y hx hy=>regE rfl (ql_clos (c:=fun k=>ofR (cs2 n w i k)) x y)⟩,box3 rfl rfl rfl rfl ⟨rfl,rfl,rfl,rfl⟩ rfl rfl rfl,trivial⟩ ⟨.inl ⟨_,_,rfl,rfl,fun _ _ _ _=>rfl⟩,⟨_,rfl,rfl,rfl⟩,⟨_,rfl,rfl⟩,⟨_,rfl,rfl⟩,⟨_,rfl,rfl,rfl⟩,⟨_,rfl,rfl⟩,⟨_,rfl,rfl⟩,⟨_,rfl,rfl⟩,⟨_,rfl,rfl⟩,trivial⟩,?_⟩
   refine sq1 ?_
   conv=>whnf
   repeat (refine⟨by first | exact i0 | exact n0 | exact i1 | exact n1,?_⟩;conv=>whnf)
   refine⟨_,kq,?_⟩
   conv=>whnf
   refine⟨gst [(0,.c (nql (n+1) F)),(2,.c (.p 0 0 3 0 0)),(3,.c (.int .i64 0)),(4,.c (.int .i64 n)),(5,.c (.p 2 0 3 0 0)),(6,.c (.int .i64 0)),(45,.c (.int .i64 n)),(46,.c (.int .i64 i)),(8,.c (.int .i64 i)),(9,.c (.p 3 0 4 0 0)),(10,.c (.int .i64 0))] [BZ,gqr (n*n) fun k=>ofR (cs2 n w i k),BL n 1,⟨38,4,1,boxF (nq (F i / F n))⟩],Weak.gen [some 0,some 1,some 2,some 15] rfl ⟨Rf.boxK rfl rfl,⟨_,rfl,rfl,rfl,rfl,rfl,fun x y hx hy=>regE rfl (ql_clos (c:=fun k=>ofR (cs2 n w i k)) x y)⟩,box3 rfl rfl rfl rfl ⟨rfl,rfl,rfl,rfl⟩ rfl rfl rfl,Rf.boxU rfl rfl rfl,trivial⟩ ⟨.inl ⟨_,_,rfl,rfl,fun _ _ _ _=>rfl⟩,⟨_,rfl,rfl,rfl⟩,⟨_,rfl,rfl⟩,⟨_,rfl,rfl⟩,⟨_,rfl,rfl,rfl⟩,⟨_,rfl,rfl⟩,⟨_,rfl,rfl⟩,⟨_,rfl,rfl⟩,⟨_,rfl,rfl⟩,⟨_,rfl,rfl,rfl⟩,⟨_,rfl,rfl⟩,trivial⟩,?_⟩
   refine so1 ?_
   conv=>whnf
   repeat (refine⟨by first | exact r0 | exact r1 | exact r2,?_⟩;conv=>whnf)
   refine⟨_,kn,?_⟩
   conv=>whnf
   refine⟨r3,r4,?_⟩
   conv=>whnf
   exact⟨(),trivial,Weak.gen [some 0,some 1,some 2] rfl ⟨Rf.boxK rfl rfl,⟨_,rfl,rfl,rfl,rfl,rfl,fun x y hx hy=>regE (one_upd (eu x) hy) (ql_clos (c:=fun k=>ofR (cs2 n w (i+1) k)) x y)⟩,box3 rfl rfl rfl rfl ⟨rfl,rfl,rfl,rfl⟩ rfl rfl rfl,trivial⟩ ⟨.inl ⟨_,_,rfl,rfl,fun _ _ _ _=>rfl⟩,⟨_,rfl,rfl,rfl⟩,⟨_,rfl,rfl⟩,⟨_,rfl,rfl⟩,⟨_,rfl,rfl,rfl⟩,⟨_,rfl,rfl⟩,⟨_,rfl,rfl⟩,⟨_,rfl,rfl⟩,trivial⟩⟩
  ·have h:=of_decide_eq_false h
   have e:n=i:=by omega
   subst e
   conv=>whnf
   exact⟨(),trivial,Weak.gen [some 0,some 1,some 2] rfl ⟨Rf.boxK rfl rfl,⟨_,rfl,rfl,rfl,rfl,rfl,fun x y hx hy=>regE (qlF_eq (c:=fun k=>ofR (cs2 n w n k)) (e:=fun k=>ofR (cpn n w (k / n) (k%n))) (congrArg ofR (cs2_cpn hx))) (ql_clos (c:=fun k=>ofR (cpn n w (k / n) (k%n))) x y)⟩,box3 rfl rfl rfl rfl ⟨rfl,rfl,rfl,rfl⟩ rfl rfl rfl,trivial⟩ ⟨.inl ⟨_,_,rfl,rfl,fun _ _ _ _=>rfl⟩,⟨_,rfl,rfl,rfl⟩,⟨_,rfl,rfl⟩,⟨_,rfl,rfl⟩,⟨_,rfl,rfl,rfl⟩,⟨_,rfl,rfl⟩,trivial⟩⟩
 refine so1 ?_
 conv=>whnf
 refine⟨fun a b _ _=>ql_clos (c:=fun k=>ofR (cpn n w (k / n) (k%n))) a b,?_⟩
 conv=>whnf
 exact⟨rfl,Sub.refl _⟩
end Mx
end Go.Proofs.YtkmbnldginonbaaGreat
/- A companion matrix is brought to Hessenberg form by exchanges alone. Plain: no program. -/
namespace Go.Proofs.YtkmbnldginonbaaGreat
open Crg Pol
namespace Mx
structure Cv (n : Nat) (w : Nat → Rat) (Q : Rat → Prop) (m : Nat) (A : Nat → Nat → Rat) : Prop where
 val:∀ i j,i<n->j<n->Q (A i j)
 st:(∀ i j,i<n->j<n->A i j=cpn n w i j)∨∀ j,m≤j+1->j<n->∀ i k,m≤i->i<n->m≤k->k<n->A i j≠0->A k j≠0->i=k
theorem cpn_ne {n:Nat} {w:Nat->Rat} {i j:Nat} (h:cpn n w i j≠0) (hi:i+1≠n):j=i+1:=by
 unfold cpn at h
 rw[if_neg hi]at h
 exact Decidable.byContradiction fun e=>h (if_neg e)
theorem Cv.one {n m:Nat} {w:Nat->Rat} {Q:Rat->Prop} {A:Nat->Nat->Rat} (h:Cv n w Q m A) (h1:1≤m) (hm:m<n) {i k:Nat} (hi:m≤i) (hi2:i<n) (hk:m≤k) (hk2:k<n) (a:A i (m-1)≠0) (b:A k (m-1)≠0):i=k:=by
 rcases h.st with e | e
 ·rw[e i _ hi2 (by omega)]at a
  rw[e k _ hk2 (by omega)]at b
  have hin:i+1=n:=Decidable.byContradiction fun g=>by have:=cpn_ne a g;omega
  have hkn:k+1=n:=Decidable.byContradiction fun g=>by have:=cpn_ne b g;omega
  omega
 ·exact e (m-1) (by omega) (by omega) i k hi hi2 hk hk2 a b
theorem el_id {n m : Nat} {A : Nat → Nat → Rat} (h : ∀ i, m < i → i < n → A i (m - 1) = 0) : ∀ t, m + t < n → el m A t = A
 | 0,_=>rfl
 | t+1,ht=>by
  show el1 m (m+1+t) (el m A t)=A
  rw[el_id h t (by omega)]
  unfold el1
  rw[if_pos (h _ (by omega) (by omega))]
abbrev xcm (n m:Nat) (A:Nat->Nat->Rat):Nat->Nat->Rat:=xch (sw (pv n A m) m) A
theorem Cv.xc {n m:Nat} {w:Nat->Rat} {Q:Rat->Prop} {A:Nat->Nat->Rat} (h:Cv n w Q m A) (h1:1≤m) (hm:m<n) (hp:pv n A m<n):(∀ i,m<i->i<n->xcm n m A i (m-1)=0)/\Cv n w Q (m+1) (xcm n m A):=by
 obtain⟨p1,-,-,p4⟩:=pvf_spec A (m-1) (n-m) m
 have p5:A (pv n A m) (m-1)≠0:=p4 (by show pv n A m<m+(n-m);omega)
 have p1:m≤pv n A m:=p1
 obtain⟨p,hpe⟩:∃ p,p=pv n A m:=⟨_,rfl⟩
 have hxe:∀ i j,xcm n m A i j=A (sw p m i) (sw p m j):=fun i j=>by rw[hpe];rfl
 rw[← hpe]at p1 p5 hp
 have s1:sw p m (m-1)=m-1:=by
  unfold sw
  rw[if_neg (by omega),if_neg (by omega)]
 have slt:∀ a,a<n->sw p m a<n:=fun a ha=>sw_lt hp hm ha
 have sge:∀ a,m≤a->m≤sw p m a:=fun a ha=>by
  unfold sw
  split
  ·exact Nat.le_refl m
  ·split
   ·exact p1
   ·exact ha
 have snp:∀ a,m<a->sw p m a≠p:=fun a ha e=>by
  have e2:sw p m (sw p m a)=sw p m p:=by rw[e]
  rw[sw_sw]at e2
  unfold sw at e2
  rw[if_pos rfl]at e2
  omega
 refine⟨fun i hi hin=>?_,fun i j hi hj=>?_,.inr fun j hj hjn i k hi hin hk hkn a b=>?_⟩
 ·rw[hxe,s1]
  exact Decidable.byContradiction fun g=>snp i hi (h.one h1 hm (sge i (by omega)) (slt i hin) p1 hp g p5)
 ·rw[hxe]
  exact h.val _ _ (slt i hi) (slt j hj)
 ·rw[hxe]at a b
  have inj:sw p m i=sw p m k->i=k:=fun e=>by rw[← sw_sw p m i,e,sw_sw]
  refine inj ?_
  rcases h.st with e | e
  ·rw[e _ _ (slt i hin) (slt j hjn)]at a
   rw[e _ _ (slt k hkn) (slt j hjn)]at b
   rw[e p _ hp (by omega)]at p5
   have hpn:p+1=n:=Decidable.byContradiction fun g=>by have:=cpn_ne p5 g;omega
   have a1:=cpn_ne a (by have:=snp i (by omega);omega)
   have b1:=cpn_ne b (by have:=snp k (by omega);omega)
   omega
  ·exact e _ (by have:=sge j (by omega);omega) (slt j hjn) _ _ (sge i (by omega)) (slt i hin) (sge k (by omega)) (slt k hkn) a b
theorem Cv.stp {n m:Nat} {w:Nat->Rat} {Q:Rat->Prop} {A:Nat->Nat->Rat} (h:Cv n w Q m A) (h1:1≤m) (hm:m<n):Cv n w Q (m+1) (stp n m A):=by
 unfold Mx.stp
 by_cases e:pv n A m=n
 ·rw[if_pos e]
  refine⟨h.val,?_⟩
  rcases h.st with g | g
  ·exact .inl g
  ·exact .inr fun j hj hjn i k hi hin hk hkn=>g j (by omega) hjn i k (by omega) hin (by omega) hkn
 ·rw[if_neg e]
  have hle:pv n A m≤m+(n-m):=(pvf_spec A (m-1) (n-m) m).2.1
  obtain⟨x1,x2⟩:=h.xc h1 hm (by omega)
  have x3:el m (xch (sw (pv n A m) m) A) (n-1-m)=xcm n m A:=el_id x1 _ (by omega)
  rw[x3]
  exact x2
theorem Cv.hs {n : Nat} {w : Nat → Rat} {Q : Rat → Prop} {A : Nat → Nat → Rat} (h : Cv n w Q 1 A) : ∀ m, 1 ≤ m → m ≤ n → Cv n w Q m (hs n A m)
 | 0,h0,_=>absurd h0 (by omega)
 | 1,_,_=>by
  show Cv n w Q 1 (if 0=0 then A else _)
  rw[if_pos rfl]
  exact h
 | m+2,_,hm=>by
  show Cv n w Q (m+2) (if m+1=0 then A else Mx.stp n (m+1) (Mx.hs n A (m+1)))
  rw[if_neg (by omega)]
  exact(Cv.hs h (m+1) (by omega) (by omega)).stp (by omega) (by omega)
theorem cv_cpn {n:Nat} {w:Nat->Rat} {Q:Rat->Prop} (h0:Q 0) (h1:Q 1) (hw:∀ i,i<n->Q (w i)):Cv n w Q 1 (cpn n w):=⟨fun i j hi hj=>by
 unfold cpn
 split
 ·exact hw j hj
 ·split
  ·exact h1
  ·exact h0,.inl fun _ _ _ _=>rfl⟩
theorem cpn_hs {n:Nat} {w:Nat->Rat} {Q:Rat->Prop} (h0:Q 0) (h1:Q 1) (hw:∀ i,i<n->Q (w i)) {m:Nat} (hm:1≤m) (hmn:m≤n) {i j:Nat} (hi:i<n) (hj:j<n):Q (hs n (cpn n w) m i j):=((cv_cpn h0 h1 hw).hs m hm hmn).val i j hi hj
theorem cpn_el {n:Nat} {w:Nat->Rat} {Q:Rat->Prop} (h0:Q 0) (h1:Q 1) (hw:∀ i,i<n->Q (w i)) {m t:Nat} (hm:1≤m) (hp:pv n (hs n (cpn n w) m) m<n) (ht:m+t<n) {i j:Nat} (hi:i<n) (hj:j<n):Q (el m (xch (sw (pv n (hs n (cpn n w) m) m) m) (hs n (cpn n w) m)) t i j):=by
 obtain⟨x1,x2⟩:=((cv_cpn h0 h1 hw).hs m hm (by omega)).xc hm (by omega) hp
 rw[show el m (xch (sw (pv n (hs n (cpn n w) m) m) m) (hs n (cpn n w) m)) t=xcm n m (hs n (cpn n w) m)from el_id x1 t ht]
 exact x2.val i j hi hj
end Mx
end Go.Proofs.YtkmbnldginonbaaGreat
/- Annihilators and the minimal polynomial, step by step over the unit vectors: plain, over any field. No program. -/
namespace Go.Proofs.YtkmbnldginonbaaGreat
open Crg Pol
namespace Mx
section
variable {K:Type} [Fld K] {n:Nat} {A:Nat->Nat->K}
theorem av_mpw (v : Nat → K) : ∀ t j, j < n → av n A v t j = sm (fun i => v i * mpw n A t i j) n
 | 0,j,hj=>by
  rw[sm_one (k:=j) hj fun i _ hi=>by rw[show(mpw n A 0 i j:K)=0 from if_neg hi,mul_zero],show(mpw n A 0 j j:K)=1 from if_pos rfl,Crg.mul_one]
  rfl
 | t+1,j,hj=>by
  show sm (fun i=>av n A v t i*A i j) n=_
  rw[sm_congr (g:=fun i=>sm (fun a=>v a*mpw n A t a i*A i j) n) fun i hi=>by rw[av_mpw v t i hi,sm_mul],sm_swap]
  refine sm_congr fun a ha=>?_
  have e:=mpw_add A t 1 a j ha hj
  rw[← e,show mm n (mpw n A t) (mpw n A 1) a j=mm n (mpw n A t) A a j from sm_congr fun i hi=>by rw[show mpw n A 1 i j=A i j from mm_I hj i]]
  unfold mm
  rw[mul_sm]
  exact sm_congr fun i _=>Crg.mul_assoc _ _ _
noncomputable def evv (n:Nat) (A:Nat->Nat->K) (v:Nat->K) (g:Pol K) (j:Nat):K:=avl n A v g.f g.len j
theorem evv_of {v:Nat->K} {g:Pol K} {N:Nat} (h:g.len≤N) (j:Nat):avl n A v g.f N j=evv n A v g j:=avl_more (fun t ht=>len_out g t ht) h j
theorem evv_evm (v:Nat->K) (g:Pol K) {j:Nat} (hj:j<n):evv n A v g j=sm (fun i=>v i*evm n A g i j) n:=by
 show sm (fun t=>g.f t*av n A v t j) g.len=_
 rw[sm_congr (g:=fun t=>sm (fun i=>g.f t*(v i*mpw n A t i j)) n) fun t _=>by rw[av_mpw v t j hj,mul_sm],sm_swap]
 refine sm_congr fun i _=>?_
 unfold evm
 rw[mul_sm]
 exact sm_congr fun t _=>RE.eq [g.f t,v i,mpw n A t i j] (t0*(t1*t2)) (t1*(t0*t2)) rfl
theorem evv_mul (v:Nat->K) (g h:Pol K) {j:Nat} (hj:j<n):evv n A v (g*h) j=evv n A (evv n A v g) h j:=by
 rw[evv_evm _ _ hj,evv_evm _ _ hj,sm_congr (g:=fun i=>sm (fun a=>v i*evm n A g i a*evm n A h a j) n) fun i hi=>by
  rw[evm_mul h g.len g (Nat.le_refl _) i j hi hj]
  unfold mm
  rw[mul_sm]
  exact sm_congr fun a _=>(Crg.mul_assoc _ _ _).symm,sm_swap]
 refine sm_congr fun a ha=>?_
 rw[evv_evm v g ha,sm_mul]
theorem evv_zero (h:Pol K) {v:Nat->K} (hv:∀ i,i<n->v i=0) {j:Nat} (hj:j<n):evv n A v h j=0:=by
 rw[evv_evm _ _ hj]
 exact sm_zero fun i hi=>by rw[hv i hi,zero_mul]
theorem evv_sub (v:Nat->K) (g h:Pol K) (j:Nat):evv n A v (g-h) j=evv n A v g j-evv n A v h j:=by
 rw[← evv_of (len_sub g h),← evv_of (Nat.le_max_left g.len h.len),← evv_of (Nat.le_max_right g.len h.len),← avl_sub]
 rfl
structure Ann (n : Nat) (A : Nat → Nat → K) (v : Nat → K) (g : Pol K) : Prop where
 mon:Monic g
 zero:∀ j,j<n->evv n A v g j=0
 low:∀ h:Pol K,(∀ j,j<n->evv n A v h j=0)->Dvs g h
theorem Kns.ann {R:Nat} {v:Nat->K} {kn:Nat->Kn K} {b:Nat->K} (h:Kns n A v R kn b) (h0:∀ j,j<n->(rdw n A v kn R R).1 j=0):∃ g:Pol K,g.len=R+1/\(∀ j,g.f j=(rdw n A v kn R R).2 j)/\Ann n A v g:=by
 obtain⟨-,h2,h3,h4⟩:=h.inv (Nat.le_refl R) (Nat.le_refl R)
 let g:Pol K:=⟨(rdw n A v kn R R).2,R+1,fun j hj=>h3 j (by omega)⟩
 have hl:g.len=R+1:=len_eq (fun j hj=>h3 j (by omega)) (by show(rdw n A v kn R R).2 R≠0;rw[h4];exact Fld.one_ne)
 have hz:∀ j,j<n->evv n A v g j=0:=fun j hj=>by
  rw[← evv_of (Nat.le_of_eq hl) j]
  exact(h2 j).symm.trans (h0 j hj)
 have hm:Monic g:=⟨by omega,by show g.f (g.len-1)=1;rw[hl];exact h4⟩
 refine⟨g,hl,fun _=>rfl,hm,hz,fun f hf=>?_⟩
 obtain⟨q,r,e,hr⟩:=div_ex f (ne_of_len hm.1)
 have er:r=f-g*q:=by rw[e];exact RE.eq [q,g,r] t2 (t0*t1+t2-t1*t0) rfl
 have z:∀ j,j<n->evv n A v r j=0:=fun j hj=>by
  rw[er,evv_sub,hf j hj,evv_mul v g q hj,evv_zero q hz hj,sub_zero]
 have hr0:r=0:=Pol.ext fun t=>h.least R (Nat.le_refl R) r.f (fun t ht=>len_out r t (by omega)) (fun j hj=>by rw[evv_of (by omega) j];exact z j hj) t
 exact⟨q,by rw[e,hr0,Crg.add_zero,Crg.mul_comm]⟩
theorem evm_row (g:Pol K) (i:Nat) {j:Nat} (hi:i<n) (hj:j<n):evm n A g i j=evv n A (mI i) g j:=by
 rw[evv_evm _ _ hj,sm_one (k:=i) hi fun a _ ha=>by rw[show(mI i a:K)=0 from if_neg fun e=>ha e.symm,zero_mul],show(mI i i:K)=1 from if_pos rfl,one_mul]
end
end Mx
end Go.Proofs.YtkmbnldginonbaaGreat
/- A companion matrix's characteristic polynomial and the annihilator of the first unit vector. Plain: no program. -/
namespace Go.Proofs.YtkmbnldginonbaaGreat
open Crg Pol
namespace Mx
theorem tp_pow {R : Type} [Crg R] {n : Nat} {A B : Nat → Nat → R} (h : ∀ i j, i < n → j < n → B i j = A j i) : ∀ k i j, i < n → j < n → mpw n B k i j = mpw n A k j i
 | 0,i,j,_,_=>by
  show(if i=j then(1:R)else 0)=if j=i then 1 else 0
  by_cases e:i=j
  ·rw[if_pos e,if_pos e.symm]
  ·rw[if_neg e,if_neg fun g=>e g.symm]
 | k+1,i,j,hi,hj=>by
  have e1:mm n A (mpw n A k) j i=mm n (mpw n A k) A j i:=(mpw_link (n:=n) (A:=A) (B:=A) (T:=A) (Eqn.refl _) k j i hj hi).symm
  show mm n B (mpw n B k) i j=mm n A (mpw n A k) j i
  rw[e1]
  show sm (fun a=>B i a*mpw n B k a j) n=sm (fun a=>mpw n A k j a*A a i) n
  exact Crg.sm_congr fun a ha=>by rw[h i a hi ha,tp_pow h k a j ha hj,mul_comm]
variable {n:Nat} {c w:Nat->Rat}
theorem cpn_cm (hw:∀ j,w j = -c j) (i j:Nat) (_:i<n) (hj:j<n):cpn n w i j=cm n c j i:=by
 unfold cpn cm
 by_cases e:i+1=n
 ·rw[if_pos e,if_pos e,if_neg (by omega),hw]
  rw[Crg.sub_def]
  exact(Crg.zero_add _).symm
 ·rw[if_neg e,if_neg e]
  by_cases g:j=i+1
  ·rw[if_pos g]
   exact(Crg.sub_zero 1).symm
  ·rw[if_neg g]
   exact(Crg.sub_zero 0).symm
theorem cpn_pow (hw:∀ j,w j = -c j) (k i j:Nat) (hi:i<n) (hj:j<n):mpw n (cpn n w) k i j=mpw n (cm n c) k j i:=tp_pow (cpn_cm hw) k i j hi hj
theorem newt_cpn (hw : ∀ j, w j = -c j) (h1 : c n = 1) (h0 : ∀ m, n < m → c m = 0) : Newt n (cpn n w) c where
 top:=h1
 out:=h0
 id:=fun r hr=>by
  rw[← newton_cm h1 h0 hr]
  refine Crg.sm_congr fun t _=>?_
  rw[show tr n (mpw n (cpn n w) t)=tr n (mpw n (cm n c) t)from Crg.sm_congr fun i hi=>cpn_pow hw t i i hi hi]
 root:=fun i j hi hj=>by
  rw[← root_cm h1 h0 j i hj hi]
  exact Crg.sm_congr fun t _=>by rw[cpn_pow hw t i j hi hj]
theorem cpn_av : ∀ t, t < n → ∀ j, j < n → av n (cpn n w) (mI 0) t j = if j = t then 1 else 0
 | 0,_,j,_=>by
  show(if 0=j then(1:Rat)else 0)=_
  by_cases e:j=0
  ·rw[if_pos e,if_pos e.symm]
  ·rw[if_neg e,if_neg fun g=>e g.symm]
 | t+1,ht,j,hj=>by
  show sm (fun i=>av n (cpn n w) (mI 0) t i*cpn n w i j) n=_
  rw[Crg.sm_congr fun i hi=>by rw[cpn_av t (by omega) i hi],Crg.sm_one (show t<n by omega) fun a _ ha=>by rw[if_neg ha,zero_mul],if_pos rfl,one_mul]
  unfold cpn
  rw[if_neg (by omega)]
theorem cpn_low {h:Pol Rat} (hl:h.len≤n) (hz:∀ j,j<n->evv n (cpn n w) (mI 0) h j=0):h=0:=by
 refine len_nil (Nat.le_zero.1 (len_le fun j _=>?_))
 rcases Nat.lt_or_ge j n with hj | hj
 ·have e:=hz j hj
  rw[← evv_of hl]at e
  rw[show avl n (cpn n w) (mI 0) h.f n j=sm (fun t=>h.f t*av n (cpn n w) (mI 0) t j) n from rfl,Crg.sm_congr fun t ht=>by rw[cpn_av t ht j hj],Crg.sm_one hj fun a _ ha=>by rw[if_neg fun g=>ha g.symm,mul_zero],if_pos rfl,mul_one]at e
  exact e
 ·exact len_out h j (by omega)
theorem cpn_ann (hw:∀ j,w j = -c j) (hn:1≤n) {p g:Pol Rat} (hp:p.f=c) (h1:c n=1) (h0:∀ m,n<m->c m=0) (hg:Ann n (cpn n w) (mI 0) g):g=p:=by
 have hpl:p.len=n+1:=len_eq (fun j hj=>by rw[hp];exact h0 j (by omega)) (by rw[hp,h1];exact Fld.one_ne)
 have hpz:∀ j,j<n->evv n (cpn n w) (mI 0) p j=0:=fun j hj=>by
  rw[← evm_row p 0 (by omega) hj,evm_of (Nat.le_of_eq hpl),hp]
  exact(newt_cpn hw h1 h0).root 0 j (by omega) hj
 have hle:=(hg.low p hpz).len (ne_of_len (by omega))
 have hge:¬ g.len≤n:=fun hl=>by
  have e:=cpn_low hl hg.zero
  have:=hg.mon.1
  rw[e,len_zero]at this
  omega
 have hgl:g.len=n+1:=by omega
 have hgt:g.f n=1:=by
  have e:g.f (g.len-1)=1:=hg.mon.2
  rwa [hgl,Nat.add_sub_cancel]at e
 have e:p-g=0:=cpn_low (n:=n) (w:=w) (len_le fun j hj=>by
  show p.f j-g.f j=0
  rcases Nat.lt_or_ge n j with h | h
  ·rw[hp,h0 j h,len_out g j (by omega)]
   exact sub_self _
  ·rw[show j=n by omega,hp,h1,hgt]
   exact sub_self _) fun j hj=>by
  rw[evv_sub,hpz j hj,hg.zero j hj]
  exact sub_self _
 refine ext fun i=>?_
 have e2:p.f i-g.f i=0:=congrArg (fun x=>x.f i) e
 exact(sub_eq_zero.1 e2).symm
theorem ann_nil {A:Nat->Nat->Rat} {v:Nat->Rat} {g:Pol Rat} (hv:∀ i,i<n->v i=0) (hg:Ann n A v g):g=1:=by
 have hle:=(hg.low 1 fun j hj=>evv_zero 1 hv hj).len (ne_of_len (by rw[len_one];omega))
 rw[len_one]at hle
 have h1:=hg.mon.1
 have h2:g.f (g.len-1)=1:=hg.mon.2
 rw[show g.len-1=0 by omega]at h2
 rw[eq_C hle,h2]
 rfl
end Mx
end Go.Proofs.YtkmbnldginonbaaGreat
/- The program's power sums of a monic polynomial. -/
namespace Go.Proofs.YtkmbnldginonbaaGreat
open Go.RowKit
namespace Mx
open Rf
end Mx
end Go.Proofs.YtkmbnldginonbaaGreat
