/- charpoly.grid for literal sizes. -/
import Derived.Test.YtkmbnldginonbaaGreatCo12
set_option maxHeartbeats 64000000
namespace Go.Proofs.YtkmbnldginonbaaGreat
open Go.RowKit
namespace Mx
theorem row_app {q:Nat} {bl:List Blk} {ks:List (Option Nat)} {v:Nat->Rat} {x i j:Nat} (hi:i<x+1) (_:j<4):regC q bl ks (qlF (fun j=>ofR (v j)) i j) fun y=>appF x (qlF fun j=>ofR (v j)) (rowF 4 (nq (v x))) i j=y:=regE (appG (sz:=4) (g:=fun i=>nq (v i)) (g':=fun i=>nq (v i)) (l:=nq (v x)) (Rf.app_sameq v x i) (Nat.le_refl (x+1)) hi) (q_clos v i j)
abbrev zb (a:Int) (m:Nat) (p:Nat->RawR):Gx:=⟨24,3,1,boxF [.int .i64 a,.int .i64 a,ql m p]⟩
abbrev zG (n:Nat):Gx:=⟨22,1,n,fun k _ => .gs (k+2) 0⟩
theorem so1 {N:Nat} {c:Code} {σ:St} {R:Exit->St->Prop} (h:awp E1 c σ R) (hc:codeB N c=true:=by kernel_rfl):Swp E1 N c σ R:=swp_of E1_ok mixed hc h
theorem sq1 {N:Nat} {x y:Code} {σ:St} {R:Exit->St->Prop} (h:awp E1 x σ (seqR (fun σ'=>∃ σ2,Weak E1.m0 σ' σ2/\Swp E1 N y σ2 R) R)) (hc:codeB N x=true:=by kernel_rfl):Swp E1 N (.seq x y) σ R:=swp_seq E1_ok mixed hc h
theorem zk1 {b0 b1:Blk} {r:List Blk} {t:List (Option Nat)} (h:([b1].all fun b=>b.u == 0&&b.st == 0)=true):srcG 0 (b0 :: gb (zG 1) :: b1 :: r) (some 0 :: some 1 :: some 2 :: t) (zG 1) (some 1):=by
 simp only[List.all_cons,List.all_nil,Bool.and_true,Bool.and_eq_true,beq_iff_eq]at h
 obtain⟨u1,s1⟩:=h
 exact⟨_,rfl,rfl,rfl,rfl,rfl,cells1 ⟨b1,rfl,by rw[u1],s1⟩⟩
theorem zk2 {b0 b1 b2:Blk} {r:List Blk} {t:List (Option Nat)} (h:([b1,b2].all fun b=>b.u == 0&&b.st == 0)=true):srcG 0 (b0 :: gb (zG 2) :: b1 :: b2 :: r) (some 0 :: some 1 :: some 2 :: some 3 :: t) (zG 2) (some 1):=by
 simp only[List.all_cons,List.all_nil,Bool.and_true,Bool.and_eq_true,beq_iff_eq]at h
 obtain⟨⟨u1,s1⟩,⟨u2,s2⟩⟩:=h
 exact⟨_,rfl,rfl,rfl,rfl,rfl,cells2 ⟨b1,rfl,by rw[u1],s1⟩ ⟨b2,rfl,by rw[u2],s2⟩⟩
theorem zk3 {b0 b1 b2 b3:Blk} {r:List Blk} {t:List (Option Nat)} (h:([b1,b2,b3].all fun b=>b.u == 0&&b.st == 0)=true):srcG 0 (b0 :: gb (zG 3) :: b1 :: b2 :: b3 :: r) (some 0 :: some 1 :: some 2 :: some 3 :: some 4 :: t) (zG 3) (some 1):=by
 simp only[List.all_cons,List.all_nil,Bool.and_true,Bool.and_eq_true,beq_iff_eq]at h
 obtain⟨⟨u1,s1⟩,⟨u2,s2⟩,⟨u3,s3⟩⟩:=h
 exact⟨_,rfl,rfl,rfl,rfl,rfl,cells3 ⟨b1,rfl,by rw[u1],s1⟩ ⟨b2,rfl,by rw[u2],s2⟩ ⟨b3,rfl,by rw[u3],s3⟩⟩
theorem zk4 {b0 b1 b2 b3 b4:Blk} {r:List Blk} {t:List (Option Nat)} (h:([b1,b2,b3,b4].all fun b=>b.u == 0&&b.st == 0)=true):srcG 0 (b0 :: gb (zG 4) :: b1 :: b2 :: b3 :: b4 :: r) (some 0 :: some 1 :: some 2 :: some 3 :: some 4 :: some 5 :: t) (zG 4) (some 1):=by
 simp only[List.all_cons,List.all_nil,Bool.and_true,Bool.and_eq_true,beq_iff_eq]at h
 obtain⟨⟨u1,s1⟩,⟨u2,s2⟩,⟨u3,s3⟩,⟨u4,s4⟩⟩:=h
 exact⟨_,rfl,rfl,rfl,rfl,rfl,cells4 ⟨b1,rfl,by rw[u1],s1⟩ ⟨b2,rfl,by rw[u2],s2⟩ ⟨b3,rfl,by rw[u3],s3⟩ ⟨b4,rfl,by rw[u4],s4⟩⟩
theorem zk5 {b0 b1 b2 b3 b4 b5:Blk} {r:List Blk} {t:List (Option Nat)} (h:([b1,b2,b3,b4,b5].all fun b=>b.u == 0&&b.st == 0)=true):srcG 0 (b0 :: gb (zG 5) :: b1 :: b2 :: b3 :: b4 :: b5 :: r) (some 0 :: some 1 :: some 2 :: some 3 :: some 4 :: some 5 :: some 6 :: t) (zG 5) (some 1):=by
 simp only[List.all_cons,List.all_nil,Bool.and_true,Bool.and_eq_true,beq_iff_eq]at h
 obtain⟨⟨u1,s1⟩,⟨u2,s2⟩,⟨u3,s3⟩,⟨u4,s4⟩,⟨u5,s5⟩⟩:=h
 exact⟨_,rfl,rfl,rfl,rfl,rfl,cells5 ⟨b1,rfl,by rw[u1],s1⟩ ⟨b2,rfl,by rw[u2],s2⟩ ⟨b3,rfl,by rw[u3],s3⟩ ⟨b4,rfl,by rw[u4],s4⟩ ⟨b5,rfl,by rw[u5],s5⟩⟩
abbrev gwl (n i x k:Nat):Nat:=if k<i then n else if k=i then x else 0
set_option maxRecDepth 100000 in
theorem grid_1 {p:Nat->RawR} {A:Nat->Nat->Rat} {L:Nat} (hp:∀ k,k<1->(p k).Fit L) (hL:L+3≤LIM) (hA:∀ i j,i<1->j<1->(p (i*1+j)).val=A i j):FnT Tryz.prog true 39 0 [] [.g [.int .i64 1,.int .i64 1,ql 1 p]] (.c (.gs 0 0)) ((R1 A).map gb):=by
 have hN:∀ i j,i<1->j<1->FnOK Tryz.prog true 73 [.g (rr (p (i*1+j)))] (.g (nq (A i j))):=fun i j hi hj=>by
  have:=qnormal_ok (hp (i*1+j) (by omega)) hL
  rwa [hA i j hi hj]at this
 clear hp hL hA
 refine fnt_okS (E:=E1) E1_ok Tryz.func39 rfl (by kernel_rfl) ?_
 refine sq1 ?_
 conv=>whnf
 refine⟨gst [(1,.c (.p 0 0 3 0 0))] [zb 1 1 p],Weak.gen [some 0] rfl ⟨Rf.boxK rfl rfl,trivial⟩ ⟨⟨_,rfl,rfl,rfl⟩,trivial⟩,?_⟩
 refine sq1 ?_
 conv=>whnf
 refine⟨by decide,by decide,by decide,by decide,?_⟩
 conv=>whnf
 refine⟨gst [(1,.c (.p 0 0 3 0 0)),(3,.c (.gs 1 0))] [zb 1 1 p,zG 1,gq (gwl 1 0 0 0) (A 0)],Weak.gen [some 0,some 1,none] rfl ⟨Rf.boxK rfl rfl,⟨_,rfl,rfl,rfl,rfl,rfl,cells1 rfl⟩,rfl,trivial⟩ ⟨⟨_,rfl,rfl,rfl⟩,⟨_,rfl,rfl,rfl⟩,trivial⟩,?_⟩
 refine swp_mid (fun _:Unit=>gst [(3,.c (.gs 1 0))] [zb 1 1 p,zG 1,gq 1 (A 0)]) (fun _=>True) ?_ fun _ _=>?_
 rotate_left
 ·refine so1 ?_
  conv=>whnf
  exact Weak.gen (tl:=[(0,.c (.gs 0 0))]) (xs:=R1 A) [some 1,some 2] rfl ⟨⟨_,rfl,rfl,rfl,rfl,rfl,cells1 ⟨_,rfl,rfl,rfl⟩⟩,rs rfl,trivial⟩ ⟨⟨_,rfl,rfl,rfl⟩,trivial⟩
 refine sq1 ?_
 conv=>whnf
 refine⟨(fun i:Nat=>gst [(1,.c (.p 0 0 3 0 0)),(3,.c (.gs 1 0)),(11,.c (.int .i64 1)),nt 12 i] [zb 1 1 p,zG 1,gq (gwl 1 i 0 0) (A 0)]) 0,Weak.gen [some 0,some 1,some 2] rfl ⟨Rf.boxK rfl rfl,zk1 rfl,rs rfl,trivial⟩ ⟨⟨_,rfl,rfl,rfl⟩,⟨_,rfl,rfl,rfl⟩,⟨_,rfl,rfl⟩,⟨_,rfl,rfl⟩,trivial⟩,?_⟩
 refine swp_block (swp_loop (fun i:Nat=>gst [(1,.c (.p 0 0 3 0 0)),(3,.c (.gs 1 0)),(11,.c (.int .i64 1)),nt 12 i] [zb 1 1 p,zG 1,gq (gwl 1 i 0 0) (A 0)]) (fun i=>2-i) (fun i=>i≤1) 0 (Weak.refl _) (Nat.zero_le _) fun i hi=>?_)
 rcases Nat.lt_or_ge i 1 with ilt | ige
 rotate_left
 ·obtain rfl:i=1:=Nat.le_antisymm hi ige
  refine so1 ?_
  conv=>whnf
  exact⟨(),trivial,Weak.gen [some 0,some 1,some 2] rfl ⟨Rf.boxK rfl rfl,zk1 rfl,rs rfl,trivial⟩ ⟨⟨_,rfl,rfl,rfl⟩,trivial⟩⟩
 have e:i=0:=by omega
 have F:_/\_/\_/\_/\_:=⟨ilt,hN i,(i64_range (by omega) (by omega):inR .i64 (((i:Nat):Int)*1)),(i64_range (by omega) (by omega):inR .i64 (((i:Nat):Int)+1)),(i64_range (by omega) (by omega):inR .i64 ((((i:Nat):Int)+1)*1))⟩
 clear hi ilt hN
 revert F
 rcases e with e <;> (
  apply lets e
  intro i F
  obtain⟨ilt,hN,r1,r2,r3⟩:=F
  refine swp_seq0 E1_ok mixed (by kernel_rfl) ?_
  conv=>whnf
  refine sq1 ?_
  conv=>whnf
  refine⟨gst [(1,.c (.p 0 0 3 0 0)),(3,.c (.gs 1 0)),(11,.c (.int .i64 1)),nt 12 i] [zb 1 1 p,zG 1,gq (gwl 1 i 0 0) (A 0)],Weak.gen [some 0,some 1,some 2] rfl ⟨Rf.boxK rfl rfl,zk1 rfl,rs rfl,trivial⟩ ⟨⟨_,rfl,rfl,rfl⟩,⟨_,rfl,rfl,rfl⟩,⟨_,rfl,rfl⟩,⟨_,rfl,rfl⟩,trivial⟩,?_⟩
  refine swp_mid (fun _:Unit=>gst [(1,.c (.p 0 0 3 0 0)),(3,.c (.gs 1 0)),(11,.c (.int .i64 1)),nt 12 i] [zb 1 1 p,zG 1,gq (gwl 1 (i+1) 0 0) (A 0)]) (fun _=>True) ?_ fun _ _=>?_
  rotate_left
  ·refine so1 ?_
   conv=>whnf
   repeat (refine⟨by first | exact r1 | exact r2 | exact r3 | exact ib rfl | exact ixl rfl,?_⟩;conv=>whnf)
   exact⟨i+1,by omega,Weak.gen [some 0,some 1,some 2] rfl ⟨Rf.boxK rfl rfl,zk1 rfl,rs rfl,trivial⟩ ⟨⟨_,rfl,rfl,rfl⟩,⟨_,rfl,rfl,rfl⟩,⟨_,rfl,rfl⟩,⟨_,rfl,rfl⟩,trivial⟩,ilt⟩
  refine swp_block ?_
  refine sq1 ?_
  conv=>whnf
  refine⟨gst [(1,.c (.p 0 0 3 0 0)),(3,.c (.gs 1 0)),(11,.c (.int .i64 1)),nt 12 i,nt 4 i] [zb 1 1 p,zG 1,gq (gwl 1 i 0 0) (A 0)],Weak.gen [some 0,some 1,some 2] rfl ⟨Rf.boxK rfl rfl,zk1 rfl,rs rfl,trivial⟩ ⟨⟨_,rfl,rfl,rfl⟩,⟨_,rfl,rfl,rfl⟩,⟨_,rfl,rfl⟩,⟨_,rfl,rfl⟩,⟨_,rfl,rfl⟩,trivial⟩,?_⟩
  refine sq1 ?_
  conv=>whnf
  repeat (refine⟨by first | exact r1 | exact r2 | exact r3 | exact ib rfl | exact ixl rfl,?_⟩;conv=>whnf)
  refine⟨(fun x:Nat=>gst [(1,.c (.p 0 0 3 0 0)),(3,.c (.gs 1 0)),(11,.c (.int .i64 1)),nt 12 i,nt 4 i,(26,.c (.row 4 1 (qlF fun k=>p (i*1+k)))),(27,.c (.int .i64 1)),nt 28 x] [zb 1 1 p,zG 1,gq (gwl 1 i x 0) (A 0)]) 0,Weak.gen [some 0,some 1,some 2] rfl ⟨Rf.boxK rfl rfl,zk1 rfl,rs rfl,trivial⟩ ⟨⟨_,rfl,rfl,rfl⟩,⟨_,rfl,rfl,rfl⟩,⟨_,rfl,rfl⟩,⟨_,rfl,rfl⟩,⟨_,rfl,rfl⟩,.inl ⟨_,_,rfl,rfl,fun _ _ _ _=>rfl⟩,⟨_,rfl,rfl⟩,⟨_,rfl,rfl⟩,trivial⟩,?_⟩
  refine swp_block (swp_loop (fun x:Nat=>gst [(1,.c (.p 0 0 3 0 0)),(3,.c (.gs 1 0)),(11,.c (.int .i64 1)),nt 12 i,nt 4 i,(26,.c (.row 4 1 (qlF fun k=>p (i*1+k)))),(27,.c (.int .i64 1)),nt 28 x] [zb 1 1 p,zG 1,gq (gwl 1 i x 0) (A 0)]) (fun x=>1-x) (fun x=>x≤1) 0 (Weak.refl _) (Nat.zero_le _) fun x hx=>?_)
  have hN:=hN x ilt
  have hx:x≤1:=hx
  have hj0:(0:Int)≤(x:Int):=by omega
  refine so1 ?_
  conv=>whnf
  refine bcase (fun(h:decide ((x:Int)<1)=true)=>?_) fun(h:decide ((x:Int)<1)=false)=>?_
  ·have h:=of_decide_eq_true h
   have hN:=hN (by omega)
   have hj1:(x:Int)<((1:Nat):Int):=by omega
   conv=>whnf
   repeat (refine⟨by first | exact hj0 | exact hj1 | exact ib rfl | exact ixl rfl,?_⟩;conv=>whnf)
   refine⟨_,hN,?_⟩
   conv=>whnf
   refine .inr ⟨rfl,?_⟩
   conv=>whnf
   refine⟨by show x+1≤16777216;omega,fun a b ha hb=>Rf.one_nq (A i x) true a b ha hb,?_⟩
   conv=>whnf
   repeat (refine⟨by first | exact r1 | exact r2 | exact r3 | exact ib rfl | exact ixl rfl,?_⟩;conv=>whnf)
   refine⟨i64_range (by omega) (by omega),?_⟩
   conv=>whnf
   exact⟨x+1,by omega,Weak.gen [some 0,some 1,some 2] rfl ⟨Rf.boxK rfl rfl,⟨_,rfl,rfl,rfl,rfl,rfl,cells1 ⟨_,rfl,rfl,rfl⟩⟩,by first | exact rs rfl | exact⟨_,rfl,rfl,rfl,rfl,rfl,fun x y hx hy=>row_app hx hy⟩,trivial⟩ ⟨⟨_,rfl,rfl,rfl⟩,⟨_,rfl,rfl,rfl⟩,⟨_,rfl,rfl⟩,⟨_,rfl,rfl⟩,⟨_,rfl,rfl⟩,.inl ⟨_,_,rfl,rfl,fun _ _ _ _=>rfl⟩,⟨_,rfl,rfl⟩,⟨_,rfl,rfl⟩,trivial⟩,by show x+1≤1;omega⟩
  ·have h:=of_decide_eq_false h
   obtain rfl:x=1:=by omega
   conv=>whnf
   exact⟨(),trivial,Weak.gen [some 0,some 1,some 2] rfl ⟨Rf.boxK rfl rfl,zk1 rfl,rs rfl,trivial⟩ ⟨⟨_,rfl,rfl,rfl⟩,⟨_,rfl,rfl,rfl⟩,⟨_,rfl,rfl⟩,⟨_,rfl,rfl⟩,trivial⟩⟩)
set_option maxRecDepth 100000 in
theorem grid_2 {p:Nat->RawR} {A:Nat->Nat->Rat} {L:Nat} (hp:∀ k,k<4->(p k).Fit L) (hL:L+3≤LIM) (hA:∀ i j,i<2->j<2->(p (i*2+j)).val=A i j):FnT Tryz.prog true 39 0 [] [.g [.int .i64 2,.int .i64 2,ql 4 p]] (.c (.gs 0 0)) ((R2 A).map gb):=by
 have hN:∀ i j,i<2->j<2->FnOK Tryz.prog true 73 [.g (rr (p (i*2+j)))] (.g (nq (A i j))):=fun i j hi hj=>by
  have:=qnormal_ok (hp (i*2+j) (by omega)) hL
  rwa [hA i j hi hj]at this
 clear hp hL hA
 refine fnt_okS (E:=E1) E1_ok Tryz.func39 rfl (by kernel_rfl) ?_
 refine sq1 ?_
 conv=>whnf
 refine⟨gst [(1,.c (.p 0 0 3 0 0))] [zb 2 4 p],Weak.gen [some 0] rfl ⟨Rf.boxK rfl rfl,trivial⟩ ⟨⟨_,rfl,rfl,rfl⟩,trivial⟩,?_⟩
 refine sq1 ?_
 conv=>whnf
 refine⟨by decide,by decide,by decide,by decide,?_⟩
 conv=>whnf
 refine⟨gst [(1,.c (.p 0 0 3 0 0)),(3,.c (.gs 1 0))] [zb 2 4 p,zG 2,gq (gwl 2 0 0 0) (A 0),gq (gwl 2 0 0 1) (A 1)],Weak.gen [some 0,some 1,none,none] rfl ⟨Rf.boxK rfl rfl,⟨_,rfl,rfl,rfl,rfl,rfl,cells2 rfl rfl⟩,rfl,rfl,trivial⟩ ⟨⟨_,rfl,rfl,rfl⟩,⟨_,rfl,rfl,rfl⟩,trivial⟩,?_⟩
 refine swp_mid (fun _:Unit=>gst [(3,.c (.gs 1 0))] [zb 2 4 p,zG 2,gq 2 (A 0),gq 2 (A 1)]) (fun _=>True) ?_ fun _ _=>?_
 rotate_left
 ·refine so1 ?_
  conv=>whnf
  exact Weak.gen (tl:=[(0,.c (.gs 0 0))]) (xs:=R2 A) [some 1,some 2,some 3] rfl ⟨⟨_,rfl,rfl,rfl,rfl,rfl,cells2 ⟨_,rfl,rfl,rfl⟩ ⟨_,rfl,rfl,rfl⟩⟩,rs rfl,rs rfl,trivial⟩ ⟨⟨_,rfl,rfl,rfl⟩,trivial⟩
 refine sq1 ?_
 conv=>whnf
 refine⟨(fun i:Nat=>gst [(1,.c (.p 0 0 3 0 0)),(3,.c (.gs 1 0)),(11,.c (.int .i64 2)),nt 12 i] [zb 2 4 p,zG 2,gq (gwl 2 i 0 0) (A 0),gq (gwl 2 i 0 1) (A 1)]) 0,Weak.gen [some 0,some 1,some 2,some 3] rfl ⟨Rf.boxK rfl rfl,zk2 rfl,rs rfl,rs rfl,trivial⟩ ⟨⟨_,rfl,rfl,rfl⟩,⟨_,rfl,rfl,rfl⟩,⟨_,rfl,rfl⟩,⟨_,rfl,rfl⟩,trivial⟩,?_⟩
 refine swp_block (swp_loop (fun i:Nat=>gst [(1,.c (.p 0 0 3 0 0)),(3,.c (.gs 1 0)),(11,.c (.int .i64 2)),nt 12 i] [zb 2 4 p,zG 2,gq (gwl 2 i 0 0) (A 0),gq (gwl 2 i 0 1) (A 1)]) (fun i=>3-i) (fun i=>i≤2) 0 (Weak.refl _) (Nat.zero_le _) fun i hi=>?_)
 rcases Nat.lt_or_ge i 2 with ilt | ige
 rotate_left
 ·obtain rfl:i=2:=Nat.le_antisymm hi ige
  refine so1 ?_
  conv=>whnf
  exact⟨(),trivial,Weak.gen [some 0,some 1,some 2,some 3] rfl ⟨Rf.boxK rfl rfl,zk2 rfl,rs rfl,rs rfl,trivial⟩ ⟨⟨_,rfl,rfl,rfl⟩,trivial⟩⟩
 have e:i=0∨i=1:=by omega
 have F:_/\_/\_/\_/\_:=⟨ilt,hN i,(i64_range (by omega) (by omega):inR .i64 (((i:Nat):Int)*2)),(i64_range (by omega) (by omega):inR .i64 (((i:Nat):Int)+1)),(i64_range (by omega) (by omega):inR .i64 ((((i:Nat):Int)+1)*2))⟩
 clear hi ilt hN
 revert F
 rcases e with e | e <;> (
  apply lets e
  intro i F
  obtain⟨ilt,hN,r1,r2,r3⟩:=F
  refine swp_seq0 E1_ok mixed (by kernel_rfl) ?_
  conv=>whnf
  refine sq1 ?_
  conv=>whnf
  refine⟨gst [(1,.c (.p 0 0 3 0 0)),(3,.c (.gs 1 0)),(11,.c (.int .i64 2)),nt 12 i] [zb 2 4 p,zG 2,gq (gwl 2 i 0 0) (A 0),gq (gwl 2 i 0 1) (A 1)],Weak.gen [some 0,some 1,some 2,some 3] rfl ⟨Rf.boxK rfl rfl,zk2 rfl,rs rfl,rs rfl,trivial⟩ ⟨⟨_,rfl,rfl,rfl⟩,⟨_,rfl,rfl,rfl⟩,⟨_,rfl,rfl⟩,⟨_,rfl,rfl⟩,trivial⟩,?_⟩
  refine swp_mid (fun _:Unit=>gst [(1,.c (.p 0 0 3 0 0)),(3,.c (.gs 1 0)),(11,.c (.int .i64 2)),nt 12 i] [zb 2 4 p,zG 2,gq (gwl 2 (i+1) 0 0) (A 0),gq (gwl 2 (i+1) 0 1) (A 1)]) (fun _=>True) ?_ fun _ _=>?_
  rotate_left
  ·refine so1 ?_
   conv=>whnf
   repeat (refine⟨by first | exact r1 | exact r2 | exact r3 | exact ib rfl | exact ixl rfl,?_⟩;conv=>whnf)
   exact⟨i+1,by omega,Weak.gen [some 0,some 1,some 2,some 3] rfl ⟨Rf.boxK rfl rfl,zk2 rfl,rs rfl,rs rfl,trivial⟩ ⟨⟨_,rfl,rfl,rfl⟩,⟨_,rfl,rfl,rfl⟩,⟨_,rfl,rfl⟩,⟨_,rfl,rfl⟩,trivial⟩,ilt⟩
  refine swp_block ?_
  refine sq1 ?_
  conv=>whnf
  refine⟨gst [(1,.c (.p 0 0 3 0 0)),(3,.c (.gs 1 0)),(11,.c (.int .i64 2)),nt 12 i,nt 4 i] [zb 2 4 p,zG 2,gq (gwl 2 i 0 0) (A 0),gq (gwl 2 i 0 1) (A 1)],Weak.gen [some 0,some 1,some 2,some 3] rfl ⟨Rf.boxK rfl rfl,zk2 rfl,rs rfl,rs rfl,trivial⟩ ⟨⟨_,rfl,rfl,rfl⟩,⟨_,rfl,rfl,rfl⟩,⟨_,rfl,rfl⟩,⟨_,rfl,rfl⟩,⟨_,rfl,rfl⟩,trivial⟩,?_⟩
  refine sq1 ?_
  conv=>whnf
  repeat (refine⟨by first | exact r1 | exact r2 | exact r3 | exact ib rfl | exact ixl rfl,?_⟩;conv=>whnf)
  refine⟨(fun x:Nat=>gst [(1,.c (.p 0 0 3 0 0)),(3,.c (.gs 1 0)),(11,.c (.int .i64 2)),nt 12 i,nt 4 i,(26,.c (.row 4 2 (qlF fun k=>p (i*2+k)))),(27,.c (.int .i64 2)),nt 28 x] [zb 2 4 p,zG 2,gq (gwl 2 i x 0) (A 0),gq (gwl 2 i x 1) (A 1)]) 0,Weak.gen [some 0,some 1,some 2,some 3] rfl ⟨Rf.boxK rfl rfl,zk2 rfl,rs rfl,rs rfl,trivial⟩ ⟨⟨_,rfl,rfl,rfl⟩,⟨_,rfl,rfl,rfl⟩,⟨_,rfl,rfl⟩,⟨_,rfl,rfl⟩,⟨_,rfl,rfl⟩,.inl ⟨_,_,rfl,rfl,fun _ _ _ _=>rfl⟩,⟨_,rfl,rfl⟩,⟨_,rfl,rfl⟩,trivial⟩,?_⟩
  refine swp_block (swp_loop (fun x:Nat=>gst [(1,.c (.p 0 0 3 0 0)),(3,.c (.gs 1 0)),(11,.c (.int .i64 2)),nt 12 i,nt 4 i,(26,.c (.row 4 2 (qlF fun k=>p (i*2+k)))),(27,.c (.int .i64 2)),nt 28 x] [zb 2 4 p,zG 2,gq (gwl 2 i x 0) (A 0),gq (gwl 2 i x 1) (A 1)]) (fun x=>2-x) (fun x=>x≤2) 0 (Weak.refl _) (Nat.zero_le _) fun x hx=>?_)
  have hN:=hN x ilt
  have hx:x≤2:=hx
  have hj0:(0:Int)≤(x:Int):=by omega
  refine so1 ?_
  conv=>whnf
  refine bcase (fun(h:decide ((x:Int)<2)=true)=>?_) fun(h:decide ((x:Int)<2)=false)=>?_
  ·have h:=of_decide_eq_true h
   have hN:=hN (by omega)
   have hj1:(x:Int)<((2:Nat):Int):=by omega
   conv=>whnf
   repeat (refine⟨by first | exact hj0 | exact hj1 | exact ib rfl | exact ixl rfl,?_⟩;conv=>whnf)
   refine⟨_,hN,?_⟩
   conv=>whnf
   refine .inr ⟨rfl,?_⟩
   conv=>whnf
   refine⟨by show x+1≤16777216;omega,fun a b ha hb=>Rf.one_nq (A i x) true a b ha hb,?_⟩
   conv=>whnf
   repeat (refine⟨by first | exact r1 | exact r2 | exact r3 | exact ib rfl | exact ixl rfl,?_⟩;conv=>whnf)
   refine⟨i64_range (by omega) (by omega),?_⟩
   conv=>whnf
   exact⟨x+1,by omega,Weak.gen [some 0,some 1,some 2,some 3] rfl ⟨Rf.boxK rfl rfl,⟨_,rfl,rfl,rfl,rfl,rfl,cells2 ⟨_,rfl,rfl,rfl⟩ ⟨_,rfl,rfl,rfl⟩⟩,by first | exact rs rfl | exact⟨_,rfl,rfl,rfl,rfl,rfl,fun x y hx hy=>row_app hx hy⟩,by first | exact rs rfl | exact⟨_,rfl,rfl,rfl,rfl,rfl,fun x y hx hy=>row_app hx hy⟩,trivial⟩ ⟨⟨_,rfl,rfl,rfl⟩,⟨_,rfl,rfl,rfl⟩,⟨_,rfl,rfl⟩,⟨_,rfl,rfl⟩,⟨_,rfl,rfl⟩,.inl ⟨_,_,rfl,rfl,fun _ _ _ _=>rfl⟩,⟨_,rfl,rfl⟩,⟨_,rfl,rfl⟩,trivial⟩,by show x+1≤2;omega⟩
  ·have h:=of_decide_eq_false h
   obtain rfl:x=2:=by omega
   conv=>whnf
   exact⟨(),trivial,Weak.gen [some 0,some 1,some 2,some 3] rfl ⟨Rf.boxK rfl rfl,zk2 rfl,rs rfl,rs rfl,trivial⟩ ⟨⟨_,rfl,rfl,rfl⟩,⟨_,rfl,rfl,rfl⟩,⟨_,rfl,rfl⟩,⟨_,rfl,rfl⟩,trivial⟩⟩)
set_option maxRecDepth 100000 in
theorem grid_3 {p:Nat->RawR} {A:Nat->Nat->Rat} {L:Nat} (hp:∀ k,k<9->(p k).Fit L) (hL:L+3≤LIM) (hA:∀ i j,i<3->j<3->(p (i*3+j)).val=A i j):FnT Tryz.prog true 39 0 [] [.g [.int .i64 3,.int .i64 3,ql 9 p]] (.c (.gs 0 0)) ((R3 A).map gb):=by
 have hN:∀ i j,i<3->j<3->FnOK Tryz.prog true 73 [.g (rr (p (i*3+j)))] (.g (nq (A i j))):=fun i j hi hj=>by
  have:=qnormal_ok (hp (i*3+j) (by omega)) hL
  rwa [hA i j hi hj]at this
 clear hp hL hA
 refine fnt_okS (E:=E1) E1_ok Tryz.func39 rfl (by kernel_rfl) ?_
 refine sq1 ?_
 conv=>whnf
 refine⟨gst [(1,.c (.p 0 0 3 0 0))] [zb 3 9 p],Weak.gen [some 0] rfl ⟨Rf.boxK rfl rfl,trivial⟩ ⟨⟨_,rfl,rfl,rfl⟩,trivial⟩,?_⟩
 refine sq1 ?_
 conv=>whnf
 refine⟨by decide,by decide,by decide,by decide,?_⟩
 conv=>whnf
 refine⟨gst [(1,.c (.p 0 0 3 0 0)),(3,.c (.gs 1 0))] [zb 3 9 p,zG 3,gq (gwl 3 0 0 0) (A 0),gq (gwl 3 0 0 1) (A 1),gq (gwl 3 0 0 2) (A 2)],Weak.gen [some 0,some 1,none,none,none] rfl ⟨Rf.boxK rfl rfl,⟨_,rfl,rfl,rfl,rfl,rfl,cells3 rfl rfl rfl⟩,rfl,rfl,rfl,trivial⟩ ⟨⟨_,rfl,rfl,rfl⟩,⟨_,rfl,rfl,rfl⟩,trivial⟩,?_⟩
 refine swp_mid (fun _:Unit=>gst [(3,.c (.gs 1 0))] [zb 3 9 p,zG 3,gq 3 (A 0),gq 3 (A 1),gq 3 (A 2)]) (fun _=>True) ?_ fun _ _=>?_
 rotate_left
 ·refine so1 ?_
  conv=>whnf
  exact Weak.gen (tl:=[(0,.c (.gs 0 0))]) (xs:=R3 A) [some 1,some 2,some 3,some 4] rfl ⟨⟨_,rfl,rfl,rfl,rfl,rfl,cells3 ⟨_,rfl,rfl,rfl⟩ ⟨_,rfl,rfl,rfl⟩ ⟨_,rfl,rfl,rfl⟩⟩,rs rfl,rs rfl,rs rfl,trivial⟩ ⟨⟨_,rfl,rfl,rfl⟩,trivial⟩
 refine sq1 ?_
 conv=>whnf
 refine⟨(fun i:Nat=>gst [(1,.c (.p 0 0 3 0 0)),(3,.c (.gs 1 0)),(11,.c (.int .i64 3)),nt 12 i] [zb 3 9 p,zG 3,gq (gwl 3 i 0 0) (A 0),gq (gwl 3 i 0 1) (A 1),gq (gwl 3 i 0 2) (A 2)]) 0,Weak.gen [some 0,some 1,some 2,some 3,some 4] rfl ⟨Rf.boxK rfl rfl,zk3 rfl,rs rfl,rs rfl,rs rfl,trivial⟩ ⟨⟨_,rfl,rfl,rfl⟩,⟨_,rfl,rfl,rfl⟩,⟨_,rfl,rfl⟩,⟨_,rfl,rfl⟩,trivial⟩,?_⟩
 refine swp_block (swp_loop (fun i:Nat=>gst [(1,.c (.p 0 0 3 0 0)),(3,.c (.gs 1 0)),(11,.c (.int .i64 3)),nt 12 i] [zb 3 9 p,zG 3,gq (gwl 3 i 0 0) (A 0),gq (gwl 3 i 0 1) (A 1),gq (gwl 3 i 0 2) (A 2)]) (fun i=>4-i) (fun i=>i≤3) 0 (Weak.refl _) (Nat.zero_le _) fun i hi=>?_)
 rcases Nat.lt_or_ge i 3 with ilt | ige
 rotate_left
 ·obtain rfl:i=3:=Nat.le_antisymm hi ige
  refine so1 ?_
  conv=>whnf
  exact⟨(),trivial,Weak.gen [some 0,some 1,some 2,some 3,some 4] rfl ⟨Rf.boxK rfl rfl,zk3 rfl,rs rfl,rs rfl,rs rfl,trivial⟩ ⟨⟨_,rfl,rfl,rfl⟩,trivial⟩⟩
 have e:i=0∨i=1∨i=2:=by omega
 have F:_/\_/\_/\_/\_:=⟨ilt,hN i,(i64_range (by omega) (by omega):inR .i64 (((i:Nat):Int)*3)),(i64_range (by omega) (by omega):inR .i64 (((i:Nat):Int)+1)),(i64_range (by omega) (by omega):inR .i64 ((((i:Nat):Int)+1)*3))⟩
 clear hi ilt hN
 revert F
 rcases e with e | e | e <;> (
  apply lets e
  intro i F
  obtain⟨ilt,hN,r1,r2,r3⟩:=F
  refine swp_seq0 E1_ok mixed (by kernel_rfl) ?_
  conv=>whnf
  refine sq1 ?_
  conv=>whnf
  refine⟨gst [(1,.c (.p 0 0 3 0 0)),(3,.c (.gs 1 0)),(11,.c (.int .i64 3)),nt 12 i] [zb 3 9 p,zG 3,gq (gwl 3 i 0 0) (A 0),gq (gwl 3 i 0 1) (A 1),gq (gwl 3 i 0 2) (A 2)],Weak.gen [some 0,some 1,some 2,some 3,some 4] rfl ⟨Rf.boxK rfl rfl,zk3 rfl,rs rfl,rs rfl,rs rfl,trivial⟩ ⟨⟨_,rfl,rfl,rfl⟩,⟨_,rfl,rfl,rfl⟩,⟨_,rfl,rfl⟩,⟨_,rfl,rfl⟩,trivial⟩,?_⟩
  refine swp_mid (fun _:Unit=>gst [(1,.c (.p 0 0 3 0 0)),(3,.c (.gs 1 0)),(11,.c (.int .i64 3)),nt 12 i] [zb 3 9 p,zG 3,gq (gwl 3 (i+1) 0 0) (A 0),gq (gwl 3 (i+1) 0 1) (A 1),gq (gwl 3 (i+1) 0 2) (A 2)]) (fun _=>True) ?_ fun _ _=>?_
  rotate_left
  ·refine so1 ?_
   conv=>whnf
   repeat (refine⟨by first | exact r1 | exact r2 | exact r3 | exact ib rfl | exact ixl rfl,?_⟩;conv=>whnf)
   exact⟨i+1,by omega,Weak.gen [some 0,some 1,some 2,some 3,some 4] rfl ⟨Rf.boxK rfl rfl,zk3 rfl,rs rfl,rs rfl,rs rfl,trivial⟩ ⟨⟨_,rfl,rfl,rfl⟩,⟨_,rfl,rfl,rfl⟩,⟨_,rfl,rfl⟩,⟨_,rfl,rfl⟩,trivial⟩,ilt⟩
  refine swp_block ?_
  refine sq1 ?_
  conv=>whnf
  refine⟨gst [(1,.c (.p 0 0 3 0 0)),(3,.c (.gs 1 0)),(11,.c (.int .i64 3)),nt 12 i,nt 4 i] [zb 3 9 p,zG 3,gq (gwl 3 i 0 0) (A 0),gq (gwl 3 i 0 1) (A 1),gq (gwl 3 i 0 2) (A 2)],Weak.gen [some 0,some 1,some 2,some 3,some 4] rfl ⟨Rf.boxK rfl rfl,zk3 rfl,rs rfl,rs rfl,rs rfl,trivial⟩ ⟨⟨_,rfl,rfl,rfl⟩,⟨_,rfl,rfl,rfl⟩,⟨_,rfl,rfl⟩,⟨_,rfl,rfl⟩,⟨_,rfl,rfl⟩,trivial⟩,?_⟩
  refine sq1 ?_
  conv=>whnf
  repeat (refine⟨by first | exact r1 | exact r2 | exact r3 | exact ib rfl | exact ixl rfl,?_⟩;conv=>whnf)
  refine⟨(fun x:Nat=>gst [(1,.c (.p 0 0 3 0 0)),(3,.c (.gs 1 0)),(11,.c (.int .i64 3)),nt 12 i,nt 4 i,(26,.c (.row 4 3 (qlF fun k=>p (i*3+k)))),(27,.c (.int .i64 3)),nt 28 x] [zb 3 9 p,zG 3,gq (gwl 3 i x 0) (A 0),gq (gwl 3 i x 1) (A 1),gq (gwl 3 i x 2) (A 2)]) 0,Weak.gen [some 0,some 1,some 2,some 3,some 4] rfl ⟨Rf.boxK rfl rfl,zk3 rfl,rs rfl,rs rfl,rs rfl,trivial⟩ ⟨⟨_,rfl,rfl,rfl⟩,⟨_,rfl,rfl,rfl⟩,⟨_,rfl,rfl⟩,⟨_,rfl,rfl⟩,⟨_,rfl,rfl⟩,.inl ⟨_,_,rfl,rfl,fun _ _ _ _=>rfl⟩,⟨_,rfl,rfl⟩,⟨_,rfl,rfl⟩,trivial⟩,?_⟩
  refine swp_block (swp_loop (fun x:Nat=>gst [(1,.c (.p 0 0 3 0 0)),(3,.c (.gs 1 0)),(11,.c (.int .i64 3)),nt 12 i,nt 4 i,(26,.c (.row 4 3 (qlF fun k=>p (i*3+k)))),(27,.c (.int .i64 3)),nt 28 x] [zb 3 9 p,zG 3,gq (gwl 3 i x 0) (A 0),gq (gwl 3 i x 1) (A 1),gq (gwl 3 i x 2) (A 2)]) (fun x=>3-x) (fun x=>x≤3) 0 (Weak.refl _) (Nat.zero_le _) fun x hx=>?_)
  have hN:=hN x ilt
  have hx:x≤3:=hx
  have hj0:(0:Int)≤(x:Int):=by omega
  refine so1 ?_
  conv=>whnf
  refine bcase (fun(h:decide ((x:Int)<3)=true)=>?_) fun(h:decide ((x:Int)<3)=false)=>?_
  ·have h:=of_decide_eq_true h
   have hN:=hN (by omega)
   have hj1:(x:Int)<((3:Nat):Int):=by omega
   conv=>whnf
   repeat (refine⟨by first | exact hj0 | exact hj1 | exact ib rfl | exact ixl rfl,?_⟩;conv=>whnf)
   refine⟨_,hN,?_⟩
   conv=>whnf
   refine .inr ⟨rfl,?_⟩
   conv=>whnf
   refine⟨by show x+1≤16777216;omega,fun a b ha hb=>Rf.one_nq (A i x) true a b ha hb,?_⟩
   conv=>whnf
   repeat (refine⟨by first | exact r1 | exact r2 | exact r3 | exact ib rfl | exact ixl rfl,?_⟩;conv=>whnf)
   refine⟨i64_range (by omega) (by omega),?_⟩
   conv=>whnf
   exact⟨x+1,by omega,Weak.gen [some 0,some 1,some 2,some 3,some 4] rfl ⟨Rf.boxK rfl rfl,⟨_,rfl,rfl,rfl,rfl,rfl,cells3 ⟨_,rfl,rfl,rfl⟩ ⟨_,rfl,rfl,rfl⟩ ⟨_,rfl,rfl,rfl⟩⟩,by first | exact rs rfl | exact⟨_,rfl,rfl,rfl,rfl,rfl,fun x y hx hy=>row_app hx hy⟩,by first | exact rs rfl | exact⟨_,rfl,rfl,rfl,rfl,rfl,fun x y hx hy=>row_app hx hy⟩,by first | exact rs rfl | exact⟨_,rfl,rfl,rfl,rfl,rfl,fun x y hx hy=>row_app hx hy⟩,trivial⟩ ⟨⟨_,rfl,rfl,rfl⟩,⟨_,rfl,rfl,rfl⟩,⟨_,rfl,rfl⟩,⟨_,rfl,rfl⟩,⟨_,rfl,rfl⟩,.inl ⟨_,_,rfl,rfl,fun _ _ _ _=>rfl⟩,⟨_,rfl,rfl⟩,⟨_,rfl,rfl⟩,trivial⟩,by show x+1≤3;omega⟩
  ·have h:=of_decide_eq_false h
   obtain rfl:x=3:=by omega
   conv=>whnf
   exact⟨(),trivial,Weak.gen [some 0,some 1,some 2,some 3,some 4] rfl ⟨Rf.boxK rfl rfl,zk3 rfl,rs rfl,rs rfl,rs rfl,trivial⟩ ⟨⟨_,rfl,rfl,rfl⟩,⟨_,rfl,rfl,rfl⟩,⟨_,rfl,rfl⟩,⟨_,rfl,rfl⟩,trivial⟩⟩)
set_option maxRecDepth 100000 in
theorem grid_4 {p:Nat->RawR} {A:Nat->Nat->Rat} {L:Nat} (hp:∀ k,k<16->(p k).Fit L) (hL:L+3≤LIM) (hA:∀ i j,i<4->j<4->(p (i*4+j)).val=A i j):FnT Tryz.prog true 39 0 [] [.g [.int .i64 4,.int .i64 4,ql 16 p]] (.c (.gs 0 0)) ((R4 A).map gb):=by
 have hN:∀ i j,i<4->j<4->FnOK Tryz.prog true 73 [.g (rr (p (i*4+j)))] (.g (nq (A i j))):=fun i j hi hj=>by
  have:=qnormal_ok (hp (i*4+j) (by omega)) hL
  rwa [hA i j hi hj]at this
 clear hp hL hA
 refine fnt_okS (E:=E1) E1_ok Tryz.func39 rfl (by kernel_rfl) ?_
 refine sq1 ?_
 conv=>whnf
 refine⟨gst [(1,.c (.p 0 0 3 0 0))] [zb 4 16 p],Weak.gen [some 0] rfl ⟨Rf.boxK rfl rfl,trivial⟩ ⟨⟨_,rfl,rfl,rfl⟩,trivial⟩,?_⟩
 refine sq1 ?_
 conv=>whnf
 refine⟨by decide,by decide,by decide,by decide,?_⟩
 conv=>whnf
 refine⟨gst [(1,.c (.p 0 0 3 0 0)),(3,.c (.gs 1 0))] [zb 4 16 p,zG 4,gq (gwl 4 0 0 0) (A 0),gq (gwl 4 0 0 1) (A 1),gq (gwl 4 0 0 2) (A 2),gq (gwl 4 0 0 3) (A 3)],Weak.gen [some 0,some 1,none,none,none,none] rfl ⟨Rf.boxK rfl rfl,⟨_,rfl,rfl,rfl,rfl,rfl,cells4 rfl rfl rfl rfl⟩,rfl,rfl,rfl,rfl,trivial⟩ ⟨⟨_,rfl,rfl,rfl⟩,⟨_,rfl,rfl,rfl⟩,trivial⟩,?_⟩
 refine swp_mid (fun _:Unit=>gst [(3,.c (.gs 1 0))] [zb 4 16 p,zG 4,gq 4 (A 0),gq 4 (A 1),gq 4 (A 2),gq 4 (A 3)]) (fun _=>True) ?_ fun _ _=>?_
 rotate_left
 ·refine so1 ?_
  conv=>whnf
  exact Weak.gen (tl:=[(0,.c (.gs 0 0))]) (xs:=R4 A) [some 1,some 2,some 3,some 4,some 5] rfl ⟨⟨_,rfl,rfl,rfl,rfl,rfl,cells4 ⟨_,rfl,rfl,rfl⟩ ⟨_,rfl,rfl,rfl⟩ ⟨_,rfl,rfl,rfl⟩ ⟨_,rfl,rfl,rfl⟩⟩,rs rfl,rs rfl,rs rfl,rs rfl,trivial⟩ ⟨⟨_,rfl,rfl,rfl⟩,trivial⟩
 refine sq1 ?_
 conv=>whnf
 refine⟨(fun i:Nat=>gst [(1,.c (.p 0 0 3 0 0)),(3,.c (.gs 1 0)),(11,.c (.int .i64 4)),nt 12 i] [zb 4 16 p,zG 4,gq (gwl 4 i 0 0) (A 0),gq (gwl 4 i 0 1) (A 1),gq (gwl 4 i 0 2) (A 2),gq (gwl 4 i 0 3) (A 3)]) 0,Weak.gen [some 0,some 1,some 2,some 3,some 4,some 5] rfl ⟨Rf.boxK rfl rfl,zk4 rfl,rs rfl,rs rfl,rs rfl,rs rfl,trivial⟩ ⟨⟨_,rfl,rfl,rfl⟩,⟨_,rfl,rfl,rfl⟩,⟨_,rfl,rfl⟩,⟨_,rfl,rfl⟩,trivial⟩,?_⟩
 refine swp_block (swp_loop (fun i:Nat=>gst [(1,.c (.p 0 0 3 0 0)),(3,.c (.gs 1 0)),(11,.c (.int .i64 4)),nt 12 i] [zb 4 16 p,zG 4,gq (gwl 4 i 0 0) (A 0),gq (gwl 4 i 0 1) (A 1),gq (gwl 4 i 0 2) (A 2),gq (gwl 4 i 0 3) (A 3)]) (fun i=>5-i) (fun i=>i≤4) 0 (Weak.refl _) (Nat.zero_le _) fun i hi=>?_)
 rcases Nat.lt_or_ge i 4 with ilt | ige
 rotate_left
 ·obtain rfl:i=4:=Nat.le_antisymm hi ige
  refine so1 ?_
  conv=>whnf
  exact⟨(),trivial,Weak.gen [some 0,some 1,some 2,some 3,some 4,some 5] rfl ⟨Rf.boxK rfl rfl,zk4 rfl,rs rfl,rs rfl,rs rfl,rs rfl,trivial⟩ ⟨⟨_,rfl,rfl,rfl⟩,trivial⟩⟩
 have e:i=0∨i=1∨i=2∨i=3:=by omega
 have F:_/\_/\_/\_/\_:=⟨ilt,hN i,(i64_range (by omega) (by omega):inR .i64 (((i:Nat):Int)*4)),(i64_range (by omega) (by omega):inR .i64 (((i:Nat):Int)+1)),(i64_range (by omega) (by omega):inR .i64 ((((i:Nat):Int)+1)*4))⟩
 clear hi ilt hN
 revert F
 rcases e with e | e | e | e <;> (
  apply lets e
  intro i F
  obtain⟨ilt,hN,r1,r2,r3⟩:=F
  refine swp_seq0 E1_ok mixed (by kernel_rfl) ?_
  conv=>whnf
  refine sq1 ?_
  conv=>whnf
  refine⟨gst [(1,.c (.p 0 0 3 0 0)),(3,.c (.gs 1 0)),(11,.c (.int .i64 4)),nt 12 i] [zb 4 16 p,zG 4,gq (gwl 4 i 0 0) (A 0),gq (gwl 4 i 0 1) (A 1),gq (gwl 4 i 0 2) (A 2),gq (gwl 4 i 0 3) (A 3)],Weak.gen [some 0,some 1,some 2,some 3,some 4,some 5] rfl ⟨Rf.boxK rfl rfl,zk4 rfl,rs rfl,rs rfl,rs rfl,rs rfl,trivial⟩ ⟨⟨_,rfl,rfl,rfl⟩,⟨_,rfl,rfl,rfl⟩,⟨_,rfl,rfl⟩,⟨_,rfl,rfl⟩,trivial⟩,?_⟩
  refine swp_mid (fun _:Unit=>gst [(1,.c (.p 0 0 3 0 0)),(3,.c (.gs 1 0)),(11,.c (.int .i64 4)),nt 12 i] [zb 4 16 p,zG 4,gq (gwl 4 (i+1) 0 0) (A 0),gq (gwl 4 (i+1) 0 1) (A 1),gq (gwl 4 (i+1) 0 2) (A 2),gq (gwl 4 (i+1) 0 3) (A 3)]) (fun _=>True) ?_ fun _ _=>?_
  rotate_left
  ·refine so1 ?_
   conv=>whnf
   repeat (refine⟨by first | exact r1 | exact r2 | exact r3 | exact ib rfl | exact ixl rfl,?_⟩;conv=>whnf)
   exact⟨i+1,by omega,Weak.gen [some 0,some 1,some 2,some 3,some 4,some 5] rfl ⟨Rf.boxK rfl rfl,zk4 rfl,rs rfl,rs rfl,rs rfl,rs rfl,trivial⟩ ⟨⟨_,rfl,rfl,rfl⟩,⟨_,rfl,rfl,rfl⟩,⟨_,rfl,rfl⟩,⟨_,rfl,rfl⟩,trivial⟩,ilt⟩
  refine swp_block ?_
  refine sq1 ?_
  conv=>whnf
  refine⟨gst [(1,.c (.p 0 0 3 0 0)),(3,.c (.gs 1 0)),(11,.c (.int .i64 4)),nt 12 i,nt 4 i] [zb 4 16 p,zG 4,gq (gwl 4 i 0 0) (A 0),gq (gwl 4 i 0 1) (A 1),gq (gwl 4 i 0 2) (A 2),gq (gwl 4 i 0 3) (A 3)],Weak.gen [some 0,some 1,some 2,some 3,some 4,some 5] rfl ⟨Rf.boxK rfl rfl,zk4 rfl,rs rfl,rs rfl,rs rfl,rs rfl,trivial⟩ ⟨⟨_,rfl,rfl,rfl⟩,⟨_,rfl,rfl,rfl⟩,⟨_,rfl,rfl⟩,⟨_,rfl,rfl⟩,⟨_,rfl,rfl⟩,trivial⟩,?_⟩
  refine sq1 ?_
  conv=>whnf
  repeat (refine⟨by first | exact r1 | exact r2 | exact r3 | exact ib rfl | exact ixl rfl,?_⟩;conv=>whnf)
  refine⟨(fun x:Nat=>gst [(1,.c (.p 0 0 3 0 0)),(3,.c (.gs 1 0)),(11,.c (.int .i64 4)),nt 12 i,nt 4 i,(26,.c (.row 4 4 (qlF fun k=>p (i*4+k)))),(27,.c (.int .i64 4)),nt 28 x] [zb 4 16 p,zG 4,gq (gwl 4 i x 0) (A 0),gq (gwl 4 i x 1) (A 1),gq (gwl 4 i x 2) (A 2),gq (gwl 4 i x 3) (A 3)]) 0,Weak.gen [some 0,some 1,some 2,some 3,some 4,some 5] rfl ⟨Rf.boxK rfl rfl,zk4 rfl,rs rfl,rs rfl,rs rfl,rs rfl,trivial⟩ ⟨⟨_,rfl,rfl,rfl⟩,⟨_,rfl,rfl,rfl⟩,⟨_,rfl,rfl⟩,⟨_,rfl,rfl⟩,⟨_,rfl,rfl⟩,.inl ⟨_,_,rfl,rfl,fun _ _ _ _=>rfl⟩,⟨_,rfl,rfl⟩,⟨_,rfl,rfl⟩,trivial⟩,?_⟩
  refine swp_block (swp_loop (fun x:Nat=>gst [(1,.c (.p 0 0 3 0 0)),(3,.c (.gs 1 0)),(11,.c (.int .i64 4)),nt 12 i,nt 4 i,(26,.c (.row 4 4 (qlF fun k=>p (i*4+k)))),(27,.c (.int .i64 4)),nt 28 x] [zb 4 16 p,zG 4,gq (gwl 4 i x 0) (A 0),gq (gwl 4 i x 1) (A 1),gq (gwl 4 i x 2) (A 2),gq (gwl 4 i x 3) (A 3)]) (fun x=>4-x) (fun x=>x≤4) 0 (Weak.refl _) (Nat.zero_le _) fun x hx=>?_)
  have hN:=hN x ilt
  have hx:x≤4:=hx
  have hj0:(0:Int)≤(x:Int):=by omega
  refine so1 ?_
  conv=>whnf
  refine bcase (fun(h:decide ((x:Int)<4)=true)=>?_) fun(h:decide ((x:Int)<4)=false)=>?_
  ·have h:=of_decide_eq_true h
   have hN:=hN (by omega)
   have hj1:(x:Int)<((4:Nat):Int):=by omega
   conv=>whnf
   repeat (refine⟨by first | exact hj0 | exact hj1 | exact ib rfl | exact ixl rfl,?_⟩;conv=>whnf)
   refine⟨_,hN,?_⟩
   conv=>whnf
   refine .inr ⟨rfl,?_⟩
   conv=>whnf
   refine⟨by show x+1≤16777216;omega,fun a b ha hb=>Rf.one_nq (A i x) true a b ha hb,?_⟩
   conv=>whnf
   repeat (refine⟨by first | exact r1 | exact r2 | exact r3 | exact ib rfl | exact ixl rfl,?_⟩;conv=>whnf)
   refine⟨i64_range (by omega) (by omega),?_⟩
   conv=>whnf
   exact⟨x+1,by omega,Weak.gen [some 0,some 1,some 2,some 3,some 4,some 5] rfl ⟨Rf.boxK rfl rfl,⟨_,rfl,rfl,rfl,rfl,rfl,cells4 ⟨_,rfl,rfl,rfl⟩ ⟨_,rfl,rfl,rfl⟩ ⟨_,rfl,rfl,rfl⟩ ⟨_,rfl,rfl,rfl⟩⟩,by first | exact rs rfl | exact⟨_,rfl,rfl,rfl,rfl,rfl,fun x y hx hy=>row_app hx hy⟩,by first | exact rs rfl | exact⟨_,rfl,rfl,rfl,rfl,rfl,fun x y hx hy=>row_app hx hy⟩,by first | exact rs rfl | exact⟨_,rfl,rfl,rfl,rfl,rfl,fun x y hx hy=>row_app hx hy⟩,by first | exact rs rfl | exact⟨_,rfl,rfl,rfl,rfl,rfl,fun x y hx hy=>row_app hx hy⟩,trivial⟩ ⟨⟨_,rfl,rfl,rfl⟩,⟨_,rfl,rfl,rfl⟩,⟨_,rfl,rfl⟩,⟨_,rfl,rfl⟩,⟨_,rfl,rfl⟩,.inl ⟨_,_,rfl,rfl,fun _ _ _ _=>rfl⟩,⟨_,rfl,rfl⟩,⟨_,rfl,rfl⟩,trivial⟩,by show x+1≤4;omega⟩
  ·have h:=of_decide_eq_false h
   obtain rfl:x=4:=by omega
   conv=>whnf
   exact⟨(),trivial,Weak.gen [some 0,some 1,some 2,some 3,some 4,some 5] rfl ⟨Rf.boxK rfl rfl,zk4 rfl,rs rfl,rs rfl,rs rfl,rs rfl,trivial⟩ ⟨⟨_,rfl,rfl,rfl⟩,⟨_,rfl,rfl,rfl⟩,⟨_,rfl,rfl⟩,⟨_,rfl,rfl⟩,trivial⟩⟩)
set_option maxRecDepth 100000 in
theorem grid_5 {p:Nat->RawR} {A:Nat->Nat->Rat} {L:Nat} (hp:∀ k,k<25->(p k).Fit L) (hL:L+3≤LIM) (hA:∀ i j,i<5->j<5->(p (i*5+j)).val=A i j):FnT Tryz.prog true 39 0 [] [.g [.int .i64 5,.int .i64 5,ql 25 p]] (.c (.gs 0 0)) ((R5 A).map gb):=by
 have hN:∀ i j,i<5->j<5->FnOK Tryz.prog true 73 [.g (rr (p (i*5+j)))] (.g (nq (A i j))):=fun i j hi hj=>by
  have:=qnormal_ok (hp (i*5+j) (by omega)) hL
  rwa [hA i j hi hj]at this
 clear hp hL hA
 refine fnt_okS (E:=E1) E1_ok Tryz.func39 rfl (by kernel_rfl) ?_
 refine sq1 ?_
 conv=>whnf
 refine⟨gst [(1,.c (.p 0 0 3 0 0))] [zb 5 25 p],Weak.gen [some 0] rfl ⟨Rf.boxK rfl rfl,trivial⟩ ⟨⟨_,rfl,rfl,rfl⟩,trivial⟩,?_⟩
 refine sq1 ?_
 conv=>whnf
 refine⟨by decide,by decide,by decide,by decide,?_⟩
 conv=>whnf
 refine⟨gst [(1,.c (.p 0 0 3 0 0)),(3,.c (.gs 1 0))] [zb 5 25 p,zG 5,gq (gwl 5 0 0 0) (A 0),gq (gwl 5 0 0 1) (A 1),gq (gwl 5 0 0 2) (A 2),gq (gwl 5 0 0 3) (A 3),gq (gwl 5 0 0 4) (A 4)],Weak.gen [some 0,some 1,none,none,none,none,none] rfl ⟨Rf.boxK rfl rfl,⟨_,rfl,rfl,rfl,rfl,rfl,cells5 rfl rfl rfl rfl rfl⟩,rfl,rfl,rfl,rfl,rfl,trivial⟩ ⟨⟨_,rfl,rfl,rfl⟩,⟨_,rfl,rfl,rfl⟩,trivial⟩,?_⟩
 refine swp_mid (fun _:Unit=>gst [(3,.c (.gs 1 0))] [zb 5 25 p,zG 5,gq 5 (A 0),gq 5 (A 1),gq 5 (A 2),gq 5 (A 3),gq 5 (A 4)]) (fun _=>True) ?_ fun _ _=>?_
 rotate_left
 ·refine so1 ?_
  conv=>whnf
  exact Weak.gen (tl:=[(0,.c (.gs 0 0))]) (xs:=R5 A) [some 1,some 2,some 3,some 4,some 5,some 6] rfl ⟨⟨_,rfl,rfl,rfl,rfl,rfl,cells5 ⟨_,rfl,rfl,rfl⟩ ⟨_,rfl,rfl,rfl⟩ ⟨_,rfl,rfl,rfl⟩ ⟨_,rfl,rfl,rfl⟩ ⟨_,rfl,rfl,rfl⟩⟩,rs rfl,rs rfl,rs rfl,rs rfl,rs rfl,trivial⟩ ⟨⟨_,rfl,rfl,rfl⟩,trivial⟩
 refine sq1 ?_
 conv=>whnf
 refine⟨(fun i:Nat=>gst [(1,.c (.p 0 0 3 0 0)),(3,.c (.gs 1 0)),(11,.c (.int .i64 5)),nt 12 i] [zb 5 25 p,zG 5,gq (gwl 5 i 0 0) (A 0),gq (gwl 5 i 0 1) (A 1),gq (gwl 5 i 0 2) (A 2),gq (gwl 5 i 0 3) (A 3),gq (gwl 5 i 0 4) (A 4)]) 0,Weak.gen [some 0,some 1,some 2,some 3,some 4,some 5,some 6] rfl ⟨Rf.boxK rfl rfl,zk5 rfl,rs rfl,rs rfl,rs rfl,rs rfl,rs rfl,trivial⟩ ⟨⟨_,rfl,rfl,rfl⟩,⟨_,rfl,rfl,rfl⟩,⟨_,rfl,rfl⟩,⟨_,rfl,rfl⟩,trivial⟩,?_⟩
 refine swp_block (swp_loop (fun i:Nat=>gst [(1,.c (.p 0 0 3 0 0)),(3,.c (.gs 1 0)),(11,.c (.int .i64 5)),nt 12 i] [zb 5 25 p,zG 5,gq (gwl 5 i 0 0) (A 0),gq (gwl 5 i 0 1) (A 1),gq (gwl 5 i 0 2) (A 2),gq (gwl 5 i 0 3) (A 3),gq (gwl 5 i 0 4) (A 4)]) (fun i=>6-i) (fun i=>i≤5) 0 (Weak.refl _) (Nat.zero_le _) fun i hi=>?_)
 rcases Nat.lt_or_ge i 5 with ilt | ige
 rotate_left
 ·obtain rfl:i=5:=Nat.le_antisymm hi ige
  refine so1 ?_
  conv=>whnf
  exact⟨(),trivial,Weak.gen [some 0,some 1,some 2,some 3,some 4,some 5,some 6] rfl ⟨Rf.boxK rfl rfl,zk5 rfl,rs rfl,rs rfl,rs rfl,rs rfl,rs rfl,trivial⟩ ⟨⟨_,rfl,rfl,rfl⟩,trivial⟩⟩
 have e:i=0∨i=1∨i=2∨i=3∨i=4:=by omega
 have F:_/\_/\_/\_/\_:=⟨ilt,hN i,(i64_range (by omega) (by omega):inR .i64 (((i:Nat):Int)*5)),(i64_range (by omega) (by omega):inR .i64 (((i:Nat):Int)+1)),(i64_range (by omega) (by omega):inR .i64 ((((i:Nat):Int)+1)*5))⟩
 clear hi ilt hN
 revert F
 rcases e with e | e | e | e | e <;> (
  apply lets e
  intro i F
  obtain⟨ilt,hN,r1,r2,r3⟩:=F
  refine swp_seq0 E1_ok mixed (by kernel_rfl) ?_
  conv=>whnf
  refine sq1 ?_
  conv=>whnf
  refine⟨gst [(1,.c (.p 0 0 3 0 0)),(3,.c (.gs 1 0)),(11,.c (.int .i64 5)),nt 12 i] [zb 5 25 p,zG 5,gq (gwl 5 i 0 0) (A 0),gq (gwl 5 i 0 1) (A 1),gq (gwl 5 i 0 2) (A 2),gq (gwl 5 i 0 3) (A 3),gq (gwl 5 i 0 4) (A 4)],Weak.gen [some 0,some 1,some 2,some 3,some 4,some 5,some 6] rfl ⟨Rf.boxK rfl rfl,zk5 rfl,rs rfl,rs rfl,rs rfl,rs rfl,rs rfl,trivial⟩ ⟨⟨_,rfl,rfl,rfl⟩,⟨_,rfl,rfl,rfl⟩,⟨_,rfl,rfl⟩,⟨_,rfl,rfl⟩,trivial⟩,?_⟩
  refine swp_mid (fun _:Unit=>gst [(1,.c (.p 0 0 3 0 0)),(3,.c (.gs 1 0)),(11,.c (.int .i64 5)),nt 12 i] [zb 5 25 p,zG 5,gq (gwl 5 (i+1) 0 0) (A 0),gq (gwl 5 (i+1) 0 1) (A 1),gq (gwl 5 (i+1) 0 2) (A 2),gq (gwl 5 (i+1) 0 3) (A 3),gq (gwl 5 (i+1) 0 4) (A 4)]) (fun _=>True) ?_ fun _ _=>?_
  rotate_left
  ·refine so1 ?_
   conv=>whnf
   repeat (refine⟨by first | exact r1 | exact r2 | exact r3 | exact ib rfl | exact ixl rfl,?_⟩;conv=>whnf)
   exact⟨i+1,by omega,Weak.gen [some 0,some 1,some 2,some 3,some 4,some 5,some 6] rfl ⟨Rf.boxK rfl rfl,zk5 rfl,rs rfl,rs rfl,rs rfl,rs rfl,rs rfl,trivial⟩ ⟨⟨_,rfl,rfl,rfl⟩,⟨_,rfl,rfl,rfl⟩,⟨_,rfl,rfl⟩,⟨_,rfl,rfl⟩,trivial⟩,ilt⟩
  refine swp_block ?_
  refine sq1 ?_
  conv=>whnf
  refine⟨gst [(1,.c (.p 0 0 3 0 0)),(3,.c (.gs 1 0)),(11,.c (.int .i64 5)),nt 12 i,nt 4 i] [zb 5 25 p,zG 5,gq (gwl 5 i 0 0) (A 0),gq (gwl 5 i 0 1) (A 1),gq (gwl 5 i 0 2) (A 2),gq (gwl 5 i 0 3) (A 3),gq (gwl 5 i 0 4) (A 4)],Weak.gen [some 0,some 1,some 2,some 3,some 4,some 5,some 6] rfl ⟨Rf.boxK rfl rfl,zk5 rfl,rs rfl,rs rfl,rs rfl,rs rfl,rs rfl,trivial⟩ ⟨⟨_,rfl,rfl,rfl⟩,⟨_,rfl,rfl,rfl⟩,⟨_,rfl,rfl⟩,⟨_,rfl,rfl⟩,⟨_,rfl,rfl⟩,trivial⟩,?_⟩
  refine sq1 ?_
  conv=>whnf
  repeat (refine⟨by first | exact r1 | exact r2 | exact r3 | exact ib rfl | exact ixl rfl,?_⟩;conv=>whnf)
  refine⟨(fun x:Nat=>gst [(1,.c (.p 0 0 3 0 0)),(3,.c (.gs 1 0)),(11,.c (.int .i64 5)),nt 12 i,nt 4 i,(26,.c (.row 4 5 (qlF fun k=>p (i*5+k)))),(27,.c (.int .i64 5)),nt 28 x] [zb 5 25 p,zG 5,gq (gwl 5 i x 0) (A 0),gq (gwl 5 i x 1) (A 1),gq (gwl 5 i x 2) (A 2),gq (gwl 5 i x 3) (A 3),gq (gwl 5 i x 4) (A 4)]) 0,Weak.gen [some 0,some 1,some 2,some 3,some 4,some 5,some 6] rfl ⟨Rf.boxK rfl rfl,zk5 rfl,rs rfl,rs rfl,rs rfl,rs rfl,rs rfl,trivial⟩ ⟨⟨_,rfl,rfl,rfl⟩,⟨_,rfl,rfl,rfl⟩,⟨_,rfl,rfl⟩,⟨_,rfl,rfl⟩,⟨_,rfl,rfl⟩,.inl ⟨_,_,rfl,rfl,fun _ _ _ _=>rfl⟩,⟨_,rfl,rfl⟩,⟨_,rfl,rfl⟩,trivial⟩,?_⟩
  refine swp_block (swp_loop (fun x:Nat=>gst [(1,.c (.p 0 0 3 0 0)),(3,.c (.gs 1 0)),(11,.c (.int .i64 5)),nt 12 i,nt 4 i,(26,.c (.row 4 5 (qlF fun k=>p (i*5+k)))),(27,.c (.int .i64 5)),nt 28 x] [zb 5 25 p,zG 5,gq (gwl 5 i x 0) (A 0),gq (gwl 5 i x 1) (A 1),gq (gwl 5 i x 2) (A 2),gq (gwl 5 i x 3) (A 3),gq (gwl 5 i x 4) (A 4)]) (fun x=>5-x) (fun x=>x≤5) 0 (Weak.refl _) (Nat.zero_le _) fun x hx=>?_)
  have hN:=hN x ilt
  have hx:x≤5:=hx
  have hj0:(0:Int)≤(x:Int):=by omega
  refine so1 ?_
  conv=>whnf
  refine bcase (fun(h:decide ((x:Int)<5)=true)=>?_) fun(h:decide ((x:Int)<5)=false)=>?_
  ·have h:=of_decide_eq_true h
   have hN:=hN (by omega)
   have hj1:(x:Int)<((5:Nat):Int):=by omega
   conv=>whnf
   repeat (refine⟨by first | exact hj0 | exact hj1 | exact ib rfl | exact ixl rfl,?_⟩;conv=>whnf)
   refine⟨_,hN,?_⟩
   conv=>whnf
   refine .inr ⟨rfl,?_⟩
   conv=>whnf
   refine⟨by show x+1≤16777216;omega,fun a b ha hb=>Rf.one_nq (A i x) true a b ha hb,?_⟩
   conv=>whnf
   repeat (refine⟨by first | exact r1 | exact r2 | exact r3 | exact ib rfl | exact ixl rfl,?_⟩;conv=>whnf)
   refine⟨i64_range (by omega) (by omega),?_⟩
   conv=>whnf
   exact⟨x+1,by omega,Weak.gen [some 0,some 1,some 2,some 3,some 4,some 5,some 6] rfl ⟨Rf.boxK rfl rfl,⟨_,rfl,rfl,rfl,rfl,rfl,cells5 ⟨_,rfl,rfl,rfl⟩ ⟨_,rfl,rfl,rfl⟩ ⟨_,rfl,rfl,rfl⟩ ⟨_,rfl,rfl,rfl⟩ ⟨_,rfl,rfl,rfl⟩⟩,by first | exact rs rfl | exact⟨_,rfl,rfl,rfl,rfl,rfl,fun x y hx hy=>row_app hx hy⟩,by first | exact rs rfl | exact⟨_,rfl,rfl,rfl,rfl,rfl,fun x y hx hy=>row_app hx hy⟩,by first | exact rs rfl | exact⟨_,rfl,rfl,rfl,rfl,rfl,fun x y hx hy=>row_app hx hy⟩,by first | exact rs rfl | exact⟨_,rfl,rfl,rfl,rfl,rfl,fun x y hx hy=>row_app hx hy⟩,by first | exact rs rfl | exact⟨_,rfl,rfl,rfl,rfl,rfl,fun x y hx hy=>row_app hx hy⟩,trivial⟩ ⟨⟨_,rfl,rfl,rfl⟩,⟨_,rfl,rfl,rfl⟩,⟨_,rfl,rfl⟩,⟨_,rfl,rfl⟩,⟨_,rfl,rfl⟩,.inl ⟨_,_,rfl,rfl,fun _ _ _ _=>rfl⟩,⟨_,rfl,rfl⟩,⟨_,rfl,rfl⟩,trivial⟩,by show x+1≤5;omega⟩
  ·have h:=of_decide_eq_false h
   obtain rfl:x=5:=by omega
   conv=>whnf
   exact⟨(),trivial,Weak.gen [some 0,some 1,some 2,some 3,some 4,some 5,some 6] rfl ⟨Rf.boxK rfl rfl,zk5 rfl,rs rfl,rs rfl,rs rfl,rs rfl,rs rfl,trivial⟩ ⟨⟨_,rfl,rfl,rfl⟩,⟨_,rfl,rfl,rfl⟩,⟨_,rfl,rfl⟩,⟨_,rfl,rfl⟩,trivial⟩⟩)
end Mx
end Go.Proofs.YtkmbnldginonbaaGreat
/- charpoly.hessenberg at 0 rows. -/
namespace Go.Proofs.YtkmbnldginonbaaGreat
open Go.RowKit
namespace Mx
end Mx
end Go.Proofs.YtkmbnldginonbaaGreat
/- charpoly.hessenberg at 1 rows. -/
namespace Go.Proofs.YtkmbnldginonbaaGreat
open Go.RowKit
namespace Mx
set_option maxHeartbeats 64000000 in
set_option maxRecDepth 100000 in
theorem hess_1 (M:Nat->Nat->Rat) {L:Nat} (_:Bq 1 L M) (_:1≤L) (_:16*KB 1 L+16≤LIM):FnT Tryz.prog true 40 1 ([gG 1 idn,gq 1 (M 0)].map gb) [.c (.gs 0 0)] (.c .any) ([gG 1 idn,gq 1 (hsn 1 M 0)].map gb):=by
 refine fnt_okS (E:=E1m) E1m_ok Tryz.func40 rfl (by kernel_rfl) ?_
 refine sq ?_
 conv=>whnf
 refine⟨(fun m:Nat=>gst [(0,.c (.gs 0 0)),(2,.c (.int .i64 ((m:Nat):Int)))] [gG 1 idn,gq 1 (hs 1 M m 0)]) 1,Weak.genT [some 0,some 1] rfl rfl ⟨_,rfl,rfl,by decide⟩ ⟨gk1 rfl,rs rfl,trivial⟩ ⟨⟨_,rfl,rfl,rfl⟩,⟨_,rfl,rfl⟩,trivial⟩,?_⟩
 refine swp_block (swp_loop (fun m:Nat=>gst [(0,.c (.gs 0 0)),(2,.c (.int .i64 ((m:Nat):Int)))] [gG 1 idn,gq 1 (hs 1 M m 0)]) (fun m=>2-m) (fun m=>1≤m/\m≤1) 1 (Weak.refl _) (by decide) fun m hm=>?_)
 obtain rfl:m=1:=by omega
 refine so ?_
 conv=>whnf
 repeat (refine⟨by first | decide | exact ixl rfl | exact rgl rfl,?_⟩;conv=>whnf)
 exact Weak.genT (tl:=[(0,.c .any)]) (xs:=[gG 1 idn,gq 1 (hsn 1 M 0)]) [some 0,some 1] rfl rfl ⟨_,rfl,rfl,by decide⟩ ⟨gk1 rfl,rs rfl,trivial⟩ ⟨⟨rfl,rfl⟩,trivial⟩
end Mx
end Go.Proofs.YtkmbnldginonbaaGreat
/- charpoly.hessenberg at 2 rows. -/
namespace Go.Proofs.YtkmbnldginonbaaGreat
open Go.RowKit
namespace Mx
set_option maxHeartbeats 64000000 in
set_option maxRecDepth 100000 in
theorem hess_2 (M:Nat->Nat->Rat) {L:Nat} (_:Bq 2 L M) (_:1≤L) (_:16*KB 2 L+16≤LIM):FnT Tryz.prog true 40 1 ([gG 2 idn,gq 2 (M 0),gq 2 (M 1)].map gb) [.c (.gs 0 0)] (.c .any) ([gG 2 idn,gq 2 (hsn 2 M 0),gq 2 (hsn 2 M 1)].map gb):=by
 refine fnt_okS (E:=E1m) E1m_ok Tryz.func40 rfl (by kernel_rfl) ?_
 refine sq ?_
 conv=>whnf
 refine⟨(fun m:Nat=>gst [(0,.c (.gs 0 0)),(2,.c (.int .i64 ((m:Nat):Int)))] [gG 2 idn,gq 2 (hs 2 M m 0),gq 2 (hs 2 M m 1)]) 1,Weak.genT [some 0,some 1,some 2] rfl rfl ⟨_,rfl,rfl,by decide⟩ ⟨gk2 rfl,rs rfl,rs rfl,trivial⟩ ⟨⟨_,rfl,rfl,rfl⟩,⟨_,rfl,rfl⟩,trivial⟩,?_⟩
 refine swp_block (swp_loop (fun m:Nat=>gst [(0,.c (.gs 0 0)),(2,.c (.int .i64 ((m:Nat):Int)))] [gG 2 idn,gq 2 (hs 2 M m 0),gq 2 (hs 2 M m 1)]) (fun m=>3-m) (fun m=>1≤m/\m≤1) 1 (Weak.refl _) (by decide) fun m hm=>?_)
 obtain rfl:m=1:=by omega
 refine so ?_
 conv=>whnf
 repeat (refine⟨by first | decide | exact ixl rfl | exact rgl rfl,?_⟩;conv=>whnf)
 exact Weak.genT (tl:=[(0,.c .any)]) (xs:=[gG 2 idn,gq 2 (hsn 2 M 0),gq 2 (hsn 2 M 1)]) [some 0,some 1,some 2] rfl rfl ⟨_,rfl,rfl,by decide⟩ ⟨gk2 rfl,rs rfl,rs rfl,trivial⟩ ⟨⟨rfl,rfl⟩,trivial⟩
end Mx
end Go.Proofs.YtkmbnldginonbaaGreat
/- charpoly.hessenberg at 3 rows. -/
namespace Go.Proofs.YtkmbnldginonbaaGreat
open Go.RowKit
namespace Mx
set_option maxHeartbeats 64000000 in
set_option maxRecDepth 100000 in
theorem hess3 (M:Nat->Nat->Rat) {K:Nat} (hA:∀ m,1≤m->m+1<3->Bq 3 K (hs 3 M m)) (hE:∀ m t,1≤m->m+1<3->pv 3 (hs 3 M m) m<3->m+t<3->Bq 3 K (el m (xch (sw (pv 3 (hs 3 M m) m) m) (hs 3 M m)) t)) (hK:1≤K) (hL:16*K+16≤LIM):FnT Tryz.prog true 40 1 ((R3 M).map gb) [.c (.gs 0 0)] (.c .any) ((R3 (hsn 3 M)).map gb):=by
  refine fnt_okS (E:=E1m) E1m_ok Tryz.func40 rfl (by kernel_rfl) ?_
  refine sq ?_
  conv=>whnf
  refine⟨(fun m:Nat=>gst [ng 0,nt 2 m] (R3 (hs 3 M m))) 1,ws3 ⟨⟨_,rfl,rfl,rfl⟩,⟨_,rfl,rfl⟩,trivial⟩,?_⟩
  refine swp_block (swp_loop (fun m:Nat=>gst [ng 0,nt 2 m] (R3 (hs 3 M m))) (fun m=>4-m) (fun m=>1≤m/\m≤2) 1 (Weak.refl _) (by decide) fun m hm=>?_)
  rcases Nat.lt_or_ge (m+1) 3 with hlt | hge
  rotate_left
  · obtain rfl:m=2:=by omega
    refine so ?_
    conv=>whnf
    repeat (refine⟨by first | exact ib rfl | exact ia rfl | exact rgl rfl,?_⟩;conv=>whnf)
    exact wt (tl:=[(0,.c .any)]) (xs:=R3 (hsn 3 M)) (ks:=[some 0,some 1,some 2,some 3]) ⟨gk3 rfl,rs rfl,rs rfl,rs rfl,trivial⟩ ⟨⟨rfl,rfl⟩,trivial⟩
  have m1:=hm.1
  have hA:=hA m m1 hlt
  have hE:=fun hp t ht=>hE m t m1 hlt hp ht
  have hpiv:=fun(hp:pv 3 (hs 3 M m) m<3) (t:Nat)=>el_piv m1 hlt hp t
  refine sq ?_
  conv=>whnf
  refine⟨i64_range (by omega) (by omega),?_⟩
  conv=>whnf
  refine bpos (show decide (((m:Nat):Int)+1<3)=true from decide_eq_true (by omega)) ?_
  conv=>whnf
  refine⟨gst [ng 0,nt 2 m] (R3 (hs 3 M m)),ws3 ⟨⟨_,rfl,rfl,rfl⟩,⟨_,rfl,rfl⟩,trivial⟩,?_⟩
  refine swp_mid (fun _:Unit=>gst [ng 0,nt 2 m] (R3 (stp 3 m (hs 3 M m)))) (fun _=>True) ?_ fun _ _=>?_
  rotate_left
  · refine so ?_
    conv=>whnf
    refine⟨i64_range (by omega) (by omega),?_⟩
    conv=>whnf
    exact⟨m+1,by omega,we3 (fun b x hb hx=>congrFun (congrFun (hs_succ 3 M m1) b) x) ⟨⟨_,rfl,rfl,rfl⟩,⟨_,rfl,rfl⟩,trivial⟩,by omega,by omega⟩
  refine swp_block ?_
  generalize hs 3 M m=A at *
  have cT:(((m:Nat):Int)-1).toNat=m-1:=by omega
  have cR:inR .i64 (((m:Nat):Int)-1):=i64_range (by omega) (by omega)
  have c0:(0:Int)≤((m:Nat):Int)-1:=by omega
  have c1:((m:Nat):Int)-1<((3:Nat):Int):=by omega
  have nz:∀ a,a<3->FnOK Tryz.prog true 47 [.g (nq (A a (((m:Nat):Int)-1).toNat))] (.c (.bool (decide (A a (m-1)≠0)))):=fun a ha=>by
    rw[cT]
    exact nz_ok (hA a (m-1) ha (by omega)) (by omega)
  obtain⟨p1,p2,-,-⟩:=pv_spec 3 A (show m≤3 by omega)
  generalize hpv:pv 3 A m=P at *
  refine sq ?_
  conv=>whnf
  refine⟨(fun a:Nat=>gst [ng 0,nt 2 m,nt 3 a] (R3 A)) m,ws3 ⟨⟨_,rfl,rfl,rfl⟩,⟨_,rfl,rfl⟩,⟨_,rfl,rfl⟩,trivial⟩,?_⟩
  refine swp_mid (fun _:Unit=>(fun a:Nat=>gst [ng 0,nt 2 m,nt 3 a] (R3 A)) P) (fun _=>True) ?_ fun _ _=>?_
  · refine swp_block (swp_loop (fun a:Nat=>gst [ng 0,nt 2 m,nt 3 a] (R3 A)) (fun a=>3-a) (fun a=>m≤a/\a≤3/\pvf A (m-1) (3-a) a=P) m (Weak.refl _) ⟨Nat.le_refl m,by omega,hpv⟩ fun a ha=>?_)
    obtain⟨a1,a2,a3⟩:=ha
    rcases Nat.lt_or_ge a 3 with alt | age
    rotate_left
    · obtain rfl:a=3:=by omega
      refine so ?_
      conv=>whnf
      have eP:3=P:=a3
      exact⟨(),trivial,ws3 ⟨⟨_,rfl,rfl,rfl⟩,⟨_,rfl,rfl⟩,⟨_,rfl,by rw[← eP]⟩,trivial⟩⟩
    have nz:=nz a alt
    have n0:A a (m-1)=0->pvf A (m-1) (3-(a+1)) (a+1)=P:=fun h=>by rw[← a3,show 3-a=3-(a+1)+1 by omega,pvf_next h]
    have n1:A a (m-1)≠0->a=P:=fun h=>by rw[← a3,show 3-a=3-(a+1)+1 by omega,pvf_stop h]
    have e:a=0∨a=1∨a=2:=by omega
    have F:_/\_/\_/\_/\_:=⟨nz,n0,n1,alt,a1⟩
    clear a2 a3 nz n0 n1 alt a1
    revert F
    rcases e with e | e | e <;> (
      apply lets e
      intro a F
      obtain⟨nz,n0,n1,alt,a1⟩:=F
      refine so ?_
      conv=>whnf
      repeat (refine⟨by first | exact cR | exact c0 | exact c1 | exact ib rfl | exact ixl rfl,?_⟩;conv=>whnf)
      refine⟨_,nz,?_⟩
      conv=>whnf
      refine bcase (fun(h:(!decide (A a (m-1)≠0))=true)=>?_) fun(h:(!decide (A a (m-1)≠0))=false)=>?_
      · have h0:A a (m-1)=0:=by simpa using h
        conv=>whnf
        refine⟨i64_range (by omega) (by omega),?_⟩
        conv=>whnf
        exact⟨a+1,by omega,ws3 ⟨⟨_,rfl,rfl,rfl⟩,⟨_,rfl,rfl⟩,⟨_,rfl,rfl⟩,trivial⟩,by omega,by omega,n0 h0⟩
      · have h0:A a (m-1)≠0:=by simpa using h
        conv=>whnf
        exact⟨(),trivial,ws3 ⟨⟨_,rfl,rfl,rfl⟩,⟨_,rfl,rfl⟩,⟨_,rfl,by rw[← n1 h0]⟩,trivial⟩⟩)
  refine swp_mid2 (fun _:Unit=>gst [ng 0,nt 2 m] (R3 (xch (sw P m) A))) (fun _=>P<3) ?_ fun _ hP=>?_
  · rcases Nat.lt_or_ge P 3 with hP | hP
    rotate_left
    · obtain rfl:P=3:=by omega
      refine so ?_
      conv=>whnf
      exact⟨(),trivial,we3 (fun b x hb hx=>stp_none hpv b x) ⟨⟨_,rfl,rfl,rfl⟩,⟨_,rfl,rfl⟩,trivial⟩⟩
    refine so ?_
    conv=>whnf
    refine bneg (show decide (((P:Nat):Int)=3)=false from decide_eq_false (by omega)) ?_
    conv=>whnf
    rcases Nat.lt_or_ge m P with hm2 | hm2
    rotate_left
    · obtain rfl:m=P:=by omega
      refine so ?_
      conv=>whnf
      refine bneg (show(!decide (((m:Nat):Int)=(m:Nat)))=false by simp) ?_
      conv=>whnf
      exact⟨(),hP,we3 (fun b x hb hx=>xch_self A b x) ⟨⟨_,rfl,rfl,rfl⟩,⟨_,rfl,rfl⟩,trivial⟩⟩
    refine sq ?_
    conv=>whnf
    refine⟨gst [ng 0,nt 2 m,nt 3 P,(41,.c (.bool true))] (R3 A),ws3 ⟨⟨_,rfl,rfl,rfl⟩,⟨_,rfl,rfl⟩,⟨_,rfl,rfl⟩,⟨_,rfl,by simp;omega⟩,trivial⟩,?_⟩
    refine swp_cond (b:=true) rfl (fun _=>?_) fun h=>absurd h (by decide)
    refine swp_goT E1m_ok (pre:=[_,_,_]) (post:=[]) rfl rfl (by kernel_rfl) ?_
    conv=>whnf
    refine⟨1,_,by decide,OpGoT.call0 (f:=92) (cs:=[]) rfl rfl live_all (exch_3 A hm2 hP) (lt_put (lt_put (lt_put (lt_asg (tl:=[ng 0,nt 2 m,nt 3 P,(41,.c (.bool true))]) ⟨rfl,rfl,rfl,rfl,trivial⟩) rfl) rfl) rfl),?_⟩
    conv=>whnf
    exact⟨(),hP,ws3 ⟨⟨_,rfl,rfl,rfl⟩,⟨_,rfl,rfl⟩,trivial⟩⟩
  have hE:=hE hP
  have hpiv:=hpiv hP
  have hst:=fun b x=>stp_some hpv hP b x
  clear nz p1 hpv hA
  generalize stp 3 m A=Z at *
  generalize xch (sw P m) A=A1 at *
  clear hP p2
  refine sq ?_
  conv=>whnf
  refine⟨i64_range (by omega) (by omega),?_⟩
  conv=>whnf
  refine⟨(fun t:Nat=>gst [ng 0,nt 2 m,nt 4 (m+1+t)] (R3 (el m A1 t))) 0,ws3 ⟨⟨_,rfl,rfl,rfl⟩,⟨_,rfl,rfl⟩,⟨_,rfl,rfl⟩,trivial⟩,?_⟩
  refine swp_block (swp_loop (fun t:Nat=>gst [ng 0,nt 2 m,nt 4 (m+1+t)] (R3 (el m A1 t))) (fun t=>3-t) (fun t=>m+1+t≤3) 0 (Weak.refl _) (by omega) fun t ht=>?_)
  have ht:m+1+t≤3:=ht
  rcases Nat.lt_or_ge (m+1+t) 3 with tlt | tge
  rotate_left
  · obtain rfl:t=2-m:=by omega
    refine so ?_
    conv=>whnf
    refine bneg (show decide (((m+1+(2-m):Nat):Int)<3)=false from decide_eq_false (by omega)) ?_
    conv=>whnf
    exact⟨(),trivial,we3 (fun b x hb hx=>hst b x) ⟨⟨_,rfl,rfl,rfl⟩,⟨_,rfl,rfl⟩,trivial⟩⟩
  clear hst ht
  obtain⟨i,hi⟩:∃ i,i=m+1+t:=⟨_,rfl⟩
  have hB:=hE t (by omega)
  have hq:=hpiv t
  clear hE hpiv
  refine sq ?_
  conv=>whnf
  refine bpos (show decide (((m+1+t:Nat):Int)<3)=true from decide_eq_true (by omega)) ?_
  conv=>whnf
  refine⟨gst [ng 0,nt 2 m,nt 4 i] (R3 (el m A1 t)),ws3 ⟨⟨_,rfl,rfl,rfl⟩,⟨_,rfl,rfl⟩,⟨_,rfl,by rw[hi]⟩,trivial⟩,?_⟩
  refine swp_mid (fun _:Unit=>gst [ng 0,nt 2 m,nt 4 i] (R3 (el1 m i (el m A1 t)))) (fun _=>True) ?_ fun _ _=>?_
  rotate_left
  · refine so ?_
    conv=>whnf
    refine⟨i64_range (by omega) (by omega),?_⟩
    conv=>whnf
    exact⟨t+1,by omega,we3 (fun b x hb hx=>by rw[hi];rfl) ⟨⟨_,rfl,rfl,rfl⟩,⟨_,rfl,rfl⟩,⟨_,rfl,by omega⟩,trivial⟩,by show m+1+(t+1)≤3;omega⟩
  refine swp_block ?_
  generalize el m A1 t=B at *
  have im:m<i:=by omega
  have i5:i<3:=by omega
  have m5:m<3:=by omega
  have c5:m-1<3:=by omega
  have hx:∀ a b,a<3->b<3->qlen (B a b)≤K:=hB
  have nz:=nz_ok (x:=B i (m-1)) (hx i (m-1) i5 c5) (by omega)
  have kq:=qquo_n (hx i (m-1) i5 c5) (hx m (m-1) m5 c5) (by omega) hq rfl
  have hu:qlen (B i (m-1) / B m (m-1))≤2*K:=Nat.le_trans (q_div (hx i (m-1) i5 c5) (hx m (m-1) m5 c5) (by omega)) (by omega)
  have hel:=fun(h0:¬ B i (m-1)=0) a b=>el1_some (m:=m) (i:=i) (A:=B) h0 rfl a b
  have hez:=fun(h0:B i (m-1)=0) a b=>el1_zero (m:=m) (i:=i) (A:=B) h0 a b
  change ∀(h0:¬ B i (m-1)=0) (a b:Nat),el1 m i B a b=ca (B i (m-1) / B m (m-1)) i m (ra (B i (m-1) / B m (m-1)) i m B) a b at hel
  generalize el1 m i B=Y at *
  generalize B i (m-1) / B m (m-1)=u at *
  have v1:∀ j,j<3->FnOK Tryz.prog true 46 [.g (nq u),.g (nq (md1 u i m B j m j))] (.g (nq (u*B m j))):=fun j hj=>qmul_n hu (by rw[md1_m u (by omega)];exact hx m j m5 hj) (by omega) (by rw[md1_m u (by omega)])
  have v2:∀ j,j<3->FnOK Tryz.prog true 50 [.g (nq (md1 u i m B j i j)),.g (nq (u*B m j))] (.g (nq (B i j-u*B m j))):=fun j hj=>qsub_n (by rw[md1_old];exact hx i j i5 hj) (q_mul hu (hx m j m5 hj) (by omega)) (by omega) (by omega) (by rw[md1_old])
  have hR:=ra_kb (i:=i) hB hu m5 hK
  have w1:∀ j,j<3->FnOK Tryz.prog true 46 [.g (nq u),.g (nq (md2 u i m (ra u i m B) j j i))] (.g (nq (u*ra u i m B j i))):=fun j hj=>qmul_n hu (by rw[md2_old];exact hR j i hj i5) (by omega) (by rw[md2_old])
  have w2:∀ j,j<3->FnOK Tryz.prog true 93 [.g (nq (md2 u i m (ra u i m B) j j m)),.g (nq (u*ra u i m B j i))] (.g (nq (ra u i m B j m+u*ra u i m B j i))):=fun j hj=>qadd_n (by rw[md2_old];exact hR j m hj m5) (q_mul hu (hR j i hj i5) (by omega)) (by omega) (by rw[md2_old])
  have e:m=1:=by omega
  clear hR hu hx hB hq hi tlt cT c0 c1 hm hlt m1
  have F:_/\_/\_/\_/\_/\_/\_/\_/\_/\_:=⟨cR,im,nz,kq,hel,hez,v1,v2,w1,w2⟩
  clear cR im nz kq hel hez v1 v2 w1 w2 m5 c5
  revert F
  rcases e with e <;> (
    apply lets e
    intro m F
    have e:i=2:=by omega
    revert F
    rcases e with e <;> (
      apply lets e
      intro i F
      obtain⟨cR,im,nz,kq,hel,hez,v1,v2,w1,w2⟩:=F
      first
      | exact absurd im (of_decide_eq_false rfl)
      | (
         refine sq ?_
         conv=>whnf
         repeat (refine⟨by first | exact cR | exact ib rfl | exact ixl rfl,?_⟩;conv=>whnf)
         refine⟨_,nz,?_⟩
         conv=>whnf
         refine bcase (fun(h:(!decide (B i (m-1)≠0))=true)=>?_) fun(h:(!decide (B i (m-1)≠0))=false)=>?_
         · have h0:B i (m-1)=0:=by simpa using h
           conv=>whnf
           exact⟨(),trivial,we3 (fun b x hb hx=>hez h0 b x) ⟨⟨_,rfl,rfl,rfl⟩,⟨_,rfl,rfl⟩,⟨_,rfl,rfl⟩,trivial⟩⟩
         have h0:¬ B i (m-1)=0:=by simpa using h
         conv=>whnf
         refine⟨gst [ng 0,nt 2 m,nt 4 i] (R3 B),ws3 ⟨⟨_,rfl,rfl,rfl⟩,⟨_,rfl,rfl⟩,⟨_,rfl,rfl⟩,trivial⟩,?_⟩
         have hel:=hel h0
         refine sq ?_
         conv=>whnf
         repeat (refine⟨by first | exact cR | exact ib rfl | exact ixl rfl,?_⟩;conv=>whnf)
         refine⟨_,kq,?_⟩
         conv=>whnf
         refine⟨gst [ng 0,nt 2 m,nt 4 i,(5,.c (.p 4 0 4 0 0))] (R3b B u),wt (ks:=[some 0,some 1,some 2,some 3,some 24]) ⟨gk3 rfl,rs rfl,rs rfl,rs rfl,Rf.boxU rfl rfl rfl,trivial⟩ ⟨⟨_,rfl,rfl,rfl⟩,⟨_,rfl,rfl⟩,⟨_,rfl,rfl⟩,⟨_,rfl,rfl,rfl⟩,trivial⟩,?_⟩
         refine swp_mid (fun _:Unit=>gst [ng 0,nt 2 m,nt 4 i,(5,.c (.p 4 0 4 0 0))] (R3b (ra u i m B) u)) (fun _=>True) ?_ fun _ _=>?_
         · refine sq ?_
           conv=>whnf
           repeat (refine⟨by first | exact cR | exact ib rfl | exact ixl rfl,?_⟩;conv=>whnf)
           refine⟨(fun j:Nat=>gst [ng 0,nt 2 m,nt 4 i,(5,.c (.p 4 0 4 0 0)),(85,.c (.int .i64 3)),nt 86 j] (R3b (md1 u i m B j) u)) 0,wbe3 (fun b x hb hx=>md1_zero u _ _ B b x) ⟨⟨_,rfl,rfl,rfl⟩,⟨_,rfl,rfl⟩,⟨_,rfl,rfl⟩,⟨_,rfl,rfl,rfl⟩,⟨_,rfl,rfl⟩,⟨_,rfl,rfl⟩,trivial⟩,?_⟩
           refine swp_block (swp_loop (fun j:Nat=>gst [ng 0,nt 2 m,nt 4 i,(5,.c (.p 4 0 4 0 0)),(85,.c (.int .i64 3)),nt 86 j] (R3b (md1 u i m B j) u)) (fun j=>3-j) (fun j=>j≤3) 0 (Weak.refl _) (Nat.zero_le _) fun j hj=>?_)
           have v1:=v1 j
           have v2:=v2 j
           have hj0:(0:Int)≤(j:Int):=by omega
           refine so ?_
           conv=>whnf
           refine bcase (fun(h:decide ((j:Int)<3)=true)=>?_) fun(h:decide ((j:Int)<3)=false)=>?_
           · have h:=of_decide_eq_true h
             have v1:=v1 (by omega)
             have v2:=v2 (by omega)
             have hj1:(j:Int)<((3:Nat):Int):=by omega
             conv=>whnf
             repeat (refine⟨by first | exact hj0 | exact hj1 | exact ib rfl | exact ixl rfl,?_⟩;conv=>whnf)
             refine⟨_,v1,?_⟩
             conv=>whnf
             repeat (refine⟨by first | exact hj0 | exact hj1 | exact ib rfl | exact ixl rfl,?_⟩;conv=>whnf)
             refine⟨_,v2,?_⟩
             conv=>whnf
             repeat (refine⟨by first | exact hj0 | exact hj1 | exact ib rfl | exact ixl rfl,?_⟩;conv=>whnf)
             refine⟨i64_range (by omega) (by omega),?_⟩
             conv=>whnf
             exact⟨j+1,by omega,wt (ks:=[some 0,some 1,some 2,some 3,some 4]) ⟨gk3 rfl,by first | exact mk1 rfl | exact mu1 rfl,by first | exact mk1 rfl | exact mu1 rfl,by first | exact mk1 rfl | exact mu1 rfl,Rf.boxK rfl rfl,trivial⟩ ⟨⟨_,rfl,rfl,rfl⟩,⟨_,rfl,rfl⟩,⟨_,rfl,rfl⟩,⟨_,rfl,rfl,rfl⟩,⟨_,rfl,rfl⟩,⟨_,rfl,rfl⟩,trivial⟩,by omega⟩
           · have h:=of_decide_eq_false h
             obtain rfl:j=3:=by omega
             conv=>whnf
             exact⟨(),trivial,wbe3 (fun b x hb hx=>md1_all u _ _ B hx b) ⟨⟨_,rfl,rfl,rfl⟩,⟨_,rfl,rfl⟩,⟨_,rfl,rfl⟩,⟨_,rfl,rfl,rfl⟩,trivial⟩⟩
         generalize ra u i m B=D at *
         clear v1 v2 nz kq
         refine sq ?_
         conv=>whnf
         repeat (refine⟨by first | exact cR | exact ib rfl | exact ixl rfl,?_⟩;conv=>whnf)
         refine⟨(fun j:Nat=>gst [ng 0,nt 2 m,nt 4 i,(5,.c (.p 4 0 4 0 0)),(114,.c (.int .i64 3)),nt 115 j] (R3b (md2 u i m D j) u)) 0,wbe3 (fun b x hb hx=>md2_zero u _ _ D b x) ⟨⟨_,rfl,rfl,rfl⟩,⟨_,rfl,rfl⟩,⟨_,rfl,rfl⟩,⟨_,rfl,rfl,rfl⟩,⟨_,rfl,rfl⟩,⟨_,rfl,rfl⟩,trivial⟩,?_⟩
         refine swp_block (swp_loop (fun j:Nat=>gst [ng 0,nt 2 m,nt 4 i,(5,.c (.p 4 0 4 0 0)),(114,.c (.int .i64 3)),nt 115 j] (R3b (md2 u i m D j) u)) (fun j=>3-j) (fun j=>j≤3) 0 (Weak.refl _) (Nat.zero_le _) fun j hj=>?_)
         rcases Nat.lt_or_ge j 3 with jlt | jge
         rotate_left
         · obtain rfl:j=3:=Nat.le_antisymm hj jge
           refine so ?_
           conv=>whnf
           exact⟨(),trivial,we3 (fun b x hb hx=>(hel b x).trans (md2_all u _ _ D hb x)) ⟨⟨_,rfl,rfl,rfl⟩,⟨_,rfl,rfl⟩,⟨_,rfl,rfl⟩,trivial⟩⟩
         have w1:=w1 j jlt
         have w2:=w2 j jlt
         have e:j=0∨j=1∨j=2:=by omega
         clear hj hel hez
         revert w1 w2 jlt
         rcases e with e | e | e <;> (
           apply lets e
           intro j jlt w1 w2
           refine so ?_
           conv=>whnf
           repeat (refine⟨by first | exact cR | exact ib rfl | exact ixl rfl,?_⟩;conv=>whnf)
           refine⟨_,w1,?_⟩
           conv=>whnf
           repeat (refine⟨by first | exact cR | exact ib rfl | exact ixl rfl,?_⟩;conv=>whnf)
           refine⟨_,w2,?_⟩
           conv=>whnf
           repeat (refine⟨by first | exact ib rfl | exact ixl rfl,?_⟩;conv=>whnf)
           refine⟨i64_range (by omega) (by omega),?_⟩
           conv=>whnf
           exact⟨j+1,by omega,wt (ks:=[some 0,some 1,some 2,some 3,some 4]) ⟨gk3 rfl,by first | exact mk2 rfl | exact mu2 rfl,by first | exact mk2 rfl | exact mu2 rfl,by first | exact mk2 rfl | exact mu2 rfl,Rf.boxK rfl rfl,trivial⟩ ⟨⟨_,rfl,rfl,rfl⟩,⟨_,rfl,rfl⟩,⟨_,rfl,rfl⟩,⟨_,rfl,rfl,rfl⟩,⟨_,rfl,rfl⟩,⟨_,rfl,rfl⟩,trivial⟩,jlt⟩))))
theorem hess_3 (M:Nat->Nat->Rat) {L:Nat} (hM:Bq 3 L M) (h1:1≤L) (hL:16*KB 3 L+16≤LIM):FnT Tryz.prog true 40 1 ((R3 M).map gb) [.c (.gs 0 0)] (.c .any) ((R3 (hsn 3 M)).map gb):=hess3 M (fun m _ h=>hs_kb hM h1 (by omega)) (fun m t h0 h hp ht=>el_kb hM h1 h0 h hp ht) (KB_pos h1) hL
end Mx
end Go.Proofs.YtkmbnldginonbaaGreat
/- charpoly.hessenberg at 4 rows. -/
namespace Go.Proofs.YtkmbnldginonbaaGreat
open Go.RowKit
namespace Mx
set_option maxHeartbeats 64000000 in
set_option maxRecDepth 100000 in
theorem hess4 (M:Nat->Nat->Rat) {K:Nat} (hA:∀ m,1≤m->m+1<4->Bq 4 K (hs 4 M m)) (hE:∀ m t,1≤m->m+1<4->pv 4 (hs 4 M m) m<4->m+t<4->Bq 4 K (el m (xch (sw (pv 4 (hs 4 M m) m) m) (hs 4 M m)) t)) (hK:1≤K) (hL:16*K+16≤LIM):FnT Tryz.prog true 40 1 ((R4 M).map gb) [.c (.gs 0 0)] (.c .any) ((R4 (hsn 4 M)).map gb):=by
  refine fnt_okS (E:=E1m) E1m_ok Tryz.func40 rfl (by kernel_rfl) ?_
  refine sq ?_
  conv=>whnf
  refine⟨(fun m:Nat=>gst [ng 0,nt 2 m] (R4 (hs 4 M m))) 1,ws4 ⟨⟨_,rfl,rfl,rfl⟩,⟨_,rfl,rfl⟩,trivial⟩,?_⟩
  refine swp_block (swp_loop (fun m:Nat=>gst [ng 0,nt 2 m] (R4 (hs 4 M m))) (fun m=>5-m) (fun m=>1≤m/\m≤3) 1 (Weak.refl _) (by decide) fun m hm=>?_)
  rcases Nat.lt_or_ge (m+1) 4 with hlt | hge
  rotate_left
  · obtain rfl:m=3:=by omega
    refine so ?_
    conv=>whnf
    repeat (refine⟨by first | exact ib rfl | exact ia rfl | exact rgl rfl,?_⟩;conv=>whnf)
    exact wt (tl:=[(0,.c .any)]) (xs:=R4 (hsn 4 M)) (ks:=[some 0,some 1,some 2,some 3,some 4]) ⟨gk4 rfl,rs rfl,rs rfl,rs rfl,rs rfl,trivial⟩ ⟨⟨rfl,rfl⟩,trivial⟩
  have m1:=hm.1
  have hA:=hA m m1 hlt
  have hE:=fun hp t ht=>hE m t m1 hlt hp ht
  have hpiv:=fun(hp:pv 4 (hs 4 M m) m<4) (t:Nat)=>el_piv m1 hlt hp t
  refine sq ?_
  conv=>whnf
  refine⟨i64_range (by omega) (by omega),?_⟩
  conv=>whnf
  refine bpos (show decide (((m:Nat):Int)+1<4)=true from decide_eq_true (by omega)) ?_
  conv=>whnf
  refine⟨gst [ng 0,nt 2 m] (R4 (hs 4 M m)),ws4 ⟨⟨_,rfl,rfl,rfl⟩,⟨_,rfl,rfl⟩,trivial⟩,?_⟩
  refine swp_mid (fun _:Unit=>gst [ng 0,nt 2 m] (R4 (stp 4 m (hs 4 M m)))) (fun _=>True) ?_ fun _ _=>?_
  rotate_left
  · refine so ?_
    conv=>whnf
    refine⟨i64_range (by omega) (by omega),?_⟩
    conv=>whnf
    exact⟨m+1,by omega,we4 (fun b x hb hx=>congrFun (congrFun (hs_succ 4 M m1) b) x) ⟨⟨_,rfl,rfl,rfl⟩,⟨_,rfl,rfl⟩,trivial⟩,by omega,by omega⟩
  refine swp_block ?_
  generalize hs 4 M m=A at *
  have cT:(((m:Nat):Int)-1).toNat=m-1:=by omega
  have cR:inR .i64 (((m:Nat):Int)-1):=i64_range (by omega) (by omega)
  have c0:(0:Int)≤((m:Nat):Int)-1:=by omega
  have c1:((m:Nat):Int)-1<((4:Nat):Int):=by omega
  have nz:∀ a,a<4->FnOK Tryz.prog true 47 [.g (nq (A a (((m:Nat):Int)-1).toNat))] (.c (.bool (decide (A a (m-1)≠0)))):=fun a ha=>by
    rw[cT]
    exact nz_ok (hA a (m-1) ha (by omega)) (by omega)
  obtain⟨p1,p2,-,-⟩:=pv_spec 4 A (show m≤4 by omega)
  generalize hpv:pv 4 A m=P at *
  refine sq ?_
  conv=>whnf
  refine⟨(fun a:Nat=>gst [ng 0,nt 2 m,nt 3 a] (R4 A)) m,ws4 ⟨⟨_,rfl,rfl,rfl⟩,⟨_,rfl,rfl⟩,⟨_,rfl,rfl⟩,trivial⟩,?_⟩
  refine swp_mid (fun _:Unit=>(fun a:Nat=>gst [ng 0,nt 2 m,nt 3 a] (R4 A)) P) (fun _=>True) ?_ fun _ _=>?_
  · refine swp_block (swp_loop (fun a:Nat=>gst [ng 0,nt 2 m,nt 3 a] (R4 A)) (fun a=>4-a) (fun a=>m≤a/\a≤4/\pvf A (m-1) (4-a) a=P) m (Weak.refl _) ⟨Nat.le_refl m,by omega,hpv⟩ fun a ha=>?_)
    obtain⟨a1,a2,a3⟩:=ha
    rcases Nat.lt_or_ge a 4 with alt | age
    rotate_left
    · obtain rfl:a=4:=by omega
      refine so ?_
      conv=>whnf
      have eP:4=P:=a3
      exact⟨(),trivial,ws4 ⟨⟨_,rfl,rfl,rfl⟩,⟨_,rfl,rfl⟩,⟨_,rfl,by rw[← eP]⟩,trivial⟩⟩
    have nz:=nz a alt
    have n0:A a (m-1)=0->pvf A (m-1) (4-(a+1)) (a+1)=P:=fun h=>by rw[← a3,show 4-a=4-(a+1)+1 by omega,pvf_next h]
    have n1:A a (m-1)≠0->a=P:=fun h=>by rw[← a3,show 4-a=4-(a+1)+1 by omega,pvf_stop h]
    have e:a=0∨a=1∨a=2∨a=3:=by omega
    have F:_/\_/\_/\_/\_:=⟨nz,n0,n1,alt,a1⟩
    clear a2 a3 nz n0 n1 alt a1
    revert F
    rcases e with e | e | e | e <;> (
      apply lets e
      intro a F
      obtain⟨nz,n0,n1,alt,a1⟩:=F
      refine so ?_
      conv=>whnf
      repeat (refine⟨by first | exact cR | exact c0 | exact c1 | exact ib rfl | exact ixl rfl,?_⟩;conv=>whnf)
      refine⟨_,nz,?_⟩
      conv=>whnf
      refine bcase (fun(h:(!decide (A a (m-1)≠0))=true)=>?_) fun(h:(!decide (A a (m-1)≠0))=false)=>?_
      · have h0:A a (m-1)=0:=by simpa using h
        conv=>whnf
        refine⟨i64_range (by omega) (by omega),?_⟩
        conv=>whnf
        exact⟨a+1,by omega,ws4 ⟨⟨_,rfl,rfl,rfl⟩,⟨_,rfl,rfl⟩,⟨_,rfl,rfl⟩,trivial⟩,by omega,by omega,n0 h0⟩
      · have h0:A a (m-1)≠0:=by simpa using h
        conv=>whnf
        exact⟨(),trivial,ws4 ⟨⟨_,rfl,rfl,rfl⟩,⟨_,rfl,rfl⟩,⟨_,rfl,by rw[← n1 h0]⟩,trivial⟩⟩)
  refine swp_mid2 (fun _:Unit=>gst [ng 0,nt 2 m] (R4 (xch (sw P m) A))) (fun _=>P<4) ?_ fun _ hP=>?_
  · rcases Nat.lt_or_ge P 4 with hP | hP
    rotate_left
    · obtain rfl:P=4:=by omega
      refine so ?_
      conv=>whnf
      exact⟨(),trivial,we4 (fun b x hb hx=>stp_none hpv b x) ⟨⟨_,rfl,rfl,rfl⟩,⟨_,rfl,rfl⟩,trivial⟩⟩
    refine so ?_
    conv=>whnf
    refine bneg (show decide (((P:Nat):Int)=4)=false from decide_eq_false (by omega)) ?_
    conv=>whnf
    rcases Nat.lt_or_ge m P with hm2 | hm2
    rotate_left
    · obtain rfl:m=P:=by omega
      refine so ?_
      conv=>whnf
      refine bneg (show(!decide (((m:Nat):Int)=(m:Nat)))=false by simp) ?_
      conv=>whnf
      exact⟨(),hP,we4 (fun b x hb hx=>xch_self A b x) ⟨⟨_,rfl,rfl,rfl⟩,⟨_,rfl,rfl⟩,trivial⟩⟩
    refine sq ?_
    conv=>whnf
    refine⟨gst [ng 0,nt 2 m,nt 3 P,(41,.c (.bool true))] (R4 A),ws4 ⟨⟨_,rfl,rfl,rfl⟩,⟨_,rfl,rfl⟩,⟨_,rfl,rfl⟩,⟨_,rfl,by simp;omega⟩,trivial⟩,?_⟩
    refine swp_cond (b:=true) rfl (fun _=>?_) fun h=>absurd h (by decide)
    refine swp_goT E1m_ok (pre:=[_,_,_]) (post:=[]) rfl rfl (by kernel_rfl) ?_
    conv=>whnf
    refine⟨1,_,by decide,OpGoT.call0 (f:=92) (cs:=[]) rfl rfl live_all (exch_4 A hm2 hP) (lt_put (lt_put (lt_put (lt_asg (tl:=[ng 0,nt 2 m,nt 3 P,(41,.c (.bool true))]) ⟨rfl,rfl,rfl,rfl,trivial⟩) rfl) rfl) rfl),?_⟩
    conv=>whnf
    exact⟨(),hP,ws4 ⟨⟨_,rfl,rfl,rfl⟩,⟨_,rfl,rfl⟩,trivial⟩⟩
  have hE:=hE hP
  have hpiv:=hpiv hP
  have hst:=fun b x=>stp_some hpv hP b x
  clear nz p1 hpv hA
  generalize stp 4 m A=Z at *
  generalize xch (sw P m) A=A1 at *
  clear hP p2
  refine sq ?_
  conv=>whnf
  refine⟨i64_range (by omega) (by omega),?_⟩
  conv=>whnf
  refine⟨(fun t:Nat=>gst [ng 0,nt 2 m,nt 4 (m+1+t)] (R4 (el m A1 t))) 0,ws4 ⟨⟨_,rfl,rfl,rfl⟩,⟨_,rfl,rfl⟩,⟨_,rfl,rfl⟩,trivial⟩,?_⟩
  refine swp_block (swp_loop (fun t:Nat=>gst [ng 0,nt 2 m,nt 4 (m+1+t)] (R4 (el m A1 t))) (fun t=>4-t) (fun t=>m+1+t≤4) 0 (Weak.refl _) (by omega) fun t ht=>?_)
  have ht:m+1+t≤4:=ht
  rcases Nat.lt_or_ge (m+1+t) 4 with tlt | tge
  rotate_left
  · obtain rfl:t=3-m:=by omega
    refine so ?_
    conv=>whnf
    refine bneg (show decide (((m+1+(3-m):Nat):Int)<4)=false from decide_eq_false (by omega)) ?_
    conv=>whnf
    exact⟨(),trivial,we4 (fun b x hb hx=>hst b x) ⟨⟨_,rfl,rfl,rfl⟩,⟨_,rfl,rfl⟩,trivial⟩⟩
  clear hst ht
  obtain⟨i,hi⟩:∃ i,i=m+1+t:=⟨_,rfl⟩
  have hB:=hE t (by omega)
  have hq:=hpiv t
  clear hE hpiv
  refine sq ?_
  conv=>whnf
  refine bpos (show decide (((m+1+t:Nat):Int)<4)=true from decide_eq_true (by omega)) ?_
  conv=>whnf
  refine⟨gst [ng 0,nt 2 m,nt 4 i] (R4 (el m A1 t)),ws4 ⟨⟨_,rfl,rfl,rfl⟩,⟨_,rfl,rfl⟩,⟨_,rfl,by rw[hi]⟩,trivial⟩,?_⟩
  refine swp_mid (fun _:Unit=>gst [ng 0,nt 2 m,nt 4 i] (R4 (el1 m i (el m A1 t)))) (fun _=>True) ?_ fun _ _=>?_
  rotate_left
  · refine so ?_
    conv=>whnf
    refine⟨i64_range (by omega) (by omega),?_⟩
    conv=>whnf
    exact⟨t+1,by omega,we4 (fun b x hb hx=>by rw[hi];rfl) ⟨⟨_,rfl,rfl,rfl⟩,⟨_,rfl,rfl⟩,⟨_,rfl,by omega⟩,trivial⟩,by show m+1+(t+1)≤4;omega⟩
  refine swp_block ?_
  generalize el m A1 t=B at *
  have im:m<i:=by omega
  have i5:i<4:=by omega
  have m5:m<4:=by omega
  have c5:m-1<4:=by omega
  have hx:∀ a b,a<4->b<4->qlen (B a b)≤K:=hB
  have nz:=nz_ok (x:=B i (m-1)) (hx i (m-1) i5 c5) (by omega)
  have kq:=qquo_n (hx i (m-1) i5 c5) (hx m (m-1) m5 c5) (by omega) hq rfl
  have hu:qlen (B i (m-1) / B m (m-1))≤2*K:=Nat.le_trans (q_div (hx i (m-1) i5 c5) (hx m (m-1) m5 c5) (by omega)) (by omega)
  have hel:=fun(h0:¬ B i (m-1)=0) a b=>el1_some (m:=m) (i:=i) (A:=B) h0 rfl a b
  have hez:=fun(h0:B i (m-1)=0) a b=>el1_zero (m:=m) (i:=i) (A:=B) h0 a b
  change ∀(h0:¬ B i (m-1)=0) (a b:Nat),el1 m i B a b=ca (B i (m-1) / B m (m-1)) i m (ra (B i (m-1) / B m (m-1)) i m B) a b at hel
  generalize el1 m i B=Y at *
  generalize B i (m-1) / B m (m-1)=u at *
  have v1:∀ j,j<4->FnOK Tryz.prog true 46 [.g (nq u),.g (nq (md1 u i m B j m j))] (.g (nq (u*B m j))):=fun j hj=>qmul_n hu (by rw[md1_m u (by omega)];exact hx m j m5 hj) (by omega) (by rw[md1_m u (by omega)])
  have v2:∀ j,j<4->FnOK Tryz.prog true 50 [.g (nq (md1 u i m B j i j)),.g (nq (u*B m j))] (.g (nq (B i j-u*B m j))):=fun j hj=>qsub_n (by rw[md1_old];exact hx i j i5 hj) (q_mul hu (hx m j m5 hj) (by omega)) (by omega) (by omega) (by rw[md1_old])
  have hR:=ra_kb (i:=i) hB hu m5 hK
  have w1:∀ j,j<4->FnOK Tryz.prog true 46 [.g (nq u),.g (nq (md2 u i m (ra u i m B) j j i))] (.g (nq (u*ra u i m B j i))):=fun j hj=>qmul_n hu (by rw[md2_old];exact hR j i hj i5) (by omega) (by rw[md2_old])
  have w2:∀ j,j<4->FnOK Tryz.prog true 93 [.g (nq (md2 u i m (ra u i m B) j j m)),.g (nq (u*ra u i m B j i))] (.g (nq (ra u i m B j m+u*ra u i m B j i))):=fun j hj=>qadd_n (by rw[md2_old];exact hR j m hj m5) (q_mul hu (hR j i hj i5) (by omega)) (by omega) (by rw[md2_old])
  have e:m=1∨m=2:=by omega
  clear hR hu hx hB hq hi tlt cT c0 c1 hm hlt m1
  have F:_/\_/\_/\_/\_/\_/\_/\_/\_/\_:=⟨cR,im,nz,kq,hel,hez,v1,v2,w1,w2⟩
  clear cR im nz kq hel hez v1 v2 w1 w2 m5 c5
  revert F
  rcases e with e | e <;> (
    apply lets e
    intro m F
    have e:i=2∨i=3:=by omega
    revert F
    rcases e with e | e <;> (
      apply lets e
      intro i F
      obtain⟨cR,im,nz,kq,hel,hez,v1,v2,w1,w2⟩:=F
      first
      | exact absurd im (of_decide_eq_false rfl)
      | (
         refine sq ?_
         conv=>whnf
         repeat (refine⟨by first | exact cR | exact ib rfl | exact ixl rfl,?_⟩;conv=>whnf)
         refine⟨_,nz,?_⟩
         conv=>whnf
         refine bcase (fun(h:(!decide (B i (m-1)≠0))=true)=>?_) fun(h:(!decide (B i (m-1)≠0))=false)=>?_
         · have h0:B i (m-1)=0:=by simpa using h
           conv=>whnf
           exact⟨(),trivial,we4 (fun b x hb hx=>hez h0 b x) ⟨⟨_,rfl,rfl,rfl⟩,⟨_,rfl,rfl⟩,⟨_,rfl,rfl⟩,trivial⟩⟩
         have h0:¬ B i (m-1)=0:=by simpa using h
         conv=>whnf
         refine⟨gst [ng 0,nt 2 m,nt 4 i] (R4 B),ws4 ⟨⟨_,rfl,rfl,rfl⟩,⟨_,rfl,rfl⟩,⟨_,rfl,rfl⟩,trivial⟩,?_⟩
         have hel:=hel h0
         refine sq ?_
         conv=>whnf
         repeat (refine⟨by first | exact cR | exact ib rfl | exact ixl rfl,?_⟩;conv=>whnf)
         refine⟨_,kq,?_⟩
         conv=>whnf
         refine⟨gst [ng 0,nt 2 m,nt 4 i,(5,.c (.p 5 0 4 0 0))] (R4b B u),wt (ks:=[some 0,some 1,some 2,some 3,some 4,some 25]) ⟨gk4 rfl,rs rfl,rs rfl,rs rfl,rs rfl,Rf.boxU rfl rfl rfl,trivial⟩ ⟨⟨_,rfl,rfl,rfl⟩,⟨_,rfl,rfl⟩,⟨_,rfl,rfl⟩,⟨_,rfl,rfl,rfl⟩,trivial⟩,?_⟩
         refine swp_mid (fun _:Unit=>gst [ng 0,nt 2 m,nt 4 i,(5,.c (.p 5 0 4 0 0))] (R4b (ra u i m B) u)) (fun _=>True) ?_ fun _ _=>?_
         · refine sq ?_
           conv=>whnf
           repeat (refine⟨by first | exact cR | exact ib rfl | exact ixl rfl,?_⟩;conv=>whnf)
           refine⟨(fun j:Nat=>gst [ng 0,nt 2 m,nt 4 i,(5,.c (.p 5 0 4 0 0)),(85,.c (.int .i64 4)),nt 86 j] (R4b (md1 u i m B j) u)) 0,wbe4 (fun b x hb hx=>md1_zero u _ _ B b x) ⟨⟨_,rfl,rfl,rfl⟩,⟨_,rfl,rfl⟩,⟨_,rfl,rfl⟩,⟨_,rfl,rfl,rfl⟩,⟨_,rfl,rfl⟩,⟨_,rfl,rfl⟩,trivial⟩,?_⟩
           refine swp_block (swp_loop (fun j:Nat=>gst [ng 0,nt 2 m,nt 4 i,(5,.c (.p 5 0 4 0 0)),(85,.c (.int .i64 4)),nt 86 j] (R4b (md1 u i m B j) u)) (fun j=>4-j) (fun j=>j≤4) 0 (Weak.refl _) (Nat.zero_le _) fun j hj=>?_)
           have v1:=v1 j
           have v2:=v2 j
           have hj0:(0:Int)≤(j:Int):=by omega
           refine so ?_
           conv=>whnf
           refine bcase (fun(h:decide ((j:Int)<4)=true)=>?_) fun(h:decide ((j:Int)<4)=false)=>?_
           · have h:=of_decide_eq_true h
             have v1:=v1 (by omega)
             have v2:=v2 (by omega)
             have hj1:(j:Int)<((4:Nat):Int):=by omega
             conv=>whnf
             repeat (refine⟨by first | exact hj0 | exact hj1 | exact ib rfl | exact ixl rfl,?_⟩;conv=>whnf)
             refine⟨_,v1,?_⟩
             conv=>whnf
             repeat (refine⟨by first | exact hj0 | exact hj1 | exact ib rfl | exact ixl rfl,?_⟩;conv=>whnf)
             refine⟨_,v2,?_⟩
             conv=>whnf
             repeat (refine⟨by first | exact hj0 | exact hj1 | exact ib rfl | exact ixl rfl,?_⟩;conv=>whnf)
             refine⟨i64_range (by omega) (by omega),?_⟩
             conv=>whnf
             exact⟨j+1,by omega,wt (ks:=[some 0,some 1,some 2,some 3,some 4,some 5]) ⟨gk4 rfl,by first | exact mk1 rfl | exact mu1 rfl,by first | exact mk1 rfl | exact mu1 rfl,by first | exact mk1 rfl | exact mu1 rfl,by first | exact mk1 rfl | exact mu1 rfl,Rf.boxK rfl rfl,trivial⟩ ⟨⟨_,rfl,rfl,rfl⟩,⟨_,rfl,rfl⟩,⟨_,rfl,rfl⟩,⟨_,rfl,rfl,rfl⟩,⟨_,rfl,rfl⟩,⟨_,rfl,rfl⟩,trivial⟩,by omega⟩
           · have h:=of_decide_eq_false h
             obtain rfl:j=4:=by omega
             conv=>whnf
             exact⟨(),trivial,wbe4 (fun b x hb hx=>md1_all u _ _ B hx b) ⟨⟨_,rfl,rfl,rfl⟩,⟨_,rfl,rfl⟩,⟨_,rfl,rfl⟩,⟨_,rfl,rfl,rfl⟩,trivial⟩⟩
         generalize ra u i m B=D at *
         clear v1 v2 nz kq
         refine sq ?_
         conv=>whnf
         repeat (refine⟨by first | exact cR | exact ib rfl | exact ixl rfl,?_⟩;conv=>whnf)
         refine⟨(fun j:Nat=>gst [ng 0,nt 2 m,nt 4 i,(5,.c (.p 5 0 4 0 0)),(114,.c (.int .i64 4)),nt 115 j] (R4b (md2 u i m D j) u)) 0,wbe4 (fun b x hb hx=>md2_zero u _ _ D b x) ⟨⟨_,rfl,rfl,rfl⟩,⟨_,rfl,rfl⟩,⟨_,rfl,rfl⟩,⟨_,rfl,rfl,rfl⟩,⟨_,rfl,rfl⟩,⟨_,rfl,rfl⟩,trivial⟩,?_⟩
         refine swp_block (swp_loop (fun j:Nat=>gst [ng 0,nt 2 m,nt 4 i,(5,.c (.p 5 0 4 0 0)),(114,.c (.int .i64 4)),nt 115 j] (R4b (md2 u i m D j) u)) (fun j=>4-j) (fun j=>j≤4) 0 (Weak.refl _) (Nat.zero_le _) fun j hj=>?_)
         rcases Nat.lt_or_ge j 4 with jlt | jge
         rotate_left
         · obtain rfl:j=4:=Nat.le_antisymm hj jge
           refine so ?_
           conv=>whnf
           exact⟨(),trivial,we4 (fun b x hb hx=>(hel b x).trans (md2_all u _ _ D hb x)) ⟨⟨_,rfl,rfl,rfl⟩,⟨_,rfl,rfl⟩,⟨_,rfl,rfl⟩,trivial⟩⟩
         have w1:=w1 j jlt
         have w2:=w2 j jlt
         have e:j=0∨j=1∨j=2∨j=3:=by omega
         clear hj hel hez
         revert w1 w2 jlt
         rcases e with e | e | e | e <;> (
           apply lets e
           intro j jlt w1 w2
           refine so ?_
           conv=>whnf
           repeat (refine⟨by first | exact cR | exact ib rfl | exact ixl rfl,?_⟩;conv=>whnf)
           refine⟨_,w1,?_⟩
           conv=>whnf
           repeat (refine⟨by first | exact cR | exact ib rfl | exact ixl rfl,?_⟩;conv=>whnf)
           refine⟨_,w2,?_⟩
           conv=>whnf
           repeat (refine⟨by first | exact ib rfl | exact ixl rfl,?_⟩;conv=>whnf)
           refine⟨i64_range (by omega) (by omega),?_⟩
           conv=>whnf
           exact⟨j+1,by omega,wt (ks:=[some 0,some 1,some 2,some 3,some 4,some 5]) ⟨gk4 rfl,by first | exact mk2 rfl | exact mu2 rfl,by first | exact mk2 rfl | exact mu2 rfl,by first | exact mk2 rfl | exact mu2 rfl,by first | exact mk2 rfl | exact mu2 rfl,Rf.boxK rfl rfl,trivial⟩ ⟨⟨_,rfl,rfl,rfl⟩,⟨_,rfl,rfl⟩,⟨_,rfl,rfl⟩,⟨_,rfl,rfl,rfl⟩,⟨_,rfl,rfl⟩,⟨_,rfl,rfl⟩,trivial⟩,jlt⟩))))
theorem hess_4 (M:Nat->Nat->Rat) {L:Nat} (hM:Bq 4 L M) (h1:1≤L) (hL:16*KB 4 L+16≤LIM):FnT Tryz.prog true 40 1 ((R4 M).map gb) [.c (.gs 0 0)] (.c .any) ((R4 (hsn 4 M)).map gb):=hess4 M (fun m _ h=>hs_kb hM h1 (by omega)) (fun m t h0 h hp ht=>el_kb hM h1 h0 h hp ht) (KB_pos h1) hL
end Mx
end Go.Proofs.YtkmbnldginonbaaGreat
/- charpoly.hessenberg at 5 rows. -/
namespace Go.Proofs.YtkmbnldginonbaaGreat
open Go.RowKit
namespace Mx
set_option maxHeartbeats 64000000 in
set_option maxRecDepth 100000 in
theorem hess5 (M:Nat->Nat->Rat) {K:Nat} (hA:∀ m,1≤m->m+1<5->Bq 5 K (hs 5 M m)) (hE:∀ m t,1≤m->m+1<5->pv 5 (hs 5 M m) m<5->m+t<5->Bq 5 K (el m (xch (sw (pv 5 (hs 5 M m) m) m) (hs 5 M m)) t)) (hK:1≤K) (hL:16*K+16≤LIM):FnT Tryz.prog true 40 1 ((R5 M).map gb) [.c (.gs 0 0)] (.c .any) ((R5 (hsn 5 M)).map gb):=by
  refine fnt_okS (E:=E1m) E1m_ok Tryz.func40 rfl (by kernel_rfl) ?_
  refine sq ?_
  conv=>whnf
  refine⟨(fun m:Nat=>gst [ng 0,nt 2 m] (R5 (hs 5 M m))) 1,ws5 ⟨⟨_,rfl,rfl,rfl⟩,⟨_,rfl,rfl⟩,trivial⟩,?_⟩
  refine swp_block (swp_loop (fun m:Nat=>gst [ng 0,nt 2 m] (R5 (hs 5 M m))) (fun m=>6-m) (fun m=>1≤m/\m≤4) 1 (Weak.refl _) (by decide) fun m hm=>?_)
  rcases Nat.lt_or_ge (m+1) 5 with hlt | hge
  rotate_left
  · obtain rfl:m=4:=by omega
    refine so ?_
    conv=>whnf
    repeat (refine⟨by first | exact ib rfl | exact ia rfl | exact rgl rfl,?_⟩;conv=>whnf)
    exact wt (tl:=[(0,.c .any)]) (xs:=R5 (hsn 5 M)) (ks:=[some 0,some 1,some 2,some 3,some 4,some 5]) ⟨gk5 rfl,rs rfl,rs rfl,rs rfl,rs rfl,rs rfl,trivial⟩ ⟨⟨rfl,rfl⟩,trivial⟩
  have m1:=hm.1
  have hA:=hA m m1 hlt
  have hE:=fun hp t ht=>hE m t m1 hlt hp ht
  have hpiv:=fun(hp:pv 5 (hs 5 M m) m<5) (t:Nat)=>el_piv m1 hlt hp t
  refine sq ?_
  conv=>whnf
  refine⟨i64_range (by omega) (by omega),?_⟩
  conv=>whnf
  refine bpos (show decide (((m:Nat):Int)+1<5)=true from decide_eq_true (by omega)) ?_
  conv=>whnf
  refine⟨gst [ng 0,nt 2 m] (R5 (hs 5 M m)),ws5 ⟨⟨_,rfl,rfl,rfl⟩,⟨_,rfl,rfl⟩,trivial⟩,?_⟩
  refine swp_mid (fun _:Unit=>gst [ng 0,nt 2 m] (R5 (stp 5 m (hs 5 M m)))) (fun _=>True) ?_ fun _ _=>?_
  rotate_left
  · refine so ?_
    conv=>whnf
    refine⟨i64_range (by omega) (by omega),?_⟩
    conv=>whnf
    exact⟨m+1,by omega,we5 (fun b x hb hx=>congrFun (congrFun (hs_succ 5 M m1) b) x) ⟨⟨_,rfl,rfl,rfl⟩,⟨_,rfl,rfl⟩,trivial⟩,by omega,by omega⟩
  refine swp_block ?_
  generalize hs 5 M m=A at *
  have cT:(((m:Nat):Int)-1).toNat=m-1:=by omega
  have cR:inR .i64 (((m:Nat):Int)-1):=i64_range (by omega) (by omega)
  have c0:(0:Int)≤((m:Nat):Int)-1:=by omega
  have c1:((m:Nat):Int)-1<((5:Nat):Int):=by omega
  have nz:∀ a,a<5->FnOK Tryz.prog true 47 [.g (nq (A a (((m:Nat):Int)-1).toNat))] (.c (.bool (decide (A a (m-1)≠0)))):=fun a ha=>by
    rw[cT]
    exact nz_ok (hA a (m-1) ha (by omega)) (by omega)
  obtain⟨p1,p2,-,-⟩:=pv_spec 5 A (show m≤5 by omega)
  generalize hpv:pv 5 A m=P at *
  refine sq ?_
  conv=>whnf
  refine⟨(fun a:Nat=>gst [ng 0,nt 2 m,nt 3 a] (R5 A)) m,ws5 ⟨⟨_,rfl,rfl,rfl⟩,⟨_,rfl,rfl⟩,⟨_,rfl,rfl⟩,trivial⟩,?_⟩
  refine swp_mid (fun _:Unit=>(fun a:Nat=>gst [ng 0,nt 2 m,nt 3 a] (R5 A)) P) (fun _=>True) ?_ fun _ _=>?_
  · refine swp_block (swp_loop (fun a:Nat=>gst [ng 0,nt 2 m,nt 3 a] (R5 A)) (fun a=>5-a) (fun a=>m≤a/\a≤5/\pvf A (m-1) (5-a) a=P) m (Weak.refl _) ⟨Nat.le_refl m,by omega,hpv⟩ fun a ha=>?_)
    obtain⟨a1,a2,a3⟩:=ha
    rcases Nat.lt_or_ge a 5 with alt | age
    rotate_left
    · obtain rfl:a=5:=by omega
      refine so ?_
      conv=>whnf
      have eP:5=P:=a3
      exact⟨(),trivial,ws5 ⟨⟨_,rfl,rfl,rfl⟩,⟨_,rfl,rfl⟩,⟨_,rfl,by rw[← eP]⟩,trivial⟩⟩
    have nz:=nz a alt
    have n0:A a (m-1)=0->pvf A (m-1) (5-(a+1)) (a+1)=P:=fun h=>by rw[← a3,show 5-a=5-(a+1)+1 by omega,pvf_next h]
    have n1:A a (m-1)≠0->a=P:=fun h=>by rw[← a3,show 5-a=5-(a+1)+1 by omega,pvf_stop h]
    have e:a=0∨a=1∨a=2∨a=3∨a=4:=by omega
    have F:_/\_/\_/\_/\_:=⟨nz,n0,n1,alt,a1⟩
    clear a2 a3 nz n0 n1 alt a1
    revert F
    rcases e with e | e | e | e | e <;> (
      apply lets e
      intro a F
      obtain⟨nz,n0,n1,alt,a1⟩:=F
      refine so ?_
      conv=>whnf
      repeat (refine⟨by first | exact cR | exact c0 | exact c1 | exact ib rfl | exact ixl rfl,?_⟩;conv=>whnf)
      refine⟨_,nz,?_⟩
      conv=>whnf
      refine bcase (fun(h:(!decide (A a (m-1)≠0))=true)=>?_) fun(h:(!decide (A a (m-1)≠0))=false)=>?_
      · have h0:A a (m-1)=0:=by simpa using h
        conv=>whnf
        refine⟨i64_range (by omega) (by omega),?_⟩
        conv=>whnf
        exact⟨a+1,by omega,ws5 ⟨⟨_,rfl,rfl,rfl⟩,⟨_,rfl,rfl⟩,⟨_,rfl,rfl⟩,trivial⟩,by omega,by omega,n0 h0⟩
      · have h0:A a (m-1)≠0:=by simpa using h
        conv=>whnf
        exact⟨(),trivial,ws5 ⟨⟨_,rfl,rfl,rfl⟩,⟨_,rfl,rfl⟩,⟨_,rfl,by rw[← n1 h0]⟩,trivial⟩⟩)
  refine swp_mid2 (fun _:Unit=>gst [ng 0,nt 2 m] (R5 (xch (sw P m) A))) (fun _=>P<5) ?_ fun _ hP=>?_
  · rcases Nat.lt_or_ge P 5 with hP | hP
    rotate_left
    · obtain rfl:P=5:=by omega
      refine so ?_
      conv=>whnf
      exact⟨(),trivial,we5 (fun b x hb hx=>stp_none hpv b x) ⟨⟨_,rfl,rfl,rfl⟩,⟨_,rfl,rfl⟩,trivial⟩⟩
    refine so ?_
    conv=>whnf
    refine bneg (show decide (((P:Nat):Int)=5)=false from decide_eq_false (by omega)) ?_
    conv=>whnf
    rcases Nat.lt_or_ge m P with hm2 | hm2
    rotate_left
    · obtain rfl:m=P:=by omega
      refine so ?_
      conv=>whnf
      refine bneg (show(!decide (((m:Nat):Int)=(m:Nat)))=false by simp) ?_
      conv=>whnf
      exact⟨(),hP,we5 (fun b x hb hx=>xch_self A b x) ⟨⟨_,rfl,rfl,rfl⟩,⟨_,rfl,rfl⟩,trivial⟩⟩
    refine sq ?_
    conv=>whnf
    refine⟨gst [ng 0,nt 2 m,nt 3 P,(41,.c (.bool true))] (R5 A),ws5 ⟨⟨_,rfl,rfl,rfl⟩,⟨_,rfl,rfl⟩,⟨_,rfl,rfl⟩,⟨_,rfl,by simp;omega⟩,trivial⟩,?_⟩
    refine swp_cond (b:=true) rfl (fun _=>?_) fun h=>absurd h (by decide)
    refine swp_goT E1m_ok (pre:=[_,_,_]) (post:=[]) rfl rfl (by kernel_rfl) ?_
    conv=>whnf
    refine⟨1,_,by decide,OpGoT.call0 (f:=92) (cs:=[]) rfl rfl live_all (exch_5 A hm2 hP) (lt_put (lt_put (lt_put (lt_asg (tl:=[ng 0,nt 2 m,nt 3 P,(41,.c (.bool true))]) ⟨rfl,rfl,rfl,rfl,trivial⟩) rfl) rfl) rfl),?_⟩
    conv=>whnf
    exact⟨(),hP,ws5 ⟨⟨_,rfl,rfl,rfl⟩,⟨_,rfl,rfl⟩,trivial⟩⟩
  have hE:=hE hP
  have hpiv:=hpiv hP
  have hst:=fun b x=>stp_some hpv hP b x
  clear nz p1 hpv hA
  generalize stp 5 m A=Z at *
  generalize xch (sw P m) A=A1 at *
  clear hP p2
  refine sq ?_
  conv=>whnf
  refine⟨i64_range (by omega) (by omega),?_⟩
  conv=>whnf
  refine⟨(fun t:Nat=>gst [ng 0,nt 2 m,nt 4 (m+1+t)] (R5 (el m A1 t))) 0,ws5 ⟨⟨_,rfl,rfl,rfl⟩,⟨_,rfl,rfl⟩,⟨_,rfl,rfl⟩,trivial⟩,?_⟩
  refine swp_block (swp_loop (fun t:Nat=>gst [ng 0,nt 2 m,nt 4 (m+1+t)] (R5 (el m A1 t))) (fun t=>5-t) (fun t=>m+1+t≤5) 0 (Weak.refl _) (by omega) fun t ht=>?_)
  have ht:m+1+t≤5:=ht
  rcases Nat.lt_or_ge (m+1+t) 5 with tlt | tge
  rotate_left
  · obtain rfl:t=4-m:=by omega
    refine so ?_
    conv=>whnf
    refine bneg (show decide (((m+1+(4-m):Nat):Int)<5)=false from decide_eq_false (by omega)) ?_
    conv=>whnf
    exact⟨(),trivial,we5 (fun b x hb hx=>hst b x) ⟨⟨_,rfl,rfl,rfl⟩,⟨_,rfl,rfl⟩,trivial⟩⟩
  clear hst ht
  obtain⟨i,hi⟩:∃ i,i=m+1+t:=⟨_,rfl⟩
  have hB:=hE t (by omega)
  have hq:=hpiv t
  clear hE hpiv
  refine sq ?_
  conv=>whnf
  refine bpos (show decide (((m+1+t:Nat):Int)<5)=true from decide_eq_true (by omega)) ?_
  conv=>whnf
  refine⟨gst [ng 0,nt 2 m,nt 4 i] (R5 (el m A1 t)),ws5 ⟨⟨_,rfl,rfl,rfl⟩,⟨_,rfl,rfl⟩,⟨_,rfl,by rw[hi]⟩,trivial⟩,?_⟩
  refine swp_mid (fun _:Unit=>gst [ng 0,nt 2 m,nt 4 i] (R5 (el1 m i (el m A1 t)))) (fun _=>True) ?_ fun _ _=>?_
  rotate_left
  · refine so ?_
    conv=>whnf
    refine⟨i64_range (by omega) (by omega),?_⟩
    conv=>whnf
    exact⟨t+1,by omega,we5 (fun b x hb hx=>by rw[hi];rfl) ⟨⟨_,rfl,rfl,rfl⟩,⟨_,rfl,rfl⟩,⟨_,rfl,by omega⟩,trivial⟩,by show m+1+(t+1)≤5;omega⟩
  refine swp_block ?_
  generalize el m A1 t=B at *
  have im:m<i:=by omega
  have i5:i<5:=by omega
  have m5:m<5:=by omega
  have c5:m-1<5:=by omega
  have hx:∀ a b,a<5->b<5->qlen (B a b)≤K:=hB
  have nz:=nz_ok (x:=B i (m-1)) (hx i (m-1) i5 c5) (by omega)
  have kq:=qquo_n (hx i (m-1) i5 c5) (hx m (m-1) m5 c5) (by omega) hq rfl
  have hu:qlen (B i (m-1) / B m (m-1))≤2*K:=Nat.le_trans (q_div (hx i (m-1) i5 c5) (hx m (m-1) m5 c5) (by omega)) (by omega)
  have hel:=fun(h0:¬ B i (m-1)=0) a b=>el1_some (m:=m) (i:=i) (A:=B) h0 rfl a b
  have hez:=fun(h0:B i (m-1)=0) a b=>el1_zero (m:=m) (i:=i) (A:=B) h0 a b
  change ∀(h0:¬ B i (m-1)=0) (a b:Nat),el1 m i B a b=ca (B i (m-1) / B m (m-1)) i m (ra (B i (m-1) / B m (m-1)) i m B) a b at hel
  generalize el1 m i B=Y at *
  generalize B i (m-1) / B m (m-1)=u at *
  have v1:∀ j,j<5->FnOK Tryz.prog true 46 [.g (nq u),.g (nq (md1 u i m B j m j))] (.g (nq (u*B m j))):=fun j hj=>qmul_n hu (by rw[md1_m u (by omega)];exact hx m j m5 hj) (by omega) (by rw[md1_m u (by omega)])
  have v2:∀ j,j<5->FnOK Tryz.prog true 50 [.g (nq (md1 u i m B j i j)),.g (nq (u*B m j))] (.g (nq (B i j-u*B m j))):=fun j hj=>qsub_n (by rw[md1_old];exact hx i j i5 hj) (q_mul hu (hx m j m5 hj) (by omega)) (by omega) (by omega) (by rw[md1_old])
  have hR:=ra_kb (i:=i) hB hu m5 hK
  have w1:∀ j,j<5->FnOK Tryz.prog true 46 [.g (nq u),.g (nq (md2 u i m (ra u i m B) j j i))] (.g (nq (u*ra u i m B j i))):=fun j hj=>qmul_n hu (by rw[md2_old];exact hR j i hj i5) (by omega) (by rw[md2_old])
  have w2:∀ j,j<5->FnOK Tryz.prog true 93 [.g (nq (md2 u i m (ra u i m B) j j m)),.g (nq (u*ra u i m B j i))] (.g (nq (ra u i m B j m+u*ra u i m B j i))):=fun j hj=>qadd_n (by rw[md2_old];exact hR j m hj m5) (q_mul hu (hR j i hj i5) (by omega)) (by omega) (by rw[md2_old])
  have e:m=1∨m=2∨m=3:=by omega
  clear hR hu hx hB hq hi tlt cT c0 c1 hm hlt m1
  have F:_/\_/\_/\_/\_/\_/\_/\_/\_/\_:=⟨cR,im,nz,kq,hel,hez,v1,v2,w1,w2⟩
  clear cR im nz kq hel hez v1 v2 w1 w2 m5 c5
  revert F
  rcases e with e | e | e <;> (
    apply lets e
    intro m F
    have e:i=2∨i=3∨i=4:=by omega
    revert F
    rcases e with e | e | e <;> (
      apply lets e
      intro i F
      obtain⟨cR,im,nz,kq,hel,hez,v1,v2,w1,w2⟩:=F
      first
      | exact absurd im (of_decide_eq_false rfl)
      | (
         refine sq ?_
         conv=>whnf
         repeat (refine⟨by first | exact cR | exact ib rfl | exact ixl rfl,?_⟩;conv=>whnf)
         refine⟨_,nz,?_⟩
         conv=>whnf
         refine bcase (fun(h:(!decide (B i (m-1)≠0))=true)=>?_) fun(h:(!decide (B i (m-1)≠0))=false)=>?_
         · have h0:B i (m-1)=0:=by simpa using h
           conv=>whnf
           exact⟨(),trivial,we5 (fun b x hb hx=>hez h0 b x) ⟨⟨_,rfl,rfl,rfl⟩,⟨_,rfl,rfl⟩,⟨_,rfl,rfl⟩,trivial⟩⟩
         have h0:¬ B i (m-1)=0:=by simpa using h
         conv=>whnf
         refine⟨gst [ng 0,nt 2 m,nt 4 i] (R5 B),ws5 ⟨⟨_,rfl,rfl,rfl⟩,⟨_,rfl,rfl⟩,⟨_,rfl,rfl⟩,trivial⟩,?_⟩
         have hel:=hel h0
         refine sq ?_
         conv=>whnf
         repeat (refine⟨by first | exact cR | exact ib rfl | exact ixl rfl,?_⟩;conv=>whnf)
         refine⟨_,kq,?_⟩
         conv=>whnf
         refine⟨gst [ng 0,nt 2 m,nt 4 i,(5,.c (.p 6 0 4 0 0))] (R5b B u),wt (ks:=[some 0,some 1,some 2,some 3,some 4,some 5,some 26]) ⟨gk5 rfl,rs rfl,rs rfl,rs rfl,rs rfl,rs rfl,Rf.boxU rfl rfl rfl,trivial⟩ ⟨⟨_,rfl,rfl,rfl⟩,⟨_,rfl,rfl⟩,⟨_,rfl,rfl⟩,⟨_,rfl,rfl,rfl⟩,trivial⟩,?_⟩
         refine swp_mid (fun _:Unit=>gst [ng 0,nt 2 m,nt 4 i,(5,.c (.p 6 0 4 0 0))] (R5b (ra u i m B) u)) (fun _=>True) ?_ fun _ _=>?_
         · refine sq ?_
           conv=>whnf
           repeat (refine⟨by first | exact cR | exact ib rfl | exact ixl rfl,?_⟩;conv=>whnf)
           refine⟨(fun j:Nat=>gst [ng 0,nt 2 m,nt 4 i,(5,.c (.p 6 0 4 0 0)),(85,.c (.int .i64 5)),nt 86 j] (R5b (md1 u i m B j) u)) 0,wbe5 (fun b x hb hx=>md1_zero u _ _ B b x) ⟨⟨_,rfl,rfl,rfl⟩,⟨_,rfl,rfl⟩,⟨_,rfl,rfl⟩,⟨_,rfl,rfl,rfl⟩,⟨_,rfl,rfl⟩,⟨_,rfl,rfl⟩,trivial⟩,?_⟩
           refine swp_block (swp_loop (fun j:Nat=>gst [ng 0,nt 2 m,nt 4 i,(5,.c (.p 6 0 4 0 0)),(85,.c (.int .i64 5)),nt 86 j] (R5b (md1 u i m B j) u)) (fun j=>5-j) (fun j=>j≤5) 0 (Weak.refl _) (Nat.zero_le _) fun j hj=>?_)
           have v1:=v1 j
           have v2:=v2 j
           have hj0:(0:Int)≤(j:Int):=by omega
           refine so ?_
           conv=>whnf
           refine bcase (fun(h:decide ((j:Int)<5)=true)=>?_) fun(h:decide ((j:Int)<5)=false)=>?_
           · have h:=of_decide_eq_true h
             have v1:=v1 (by omega)
             have v2:=v2 (by omega)
             have hj1:(j:Int)<((5:Nat):Int):=by omega
             conv=>whnf
             repeat (refine⟨by first | exact hj0 | exact hj1 | exact ib rfl | exact ixl rfl,?_⟩;conv=>whnf)
             refine⟨_,v1,?_⟩
             conv=>whnf
             repeat (refine⟨by first | exact hj0 | exact hj1 | exact ib rfl | exact ixl rfl,?_⟩;conv=>whnf)
             refine⟨_,v2,?_⟩
             conv=>whnf
             repeat (refine⟨by first | exact hj0 | exact hj1 | exact ib rfl | exact ixl rfl,?_⟩;conv=>whnf)
             refine⟨i64_range (by omega) (by omega),?_⟩
             conv=>whnf
             exact⟨j+1,by omega,wt (ks:=[some 0,some 1,some 2,some 3,some 4,some 5,some 6]) ⟨gk5 rfl,by first | exact mk1 rfl | exact mu1 rfl,by first | exact mk1 rfl | exact mu1 rfl,by first | exact mk1 rfl | exact mu1 rfl,by first | exact mk1 rfl | exact mu1 rfl,by first | exact mk1 rfl | exact mu1 rfl,Rf.boxK rfl rfl,trivial⟩ ⟨⟨_,rfl,rfl,rfl⟩,⟨_,rfl,rfl⟩,⟨_,rfl,rfl⟩,⟨_,rfl,rfl,rfl⟩,⟨_,rfl,rfl⟩,⟨_,rfl,rfl⟩,trivial⟩,by omega⟩
           · have h:=of_decide_eq_false h
             obtain rfl:j=5:=by omega
             conv=>whnf
             exact⟨(),trivial,wbe5 (fun b x hb hx=>md1_all u _ _ B hx b) ⟨⟨_,rfl,rfl,rfl⟩,⟨_,rfl,rfl⟩,⟨_,rfl,rfl⟩,⟨_,rfl,rfl,rfl⟩,trivial⟩⟩
         generalize ra u i m B=D at *
         clear v1 v2 nz kq
         refine sq ?_
         conv=>whnf
         repeat (refine⟨by first | exact cR | exact ib rfl | exact ixl rfl,?_⟩;conv=>whnf)
         refine⟨(fun j:Nat=>gst [ng 0,nt 2 m,nt 4 i,(5,.c (.p 6 0 4 0 0)),(114,.c (.int .i64 5)),nt 115 j] (R5b (md2 u i m D j) u)) 0,wbe5 (fun b x hb hx=>md2_zero u _ _ D b x) ⟨⟨_,rfl,rfl,rfl⟩,⟨_,rfl,rfl⟩,⟨_,rfl,rfl⟩,⟨_,rfl,rfl,rfl⟩,⟨_,rfl,rfl⟩,⟨_,rfl,rfl⟩,trivial⟩,?_⟩
         refine swp_block (swp_loop (fun j:Nat=>gst [ng 0,nt 2 m,nt 4 i,(5,.c (.p 6 0 4 0 0)),(114,.c (.int .i64 5)),nt 115 j] (R5b (md2 u i m D j) u)) (fun j=>5-j) (fun j=>j≤5) 0 (Weak.refl _) (Nat.zero_le _) fun j hj=>?_)
         rcases Nat.lt_or_ge j 5 with jlt | jge
         rotate_left
         · obtain rfl:j=5:=Nat.le_antisymm hj jge
           refine so ?_
           conv=>whnf
           exact⟨(),trivial,we5 (fun b x hb hx=>(hel b x).trans (md2_all u _ _ D hb x)) ⟨⟨_,rfl,rfl,rfl⟩,⟨_,rfl,rfl⟩,⟨_,rfl,rfl⟩,trivial⟩⟩
         have w1:=w1 j jlt
         have w2:=w2 j jlt
         have e:j=0∨j=1∨j=2∨j=3∨j=4:=by omega
         clear hj hel hez
         revert w1 w2 jlt
         rcases e with e | e | e | e | e <;> (
           apply lets e
           intro j jlt w1 w2
           refine so ?_
           conv=>whnf
           repeat (refine⟨by first | exact cR | exact ib rfl | exact ixl rfl,?_⟩;conv=>whnf)
           refine⟨_,w1,?_⟩
           conv=>whnf
           repeat (refine⟨by first | exact cR | exact ib rfl | exact ixl rfl,?_⟩;conv=>whnf)
           refine⟨_,w2,?_⟩
           conv=>whnf
           repeat (refine⟨by first | exact ib rfl | exact ixl rfl,?_⟩;conv=>whnf)
           refine⟨i64_range (by omega) (by omega),?_⟩
           conv=>whnf
           exact⟨j+1,by omega,wt (ks:=[some 0,some 1,some 2,some 3,some 4,some 5,some 6]) ⟨gk5 rfl,by first | exact mk2 rfl | exact mu2 rfl,by first | exact mk2 rfl | exact mu2 rfl,by first | exact mk2 rfl | exact mu2 rfl,by first | exact mk2 rfl | exact mu2 rfl,by first | exact mk2 rfl | exact mu2 rfl,Rf.boxK rfl rfl,trivial⟩ ⟨⟨_,rfl,rfl,rfl⟩,⟨_,rfl,rfl⟩,⟨_,rfl,rfl⟩,⟨_,rfl,rfl,rfl⟩,⟨_,rfl,rfl⟩,⟨_,rfl,rfl⟩,trivial⟩,jlt⟩))))
theorem hess_5 (M:Nat->Nat->Rat) {L:Nat} (hM:Bq 5 L M) (h1:1≤L) (hL:16*KB 5 L+16≤LIM):FnT Tryz.prog true 40 1 ((R5 M).map gb) [.c (.gs 0 0)] (.c .any) ((R5 (hsn 5 M)).map gb):=hess5 M (fun m _ h=>hs_kb hM h1 (by omega)) (fun m t h0 h hp ht=>el_kb hM h1 h0 h hp ht) (KB_pos h1) hL
end Mx
end Go.Proofs.YtkmbnldginonbaaGreat
/- charpoly.CharPoly at matrices of at most five rows. -/
namespace Go.Proofs.YtkmbnldginonbaaGreat
open Go.RowKit
namespace Mx
open Rf
theorem rr_of {P:Program} {r:Bool} {f:FuncId} {m:Nat} {bl:List Blk} {args:List V} {X:V} {a b:List Gx} (h:a=b) (k:FnT P r f m bl args X (a.map gb)):FnT P r f m bl args X (b.map gb):=h ▸ k
theorem rr_ex {P:Program} {r:Bool} {f:FuncId} {m:Nat} {args:List V} {X:V} {a b c d:List Gx} (h:a=b) (h2:c=d) (k:FnT P r f m (a.map gb) args X (c.map gb)):FnT P r f m (b.map gb) args X (d.map gb):=h ▸ h2 ▸ k
theorem pb8 (K n:Nat):8*K≤PB K n:=by
 unfold PB
 exact Nat.mul_le_mul_right K (Nat.le_mul_of_pos_right 8 (Nat.pow_pos (by omega)))
end Mx
end Go.Proofs.YtkmbnldginonbaaGreat
/- Rows and columns exchanged, six rows. -/
namespace Go.Proofs.YtkmbnldginonbaaGreat
open Go.RowKit
namespace Mx
set_option maxHeartbeats 64000000 in
set_option maxRecDepth 100000 in
theorem exch_6 (M:Nat->Nat->Rat) {i j:Nat} (hij:j<i) (hi:i<6):FnT Tryz.prog true 92 1 ((R6 M).map gb) [.c (.gs 0 0),.c (.int .i64 i),.c (.int .i64 j)] (.c .any) ((R6 (xch (sw i j) M)).map gb):=by
  have e:i=1∨i=2∨i=3∨i=4∨i=5:=by omega
  revert hij hi
  rcases e with e | e | e | e | e <;> (
    apply lets e
    intro i hij hi
    have e:j=0∨j=1∨j=2∨j=3∨j=4:=by omega
    revert hij
    rcases e with e | e | e | e | e <;> (
      apply lets e
      intro j hij
      first
      | exact absurd hij (of_decide_eq_false rfl)
      | (
         clear hij hi
         refine fnt_okS (E:=E1m) E1m_ok Tryz.func92 rfl (by kernel_rfl) ?_
         refine sq ?_
         conv=>whnf
         repeat (refine⟨ib rfl,ia rfl,?_⟩;conv=>whnf)
         refine⟨gst [(0,.c (.gs 0 0)),(1,.c (.int .i64 i)),(2,.c (.int .i64 j))] [gG 6 (sw i j),gq 6 (M 0),gq 6 (M 1),gq 6 (M 2),gq 6 (M 3),gq 6 (M 4),gq 6 (M 5)],wt (ks:=[some 0,some 1,some 2,some 3,some 4,some 5,some 6]) ⟨gp6 rfl,rs rfl,rs rfl,rs rfl,rs rfl,rs rfl,rs rfl,trivial⟩ ⟨⟨_,rfl,rfl,rfl⟩,⟨_,rfl,rfl⟩,⟨_,rfl,rfl⟩,trivial⟩,?_⟩
         refine sq ?_
         conv=>whnf
         refine⟨(fun k:Nat=>gst [(1,.c (.int .i64 i)),(2,.c (.int .i64 j)),(22,.c (.gs 0 0)),(23,.c (.int .i64 6)),(24,.c (.int .i64 (k:Nat)))] [gG 6 (sw i j),gq 6 (xr M i j k 0),gq 6 (xr M i j k 1),gq 6 (xr M i j k 2),gq 6 (xr M i j k 3),gq 6 (xr M i j k 4),gq 6 (xr M i j k 5)]) 0,wt (ks:=[some 0,some 1,some 2,some 3,some 4,some 5,some 6]) ⟨gp6 rfl,xz rfl,xz rfl,xz rfl,xz rfl,xz rfl,xz rfl,trivial⟩ ⟨⟨_,rfl,rfl⟩,⟨_,rfl,rfl⟩,⟨_,rfl,rfl,rfl⟩,⟨_,rfl,rfl⟩,⟨_,rfl,rfl⟩,trivial⟩,?_⟩
         refine swp_block (swp_loop (fun k:Nat=>gst [(1,.c (.int .i64 i)),(2,.c (.int .i64 j)),(22,.c (.gs 0 0)),(23,.c (.int .i64 6)),(24,.c (.int .i64 (k:Nat)))] [gG 6 (sw i j),gq 6 (xr M i j k 0),gq 6 (xr M i j k 1),gq 6 (xr M i j k 2),gq 6 (xr M i j k 3),gq 6 (xr M i j k 4),gq 6 (xr M i j k 5)]) (fun k=>6-k) (fun k=>k≤6) 0 (Weak.refl _) (Nat.zero_le _) fun k hk=>?_)
         rcases Nat.lt_or_ge k 6 with hlt | hge
         rotate_left
         · obtain rfl:k=6:=Nat.le_antisymm hk hge
           refine so ?_
           conv=>whnf
           exact wt (tl:=[(0,.c .any)]) (xs:=R6 (xch (sw i j) M)) (ks:=[some 0,some (sw i j 0+1),some (sw i j 1+1),some (sw i j 2+1),some (sw i j 3+1),some (sw i j 4+1),some (sw i j 5+1)]) ⟨gp6 rfl,xa rfl,xa rfl,xa rfl,xa rfl,xa rfl,xa rfl,trivial⟩ ⟨⟨rfl,rfl⟩,trivial⟩
         have e:k=0∨k=1∨k=2∨k=3∨k=4∨k=5:=by omega
         clear hk hlt
         rcases e with e | e | e | e | e | e <;> (
           apply lets e
           intro k
           have hk:k<6:=ni rfl
           refine so ?_
           conv=>whnf
           repeat (refine⟨by first | exact ib rfl | exact ia rfl | exact ixl rfl,?_⟩;conv=>whnf)
           refine⟨i64_range (by omega) (by omega),?_⟩
           conv=>whnf
           exact⟨k+1,by omega,wt (ks:=[some 0,some 1,some 2,some 3,some 4,some 5,some 6]) ⟨gp6 rfl,by first | exact xk rfl | exact xu rfl,by first | exact xk rfl | exact xu rfl,by first | exact xk rfl | exact xu rfl,by first | exact xk rfl | exact xu rfl,by first | exact xk rfl | exact xu rfl,by first | exact xk rfl | exact xu rfl,trivial⟩ ⟨⟨_,rfl,rfl⟩,⟨_,rfl,rfl⟩,⟨_,rfl,rfl,rfl⟩,⟨_,rfl,rfl⟩,⟨_,rfl,rfl⟩,trivial⟩,hk⟩))))
end Mx
end Go.Proofs.YtkmbnldginonbaaGreat
/- charpoly.hessenberg at 6 rows. -/
namespace Go.Proofs.YtkmbnldginonbaaGreat
open Go.RowKit
namespace Mx
set_option maxHeartbeats 64000000 in
set_option maxRecDepth 100000 in
theorem hess6 (M:Nat->Nat->Rat) {K:Nat} (hA:∀ m,1≤m->m+1<6->Bq 6 K (hs 6 M m)) (hE:∀ m t,1≤m->m+1<6->pv 6 (hs 6 M m) m<6->m+t<6->Bq 6 K (el m (xch (sw (pv 6 (hs 6 M m) m) m) (hs 6 M m)) t)) (hK:1≤K) (hL:16*K+16≤LIM):FnT Tryz.prog true 40 1 ((R6 M).map gb) [.c (.gs 0 0)] (.c .any) ((R6 (hsn 6 M)).map gb):=by
  refine fnt_okS (E:=E1m) E1m_ok Tryz.func40 rfl (by kernel_rfl) ?_
  refine sq ?_
  conv=>whnf
  refine⟨(fun m:Nat=>gst [ng 0,nt 2 m] (R6 (hs 6 M m))) 1,ws6 ⟨⟨_,rfl,rfl,rfl⟩,⟨_,rfl,rfl⟩,trivial⟩,?_⟩
  refine swp_block (swp_loop (fun m:Nat=>gst [ng 0,nt 2 m] (R6 (hs 6 M m))) (fun m=>7-m) (fun m=>1≤m/\m≤5) 1 (Weak.refl _) (by decide) fun m hm=>?_)
  rcases Nat.lt_or_ge (m+1) 6 with hlt | hge
  rotate_left
  · obtain rfl:m=5:=by omega
    refine so ?_
    conv=>whnf
    repeat (refine⟨by first | exact ib rfl | exact ia rfl | exact rgl rfl,?_⟩;conv=>whnf)
    exact wt (tl:=[(0,.c .any)]) (xs:=R6 (hsn 6 M)) (ks:=[some 0,some 1,some 2,some 3,some 4,some 5,some 6]) ⟨gk6 rfl,rs rfl,rs rfl,rs rfl,rs rfl,rs rfl,rs rfl,trivial⟩ ⟨⟨rfl,rfl⟩,trivial⟩
  have m1:=hm.1
  have hA:=hA m m1 hlt
  have hE:=fun hp t ht=>hE m t m1 hlt hp ht
  have hpiv:=fun(hp:pv 6 (hs 6 M m) m<6) (t:Nat)=>el_piv m1 hlt hp t
  refine sq ?_
  conv=>whnf
  refine⟨i64_range (by omega) (by omega),?_⟩
  conv=>whnf
  refine bpos (show decide (((m:Nat):Int)+1<6)=true from decide_eq_true (by omega)) ?_
  conv=>whnf
  refine⟨gst [ng 0,nt 2 m] (R6 (hs 6 M m)),ws6 ⟨⟨_,rfl,rfl,rfl⟩,⟨_,rfl,rfl⟩,trivial⟩,?_⟩
  refine swp_mid (fun _:Unit=>gst [ng 0,nt 2 m] (R6 (stp 6 m (hs 6 M m)))) (fun _=>True) ?_ fun _ _=>?_
  rotate_left
  · refine so ?_
    conv=>whnf
    refine⟨i64_range (by omega) (by omega),?_⟩
    conv=>whnf
    exact⟨m+1,by omega,we6 (fun b x hb hx=>congrFun (congrFun (hs_succ 6 M m1) b) x) ⟨⟨_,rfl,rfl,rfl⟩,⟨_,rfl,rfl⟩,trivial⟩,by omega,by omega⟩
  refine swp_block ?_
  generalize hs 6 M m=A at *
  have cT:(((m:Nat):Int)-1).toNat=m-1:=by omega
  have cR:inR .i64 (((m:Nat):Int)-1):=i64_range (by omega) (by omega)
  have c0:(0:Int)≤((m:Nat):Int)-1:=by omega
  have c1:((m:Nat):Int)-1<((6:Nat):Int):=by omega
  have nz:∀ a,a<6->FnOK Tryz.prog true 47 [.g (nq (A a (((m:Nat):Int)-1).toNat))] (.c (.bool (decide (A a (m-1)≠0)))):=fun a ha=>by
    rw[cT]
    exact nz_ok (hA a (m-1) ha (by omega)) (by omega)
  obtain⟨p1,p2,-,-⟩:=pv_spec 6 A (show m≤6 by omega)
  generalize hpv:pv 6 A m=P at *
  refine sq ?_
  conv=>whnf
  refine⟨(fun a:Nat=>gst [ng 0,nt 2 m,nt 3 a] (R6 A)) m,ws6 ⟨⟨_,rfl,rfl,rfl⟩,⟨_,rfl,rfl⟩,⟨_,rfl,rfl⟩,trivial⟩,?_⟩
  refine swp_mid (fun _:Unit=>(fun a:Nat=>gst [ng 0,nt 2 m,nt 3 a] (R6 A)) P) (fun _=>True) ?_ fun _ _=>?_
  · refine swp_block (swp_loop (fun a:Nat=>gst [ng 0,nt 2 m,nt 3 a] (R6 A)) (fun a=>6-a) (fun a=>m≤a/\a≤6/\pvf A (m-1) (6-a) a=P) m (Weak.refl _) ⟨Nat.le_refl m,by omega,hpv⟩ fun a ha=>?_)
    obtain⟨a1,a2,a3⟩:=ha
    rcases Nat.lt_or_ge a 6 with alt | age
    rotate_left
    · obtain rfl:a=6:=by omega
      refine so ?_
      conv=>whnf
      have eP:6=P:=a3
      exact⟨(),trivial,ws6 ⟨⟨_,rfl,rfl,rfl⟩,⟨_,rfl,rfl⟩,⟨_,rfl,by rw[← eP]⟩,trivial⟩⟩
    have nz:=nz a alt
    have n0:A a (m-1)=0->pvf A (m-1) (6-(a+1)) (a+1)=P:=fun h=>by rw[← a3,show 6-a=6-(a+1)+1 by omega,pvf_next h]
    have n1:A a (m-1)≠0->a=P:=fun h=>by rw[← a3,show 6-a=6-(a+1)+1 by omega,pvf_stop h]
    have e:a=0∨a=1∨a=2∨a=3∨a=4∨a=5:=by omega
    have F:_/\_/\_/\_/\_:=⟨nz,n0,n1,alt,a1⟩
    clear a2 a3 nz n0 n1 alt a1
    revert F
    rcases e with e | e | e | e | e | e <;> (
      apply lets e
      intro a F
      obtain⟨nz,n0,n1,alt,a1⟩:=F
      refine so ?_
      conv=>whnf
      repeat (refine⟨by first | exact cR | exact c0 | exact c1 | exact ib rfl | exact ixl rfl,?_⟩;conv=>whnf)
      refine⟨_,nz,?_⟩
      conv=>whnf
      refine bcase (fun(h:(!decide (A a (m-1)≠0))=true)=>?_) fun(h:(!decide (A a (m-1)≠0))=false)=>?_
      · have h0:A a (m-1)=0:=by simpa using h
        conv=>whnf
        refine⟨i64_range (by omega) (by omega),?_⟩
        conv=>whnf
        exact⟨a+1,by omega,ws6 ⟨⟨_,rfl,rfl,rfl⟩,⟨_,rfl,rfl⟩,⟨_,rfl,rfl⟩,trivial⟩,by omega,by omega,n0 h0⟩
      · have h0:A a (m-1)≠0:=by simpa using h
        conv=>whnf
        exact⟨(),trivial,ws6 ⟨⟨_,rfl,rfl,rfl⟩,⟨_,rfl,rfl⟩,⟨_,rfl,by rw[← n1 h0]⟩,trivial⟩⟩)
  refine swp_mid2 (fun _:Unit=>gst [ng 0,nt 2 m] (R6 (xch (sw P m) A))) (fun _=>P<6) ?_ fun _ hP=>?_
  · rcases Nat.lt_or_ge P 6 with hP | hP
    rotate_left
    · obtain rfl:P=6:=by omega
      refine so ?_
      conv=>whnf
      exact⟨(),trivial,we6 (fun b x hb hx=>stp_none hpv b x) ⟨⟨_,rfl,rfl,rfl⟩,⟨_,rfl,rfl⟩,trivial⟩⟩
    refine so ?_
    conv=>whnf
    refine bneg (show decide (((P:Nat):Int)=6)=false from decide_eq_false (by omega)) ?_
    conv=>whnf
    rcases Nat.lt_or_ge m P with hm2 | hm2
    rotate_left
    · obtain rfl:m=P:=by omega
      refine so ?_
      conv=>whnf
      refine bneg (show(!decide (((m:Nat):Int)=(m:Nat)))=false by simp) ?_
      conv=>whnf
      exact⟨(),hP,we6 (fun b x hb hx=>xch_self A b x) ⟨⟨_,rfl,rfl,rfl⟩,⟨_,rfl,rfl⟩,trivial⟩⟩
    refine sq ?_
    conv=>whnf
    refine⟨gst [ng 0,nt 2 m,nt 3 P,(41,.c (.bool true))] (R6 A),ws6 ⟨⟨_,rfl,rfl,rfl⟩,⟨_,rfl,rfl⟩,⟨_,rfl,rfl⟩,⟨_,rfl,by simp;omega⟩,trivial⟩,?_⟩
    refine swp_cond (b:=true) rfl (fun _=>?_) fun h=>absurd h (by decide)
    refine swp_goT E1m_ok (pre:=[_,_,_]) (post:=[]) rfl rfl (by kernel_rfl) ?_
    conv=>whnf
    refine⟨1,_,by decide,OpGoT.call0 (f:=92) (cs:=[]) rfl rfl live_all (exch_6 A hm2 hP) (lt_put (lt_put (lt_put (lt_asg (tl:=[ng 0,nt 2 m,nt 3 P,(41,.c (.bool true))]) ⟨rfl,rfl,rfl,rfl,trivial⟩) rfl) rfl) rfl),?_⟩
    conv=>whnf
    exact⟨(),hP,ws6 ⟨⟨_,rfl,rfl,rfl⟩,⟨_,rfl,rfl⟩,trivial⟩⟩
  have hE:=hE hP
  have hpiv:=hpiv hP
  have hst:=fun b x=>stp_some hpv hP b x
  clear nz p1 hpv hA
  generalize stp 6 m A=Z at *
  generalize xch (sw P m) A=A1 at *
  clear hP p2
  refine sq ?_
  conv=>whnf
  refine⟨i64_range (by omega) (by omega),?_⟩
  conv=>whnf
  refine⟨(fun t:Nat=>gst [ng 0,nt 2 m,nt 4 (m+1+t)] (R6 (el m A1 t))) 0,ws6 ⟨⟨_,rfl,rfl,rfl⟩,⟨_,rfl,rfl⟩,⟨_,rfl,rfl⟩,trivial⟩,?_⟩
  refine swp_block (swp_loop (fun t:Nat=>gst [ng 0,nt 2 m,nt 4 (m+1+t)] (R6 (el m A1 t))) (fun t=>6-t) (fun t=>m+1+t≤6) 0 (Weak.refl _) (by omega) fun t ht=>?_)
  have ht:m+1+t≤6:=ht
  rcases Nat.lt_or_ge (m+1+t) 6 with tlt | tge
  rotate_left
  · obtain rfl:t=5-m:=by omega
    refine so ?_
    conv=>whnf
    refine bneg (show decide (((m+1+(5-m):Nat):Int)<6)=false from decide_eq_false (by omega)) ?_
    conv=>whnf
    exact⟨(),trivial,we6 (fun b x hb hx=>hst b x) ⟨⟨_,rfl,rfl,rfl⟩,⟨_,rfl,rfl⟩,trivial⟩⟩
  clear hst ht
  obtain⟨i,hi⟩:∃ i,i=m+1+t:=⟨_,rfl⟩
  have hB:=hE t (by omega)
  have hq:=hpiv t
  clear hE hpiv
  refine sq ?_
  conv=>whnf
  refine bpos (show decide (((m+1+t:Nat):Int)<6)=true from decide_eq_true (by omega)) ?_
  conv=>whnf
  refine⟨gst [ng 0,nt 2 m,nt 4 i] (R6 (el m A1 t)),ws6 ⟨⟨_,rfl,rfl,rfl⟩,⟨_,rfl,rfl⟩,⟨_,rfl,by rw[hi]⟩,trivial⟩,?_⟩
  refine swp_mid (fun _:Unit=>gst [ng 0,nt 2 m,nt 4 i] (R6 (el1 m i (el m A1 t)))) (fun _=>True) ?_ fun _ _=>?_
  rotate_left
  · refine so ?_
    conv=>whnf
    refine⟨i64_range (by omega) (by omega),?_⟩
    conv=>whnf
    exact⟨t+1,by omega,we6 (fun b x hb hx=>by rw[hi];rfl) ⟨⟨_,rfl,rfl,rfl⟩,⟨_,rfl,rfl⟩,⟨_,rfl,by omega⟩,trivial⟩,by show m+1+(t+1)≤6;omega⟩
  refine swp_block ?_
  generalize el m A1 t=B at *
  have im:m<i:=by omega
  have i5:i<6:=by omega
  have m5:m<6:=by omega
  have c5:m-1<6:=by omega
  have hx:∀ a b,a<6->b<6->qlen (B a b)≤K:=hB
  have nz:=nz_ok (x:=B i (m-1)) (hx i (m-1) i5 c5) (by omega)
  have kq:=qquo_n (hx i (m-1) i5 c5) (hx m (m-1) m5 c5) (by omega) hq rfl
  have hu:qlen (B i (m-1) / B m (m-1))≤2*K:=Nat.le_trans (q_div (hx i (m-1) i5 c5) (hx m (m-1) m5 c5) (by omega)) (by omega)
  have hel:=fun(h0:¬ B i (m-1)=0) a b=>el1_some (m:=m) (i:=i) (A:=B) h0 rfl a b
  have hez:=fun(h0:B i (m-1)=0) a b=>el1_zero (m:=m) (i:=i) (A:=B) h0 a b
  change ∀(h0:¬ B i (m-1)=0) (a b:Nat),el1 m i B a b=ca (B i (m-1) / B m (m-1)) i m (ra (B i (m-1) / B m (m-1)) i m B) a b at hel
  generalize el1 m i B=Y at *
  generalize B i (m-1) / B m (m-1)=u at *
  have v1:∀ j,j<6->FnOK Tryz.prog true 46 [.g (nq u),.g (nq (md1 u i m B j m j))] (.g (nq (u*B m j))):=fun j hj=>qmul_n hu (by rw[md1_m u (by omega)];exact hx m j m5 hj) (by omega) (by rw[md1_m u (by omega)])
  have v2:∀ j,j<6->FnOK Tryz.prog true 50 [.g (nq (md1 u i m B j i j)),.g (nq (u*B m j))] (.g (nq (B i j-u*B m j))):=fun j hj=>qsub_n (by rw[md1_old];exact hx i j i5 hj) (q_mul hu (hx m j m5 hj) (by omega)) (by omega) (by omega) (by rw[md1_old])
  have hR:=ra_kb (i:=i) hB hu m5 hK
  have w1:∀ j,j<6->FnOK Tryz.prog true 46 [.g (nq u),.g (nq (md2 u i m (ra u i m B) j j i))] (.g (nq (u*ra u i m B j i))):=fun j hj=>qmul_n hu (by rw[md2_old];exact hR j i hj i5) (by omega) (by rw[md2_old])
  have w2:∀ j,j<6->FnOK Tryz.prog true 93 [.g (nq (md2 u i m (ra u i m B) j j m)),.g (nq (u*ra u i m B j i))] (.g (nq (ra u i m B j m+u*ra u i m B j i))):=fun j hj=>qadd_n (by rw[md2_old];exact hR j m hj m5) (q_mul hu (hR j i hj i5) (by omega)) (by omega) (by rw[md2_old])
  have e:m=1∨m=2∨m=3∨m=4:=by omega
  clear hR hu hx hB hq hi tlt cT c0 c1 hm hlt m1
  have F:_/\_/\_/\_/\_/\_/\_/\_/\_/\_:=⟨cR,im,nz,kq,hel,hez,v1,v2,w1,w2⟩
  clear cR im nz kq hel hez v1 v2 w1 w2 m5 c5
  revert F
  rcases e with e | e | e | e <;> (
    apply lets e
    intro m F
    have e:i=2∨i=3∨i=4∨i=5:=by omega
    revert F
    rcases e with e | e | e | e <;> (
      apply lets e
      intro i F
      obtain⟨cR,im,nz,kq,hel,hez,v1,v2,w1,w2⟩:=F
      first
      | exact absurd im (of_decide_eq_false rfl)
      | (
         refine sq ?_
         conv=>whnf
         repeat (refine⟨by first | exact cR | exact ib rfl | exact ixl rfl,?_⟩;conv=>whnf)
         refine⟨_,nz,?_⟩
         conv=>whnf
         refine bcase (fun(h:(!decide (B i (m-1)≠0))=true)=>?_) fun(h:(!decide (B i (m-1)≠0))=false)=>?_
         · have h0:B i (m-1)=0:=by simpa using h
           conv=>whnf
           exact⟨(),trivial,we6 (fun b x hb hx=>hez h0 b x) ⟨⟨_,rfl,rfl,rfl⟩,⟨_,rfl,rfl⟩,⟨_,rfl,rfl⟩,trivial⟩⟩
         have h0:¬ B i (m-1)=0:=by simpa using h
         conv=>whnf
         refine⟨gst [ng 0,nt 2 m,nt 4 i] (R6 B),ws6 ⟨⟨_,rfl,rfl,rfl⟩,⟨_,rfl,rfl⟩,⟨_,rfl,rfl⟩,trivial⟩,?_⟩
         have hel:=hel h0
         refine sq ?_
         conv=>whnf
         repeat (refine⟨by first | exact cR | exact ib rfl | exact ixl rfl,?_⟩;conv=>whnf)
         refine⟨_,kq,?_⟩
         conv=>whnf
         refine⟨gst [ng 0,nt 2 m,nt 4 i,(5,.c (.p 7 0 4 0 0))] (R6b B u),wt (ks:=[some 0,some 1,some 2,some 3,some 4,some 5,some 6,some 27]) ⟨gk6 rfl,rs rfl,rs rfl,rs rfl,rs rfl,rs rfl,rs rfl,Rf.boxU rfl rfl rfl,trivial⟩ ⟨⟨_,rfl,rfl,rfl⟩,⟨_,rfl,rfl⟩,⟨_,rfl,rfl⟩,⟨_,rfl,rfl,rfl⟩,trivial⟩,?_⟩
         refine swp_mid (fun _:Unit=>gst [ng 0,nt 2 m,nt 4 i,(5,.c (.p 7 0 4 0 0))] (R6b (ra u i m B) u)) (fun _=>True) ?_ fun _ _=>?_
         · refine sq ?_
           conv=>whnf
           repeat (refine⟨by first | exact cR | exact ib rfl | exact ixl rfl,?_⟩;conv=>whnf)
           refine⟨(fun j:Nat=>gst [ng 0,nt 2 m,nt 4 i,(5,.c (.p 7 0 4 0 0)),(85,.c (.int .i64 6)),nt 86 j] (R6b (md1 u i m B j) u)) 0,wbe6 (fun b x hb hx=>md1_zero u _ _ B b x) ⟨⟨_,rfl,rfl,rfl⟩,⟨_,rfl,rfl⟩,⟨_,rfl,rfl⟩,⟨_,rfl,rfl,rfl⟩,⟨_,rfl,rfl⟩,⟨_,rfl,rfl⟩,trivial⟩,?_⟩
           refine swp_block (swp_loop (fun j:Nat=>gst [ng 0,nt 2 m,nt 4 i,(5,.c (.p 7 0 4 0 0)),(85,.c (.int .i64 6)),nt 86 j] (R6b (md1 u i m B j) u)) (fun j=>6-j) (fun j=>j≤6) 0 (Weak.refl _) (Nat.zero_le _) fun j hj=>?_)
           have v1:=v1 j
           have v2:=v2 j
           have hj0:(0:Int)≤(j:Int):=by omega
           refine so ?_
           conv=>whnf
           refine bcase (fun(h:decide ((j:Int)<6)=true)=>?_) fun(h:decide ((j:Int)<6)=false)=>?_
           · have h:=of_decide_eq_true h
             have v1:=v1 (by omega)
             have v2:=v2 (by omega)
             have hj1:(j:Int)<((6:Nat):Int):=by omega
             conv=>whnf
             repeat (refine⟨by first | exact hj0 | exact hj1 | exact ib rfl | exact ixl rfl,?_⟩;conv=>whnf)
             refine⟨_,v1,?_⟩
             conv=>whnf
             repeat (refine⟨by first | exact hj0 | exact hj1 | exact ib rfl | exact ixl rfl,?_⟩;conv=>whnf)
             refine⟨_,v2,?_⟩
             conv=>whnf
             repeat (refine⟨by first | exact hj0 | exact hj1 | exact ib rfl | exact ixl rfl,?_⟩;conv=>whnf)
             refine⟨i64_range (by omega) (by omega),?_⟩
             conv=>whnf
             exact⟨j+1,by omega,wt (ks:=[some 0,some 1,some 2,some 3,some 4,some 5,some 6,some 7]) ⟨gk6 rfl,by first | exact mk1 rfl | exact mu1 rfl,by first | exact mk1 rfl | exact mu1 rfl,by first | exact mk1 rfl | exact mu1 rfl,by first | exact mk1 rfl | exact mu1 rfl,by first | exact mk1 rfl | exact mu1 rfl,by first | exact mk1 rfl | exact mu1 rfl,Rf.boxK rfl rfl,trivial⟩ ⟨⟨_,rfl,rfl,rfl⟩,⟨_,rfl,rfl⟩,⟨_,rfl,rfl⟩,⟨_,rfl,rfl,rfl⟩,⟨_,rfl,rfl⟩,⟨_,rfl,rfl⟩,trivial⟩,by omega⟩
           · have h:=of_decide_eq_false h
             obtain rfl:j=6:=by omega
             conv=>whnf
             exact⟨(),trivial,wbe6 (fun b x hb hx=>md1_all u _ _ B hx b) ⟨⟨_,rfl,rfl,rfl⟩,⟨_,rfl,rfl⟩,⟨_,rfl,rfl⟩,⟨_,rfl,rfl,rfl⟩,trivial⟩⟩
         generalize ra u i m B=D at *
         clear v1 v2 nz kq
         refine sq ?_
         conv=>whnf
         repeat (refine⟨by first | exact cR | exact ib rfl | exact ixl rfl,?_⟩;conv=>whnf)
         refine⟨(fun j:Nat=>gst [ng 0,nt 2 m,nt 4 i,(5,.c (.p 7 0 4 0 0)),(114,.c (.int .i64 6)),nt 115 j] (R6b (md2 u i m D j) u)) 0,wbe6 (fun b x hb hx=>md2_zero u _ _ D b x) ⟨⟨_,rfl,rfl,rfl⟩,⟨_,rfl,rfl⟩,⟨_,rfl,rfl⟩,⟨_,rfl,rfl,rfl⟩,⟨_,rfl,rfl⟩,⟨_,rfl,rfl⟩,trivial⟩,?_⟩
         refine swp_block (swp_loop (fun j:Nat=>gst [ng 0,nt 2 m,nt 4 i,(5,.c (.p 7 0 4 0 0)),(114,.c (.int .i64 6)),nt 115 j] (R6b (md2 u i m D j) u)) (fun j=>6-j) (fun j=>j≤6) 0 (Weak.refl _) (Nat.zero_le _) fun j hj=>?_)
         rcases Nat.lt_or_ge j 6 with jlt | jge
         rotate_left
         · obtain rfl:j=6:=Nat.le_antisymm hj jge
           refine so ?_
           conv=>whnf
           exact⟨(),trivial,we6 (fun b x hb hx=>(hel b x).trans (md2_all u _ _ D hb x)) ⟨⟨_,rfl,rfl,rfl⟩,⟨_,rfl,rfl⟩,⟨_,rfl,rfl⟩,trivial⟩⟩
         have w1:=w1 j jlt
         have w2:=w2 j jlt
         have e:j=0∨j=1∨j=2∨j=3∨j=4∨j=5:=by omega
         clear hj hel hez
         revert w1 w2 jlt
         rcases e with e | e | e | e | e | e <;> (
           apply lets e
           intro j jlt w1 w2
           refine so ?_
           conv=>whnf
           repeat (refine⟨by first | exact cR | exact ib rfl | exact ixl rfl,?_⟩;conv=>whnf)
           refine⟨_,w1,?_⟩
           conv=>whnf
           repeat (refine⟨by first | exact cR | exact ib rfl | exact ixl rfl,?_⟩;conv=>whnf)
           refine⟨_,w2,?_⟩
           conv=>whnf
           repeat (refine⟨by first | exact ib rfl | exact ixl rfl,?_⟩;conv=>whnf)
           refine⟨i64_range (by omega) (by omega),?_⟩
           conv=>whnf
           exact⟨j+1,by omega,wt (ks:=[some 0,some 1,some 2,some 3,some 4,some 5,some 6,some 7]) ⟨gk6 rfl,by first | exact mk2 rfl | exact mu2 rfl,by first | exact mk2 rfl | exact mu2 rfl,by first | exact mk2 rfl | exact mu2 rfl,by first | exact mk2 rfl | exact mu2 rfl,by first | exact mk2 rfl | exact mu2 rfl,by first | exact mk2 rfl | exact mu2 rfl,Rf.boxK rfl rfl,trivial⟩ ⟨⟨_,rfl,rfl,rfl⟩,⟨_,rfl,rfl⟩,⟨_,rfl,rfl⟩,⟨_,rfl,rfl,rfl⟩,⟨_,rfl,rfl⟩,⟨_,rfl,rfl⟩,trivial⟩,jlt⟩))))
end Mx
end Go.Proofs.YtkmbnldginonbaaGreat
