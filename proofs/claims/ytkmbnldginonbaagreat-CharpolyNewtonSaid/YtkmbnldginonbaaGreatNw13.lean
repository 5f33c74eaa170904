/- charpoly.grid for literal sizes. -/
import Derived.Test.YtkmbnldginonbaaGreatNw12
namespace Go.Proofs.YtkmbnldginonbaaGreat
open Go.RowKit
namespace Mx
theorem row_app {q:Nat} {bl:List Blk} {ks:List (Option Nat)} {v:Nat->Rat} {x i j:Nat} (hi:i<x+1) (_:j<4):regC q bl ks (qlF (fun j=>ofR (v j)) i j) fun y=>appF x (qlF fun j=>ofR (v j)) (rowF 4 (nq (v x))) i j=y:=regE (appG (sz:=4) (g:=fun i=>nq (v i)) (g':=fun i=>nq (v i)) (l:=nq (v x)) (Rf.app_sameq v x i) (Nat.le_refl (x+1)) hi) (q_clos v i j)
abbrev zb (a:Int) (m:Nat) (p:Nat->RawR):Gx:=⟨24,3,1,boxF [.int .i64 a,.int .i64 a,ql m p]⟩
abbrev zG (n:Nat):Gx:=⟨22,1,n,fun k _ => .gs (k+2) 0⟩
theorem so1 {N:Nat} {c:Code} {σ:St} {R:Exit->St->Prop} (h:awp E1 c σ R) (hc:codeB N c=true:=by kernel_rfl):Swp E1 N c σ R:=swp_of E1_ok mixed hc h
theorem sq1 {N:Nat} {x y:Code} {σ:St} {R:Exit->St->Prop} (h:awp E1 x σ (seqR (fun σ'=>∃ σ2,Weak E1.m0 σ' σ2/\Swp E1 N y σ2 R) R)) (hc:codeB N x=true:=by kernel_rfl):Swp E1 N (.seq x y) σ R:=swp_seq E1_ok mixed hc h
theorem zk1 {b0 b1:Blk} {r:List Blk} {t:List (Option Nat)} (h:([b1].all fun b=>b.u == 0&&b.st == 0)=true):srcG 0 (b0 :: gb (zG 1) :: b1 :: r) (some 0 :: some 1 :: some 2 :: t) (zG 1) (some 1):=by
 simp only[List.all_cons,List.all_nil,Bool.and_true,Bool.and_eq_true,beq_iff_eq]at h
 obtain⟨u1,s1⟩:=h
 exact⟨_,rfl,rfl,rfl,rfl,rfl,cells1 ⟨b1,rfl,by rw[u1],s1⟩⟩
theorem zk2 {b0 b1 b2:Blk} {r:List Blk} {t:List (Option Nat)} (h:([b1,b2].all fun b=>b.u == 0&&b.st == 0)=true):srcG 0 (b0 :: gb (zG 2) :: b1 :: b2 :: r) (some 0 :: some 1 :: some 2 :: some 3 :: t) (zG 2) (some 1):=by
 simp only[List.all_cons,List.all_nil,Bool.and_true,Bool.and_eq_true,beq_iff_eq]at h
 obtain⟨⟨u1,s1⟩,⟨u2,s2⟩⟩:=h
 exact⟨_,rfl,rfl,rfl,rfl,rfl,cells2 ⟨b1,rfl,by rw[u1],s1⟩ ⟨b2,rfl,by rw[u2],s2⟩⟩
theorem zk3 {b0 b1 b2 b3:Blk} {r:List Blk} {t:List (Option Nat)} (h:([b1,b2,b3].all fun b=>b.u == 0&&b.st == 0)=true):srcG 0 (b0 :: gb (zG 3) :: b1 :: b2 :: b3 :: r) (some 0 :: some 1 :: some 2 :: some 3 :: some 4 :: t) (zG 3) (some 1):=by
 simp only[List.all_cons,List.all_nil,Bool.and_true,Bool.and_eq_true,beq_iff_eq]at h
 obtain⟨⟨u1,s1⟩,⟨u2,s2⟩,⟨u3,s3⟩⟩:=h
 exact⟨_,rfl,rfl,rfl,rfl,rfl,cells3 ⟨b1,rfl,by rw[u1],s1⟩ ⟨b2,rfl,by rw[u2],s2⟩ ⟨b3,rfl,by rw[u3],s3⟩⟩
theorem zk4 {b0 b1 b2 b3 b4:Blk} {r:List Blk} {t:List (Option Nat)} (h:([b1,b2,b3,b4].all fun b=>b.u == 0&&b.st == 0)=true):srcG 0 (b0 :: gb (zG 4) :: b1 :: b2 :: b3 :: b4 :: r) (some 0 :: some 1 :: some 2 :: some 3 :: some 4 :: some 5 :: t) (zG 4) (some 1):=by
 simp only[List.all_cons,List.all_nil,Bool.and_true,Bool.and_eq_true,beq_iff_eq]at h
 obtain⟨⟨u1,s1⟩,⟨u2,s2⟩,⟨u3,s3⟩,⟨u4,s4⟩⟩:=h
 exact⟨_,rfl,rfl,rfl,rfl,rfl,cells4 ⟨b1,rfl,by rw[u1],s1⟩ ⟨b2,rfl,by rw[u2],s2⟩ ⟨b3,rfl,by rw[u3],s3⟩ ⟨b4,rfl,by rw[u4],s4⟩⟩
theorem zk5 {b0 b1 b2 b3 b4 b5:Blk} {r:List Blk} {t:List (Option Nat)} (h:([b1,b2,b3,b4,b5].all fun b=>b.u == 0&&b.st == 0)=true):srcG 0 (b0 :: gb (zG 5) :: b1 :: b2 :: b3 :: b4 :: b5 :: r) (some 0 :: some 1 :: some 2 :: some 3 :: some 4 :: some 5 :: some 6 :: t) (zG 5) (some 1):=by
 simp only[List.all_cons,List.all_nil,Bool.and_true,Bool.and_eq_true,beq_iff_eq]at h
 obtain⟨⟨u1,s1⟩,⟨u2,s2⟩,⟨u3,s3⟩,⟨u4,s4⟩,⟨u5,s5⟩⟩:=h
 exact⟨_,rfl,rfl,rfl,rfl,rfl,cells5 ⟨b1,rfl,by rw[u1],s1⟩ ⟨b2,rfl,by rw[u2],s2⟩ ⟨b3,rfl,by rw[u3],s3⟩ ⟨b4,rfl,by rw[u4],s4⟩ ⟨b5,rfl,by rw[u5],s5⟩⟩
set_option maxHeartbeats 16000000 in
set_option maxRecDepth 100000 in
theorem grid_0 {p:Nat->RawR} {A:Nat->Nat->Rat} {L:Nat} (_:∀ k,k<0->(p k).Fit L) (_:L+3≤LIM) (_:∀ i j,i<0->j<0->(p (i*0+j)).val=A i j):FnT Tryz.prog true 39 0 [] [.g [.int .i64 0,.int .i64 0,ql 0 p]] (.c (.gs 0 0)) ([gG 0 idn].map gb):=by
 refine fnt_okS (E:=E1) E1_ok Tryz.func39 rfl (by kernel_rfl) ?_
 refine sq1 ?_
 conv=>whnf
 refine⟨gst [(1,.c (.p 0 0 3 0 0))] [zb 0 0 p],Weak.gen [some 0] rfl ⟨Rf.boxK rfl rfl,trivial⟩ ⟨⟨_,rfl,rfl,rfl⟩,trivial⟩,?_⟩
 refine sq1 ?_
 conv=>whnf
 refine⟨by decide,by decide,by decide,by decide,?_⟩
 conv=>whnf
 refine⟨gst [(1,.c (.p 0 0 3 0 0)),(3,.c (.gs 1 0))] [zb 0 0 p,zG 0],Weak.gen [some 0,some 1] rfl ⟨Rf.boxK rfl rfl,⟨_,rfl,rfl,rfl,rfl,rfl,cells0⟩,trivial⟩ ⟨⟨_,rfl,rfl,rfl⟩,⟨_,rfl,rfl,rfl⟩,trivial⟩,?_⟩
 refine swp_mid (fun _:Unit=>gst [(3,.c (.gs 1 0))] [zb 0 0 p,zG 0]) (fun _=>True) ?_ fun _ _=>?_
 rotate_left
 ·refine so1 ?_
  conv=>whnf
  exact Weak.gen (tl:=[(0,.c (.gs 0 0))]) (xs:=[gG 0 idn]) [some 1] rfl ⟨⟨_,rfl,rfl,rfl,rfl,rfl,cells0⟩,trivial⟩ ⟨⟨_,rfl,rfl,rfl⟩,trivial⟩
 refine sq1 ?_
 conv=>whnf
 refine⟨(fun i:Nat=>gst [(1,.c (.p 0 0 3 0 0)),(3,.c (.gs 1 0)),(11,.c (.int .i64 0)),(12,.c (.int .i64 ((i:Nat):Int)))] [zb 0 0 p,zG 0]) 0,Weak.gen [some 0,some 1] rfl ⟨Rf.boxK rfl rfl,⟨_,rfl,rfl,rfl,rfl,rfl,cells0⟩,trivial⟩ ⟨⟨_,rfl,rfl,rfl⟩,⟨_,rfl,rfl,rfl⟩,⟨_,rfl,rfl⟩,⟨_,rfl,rfl⟩,trivial⟩,?_⟩
 refine swp_block (swp_loop (fun i:Nat=>gst [(1,.c (.p 0 0 3 0 0)),(3,.c (.gs 1 0)),(11,.c (.int .i64 0)),(12,.c (.int .i64 ((i:Nat):Int)))] [zb 0 0 p,zG 0]) (fun i=>1-i) (fun i=>i≤0) 0 (Weak.refl _) (by decide) fun i hi=>?_)
 obtain rfl:i=0:=by omega
 refine so1 ?_
 conv=>whnf
 exact⟨(),trivial,Weak.gen [some 0,some 1] rfl ⟨Rf.boxK rfl rfl,⟨_,rfl,rfl,rfl,rfl,rfl,cells0⟩,trivial⟩ ⟨⟨_,rfl,rfl,rfl⟩,trivial⟩⟩
set_option maxHeartbeats 16000000 in
set_option maxRecDepth 100000 in
theorem grid_1 {p:Nat->RawR} {A:Nat->Nat->Rat} {L:Nat} (hp:∀ k,k<1->(p k).Fit L) (hL:L+3≤LIM) (hA:∀ i j,i<1->j<1->(p (i*1+j)).val=A i j):FnT Tryz.prog true 39 0 [] [.g [.int .i64 1,.int .i64 1,ql 1 p]] (.c (.gs 0 0)) ([gG 1 idn,gq 1 (A 0)].map gb):=by
 have hN:∀ i j,i<1->j<1->FnOK Tryz.prog true 73 [.g (rr (p (i*1+j)))] (.g (nq (A i j))):=fun i j hi hj=>by
  have:=qnormal_ok (hp (i*1+j) (by omega)) hL
  rwa [hA i j hi hj]at this
 refine fnt_okS (E:=E1) E1_ok Tryz.func39 rfl (by kernel_rfl) ?_
 refine sq1 ?_
 conv=>whnf
 refine⟨gst [(1,.c (.p 0 0 3 0 0))] [zb 1 1 p],Weak.gen [some 0] rfl ⟨Rf.boxK rfl rfl,trivial⟩ ⟨⟨_,rfl,rfl,rfl⟩,trivial⟩,?_⟩
 refine sq1 ?_
 conv=>whnf
 refine⟨by decide,by decide,by decide,by decide,?_⟩
 conv=>whnf
 refine⟨gst [(1,.c (.p 0 0 3 0 0)),(3,.c (.gs 1 0))] [zb 1 1 p,zG 1,gq 0 (A 0)],Weak.gen [some 0,some 1,none] rfl ⟨Rf.boxK rfl rfl,⟨_,rfl,rfl,rfl,rfl,rfl,cells1 rfl⟩,rfl,trivial⟩ ⟨⟨_,rfl,rfl,rfl⟩,⟨_,rfl,rfl,rfl⟩,trivial⟩,?_⟩
 refine swp_mid (fun _:Unit=>gst [(3,.c (.gs 1 0))] [zb 1 1 p,zG 1,gq 1 (A 0)]) (fun _=>True) ?_ fun _ _=>?_
 rotate_left
 ·refine so1 ?_
  conv=>whnf
  exact Weak.gen (tl:=[(0,.c (.gs 0 0))]) (xs:=[gG 1 idn,gq 1 (A 0)]) [some 1,some 2] rfl ⟨⟨_,rfl,rfl,rfl,rfl,rfl,cells1 ⟨_,rfl,rfl,rfl⟩⟩,rs rfl,trivial⟩ ⟨⟨_,rfl,rfl,rfl⟩,trivial⟩
 refine sq1 ?_
 conv=>whnf
 refine⟨(fun i:Nat=>gst [(1,.c (.p 0 0 3 0 0)),(3,.c (.gs 1 0)),(11,.c (.int .i64 1)),(12,.c (.int .i64 ((i:Nat):Int)))] [zb 1 1 p,zG 1,gq (if 0<i then 1 else 0) (A 0)]) 0,Weak.gen [some 0,some 1,some 2] rfl ⟨Rf.boxK rfl rfl,zk1 rfl,rs rfl,trivial⟩ ⟨⟨_,rfl,rfl,rfl⟩,⟨_,rfl,rfl,rfl⟩,⟨_,rfl,rfl⟩,⟨_,rfl,rfl⟩,trivial⟩,?_⟩
 refine swp_block (swp_loop (fun i:Nat=>gst [(1,.c (.p 0 0 3 0 0)),(3,.c (.gs 1 0)),(11,.c (.int .i64 1)),(12,.c (.int .i64 ((i:Nat):Int)))] [zb 1 1 p,zG 1,gq (if 0<i then 1 else 0) (A 0)]) (fun i=>2-i) (fun i=>i≤1) 0 (Weak.refl _) (by decide) fun i hi=>?_)
 rcases(show i=0∨i=1 by omega)with rfl | rfl
 ·refine swp_seq0 E1_ok mixed (by kernel_rfl) ?_
  conv=>whnf
  refine sq1 ?_
  conv=>whnf
  refine⟨gst [(1,.c (.p 0 0 3 0 0)),(3,.c (.gs 1 0)),(11,.c (.int .i64 1)),(12,.c (.int .i64 ((0:Nat):Int)))] [zb 1 1 p,zG 1,gq 0 (A 0)],Weak.gen [some 0,some 1,some 2] rfl ⟨Rf.boxK rfl rfl,zk1 rfl,rs rfl,trivial⟩ ⟨⟨_,rfl,rfl,rfl⟩,⟨_,rfl,rfl,rfl⟩,⟨_,rfl,rfl⟩,⟨_,rfl,rfl⟩,trivial⟩,?_⟩
  refine swp_mid (fun _:Unit=>gst [(1,.c (.p 0 0 3 0 0)),(3,.c (.gs 1 0)),(11,.c (.int .i64 1)),(12,.c (.int .i64 ((0:Nat):Int)))] [zb 1 1 p,zG 1,gq 1 (A 0)]) (fun _=>True) ?_ fun _ _=>?_
  rotate_left
  ·refine so1 ?_
   conv=>whnf
   repeat (refine⟨by first | decide | exact ixl rfl | exact rgl (by decide),?_⟩;conv=>whnf)
   exact⟨1,by decide,Weak.gen [some 0,some 1,some 2] rfl ⟨Rf.boxK rfl rfl,zk1 rfl,rs rfl,trivial⟩ ⟨⟨_,rfl,rfl,rfl⟩,⟨_,rfl,rfl,rfl⟩,⟨_,rfl,rfl⟩,⟨_,rfl,rfl⟩,trivial⟩,by decide⟩
  refine swp_block ?_
  refine sq1 ?_
  conv=>whnf
  refine⟨gst [(1,.c (.p 0 0 3 0 0)),(3,.c (.gs 1 0)),(11,.c (.int .i64 1)),(12,.c (.int .i64 ((0:Nat):Int))),(4,.c (.int .i64 ((0:Nat):Int)))] [zb 1 1 p,zG 1,gq 0 (A 0)],Weak.gen [some 0,some 1,some 2] rfl ⟨Rf.boxK rfl rfl,zk1 rfl,rs rfl,trivial⟩ ⟨⟨_,rfl,rfl,rfl⟩,⟨_,rfl,rfl,rfl⟩,⟨_,rfl,rfl⟩,⟨_,rfl,rfl⟩,⟨_,rfl,rfl⟩,trivial⟩,?_⟩
  refine sq1 ?_
  conv=>whnf
  repeat (refine⟨by first | decide | exact ixl rfl | exact rgl (by decide),?_⟩;conv=>whnf)
  refine⟨(fun x:Nat=>gst [(1,.c (.p 0 0 3 0 0)),(3,.c (.gs 1 0)),(11,.c (.int .i64 1)),(12,.c (.int .i64 ((0:Nat):Int))),(4,.c (.int .i64 ((0:Nat):Int))),(26,.c (.row 4 1 (qlF fun k=>p (0*1+k)))),(27,.c (.int .i64 1)),(28,.c (.int .i64 ((x:Nat):Int)))] [zb 1 1 p,zG 1,gq x (A 0)]) 0,Weak.gen [some 0,some 1,some 2] rfl ⟨Rf.boxK rfl rfl,zk1 rfl,rs rfl,trivial⟩ ⟨⟨_,rfl,rfl,rfl⟩,⟨_,rfl,rfl,rfl⟩,⟨_,rfl,rfl⟩,⟨_,rfl,rfl⟩,⟨_,rfl,rfl⟩,.inl ⟨_,_,rfl,rfl,fun _ _ _ _=>rfl⟩,⟨_,rfl,rfl⟩,⟨_,rfl,rfl⟩,trivial⟩,?_⟩
  have hN:=hN 0
  refine swp_block (swp_loop (fun x:Nat=>gst [(1,.c (.p 0 0 3 0 0)),(3,.c (.gs 1 0)),(11,.c (.int .i64 1)),(12,.c (.int .i64 ((0:Nat):Int))),(4,.c (.int .i64 ((0:Nat):Int))),(26,.c (.row 4 1 (qlF fun k=>p (0*1+k)))),(27,.c (.int .i64 1)),(28,.c (.int .i64 ((x:Nat):Int)))] [zb 1 1 p,zG 1,gq x (A 0)]) (fun x=>1-x) (fun x=>x≤1) 0 (Weak.refl _) (by decide) fun x hx=>?_)
  have hN:=hN x (by decide)
  have hj0:(0:Int)≤(x:Int):=by omega
  refine so1 ?_
  conv=>whnf
  refine bcase (fun(h:decide ((x:Int)<1)=true)=>?_) fun(h:decide ((x:Int)<1)=false)=>?_
  ·have h:=of_decide_eq_true h
   have hN:=hN (by omega)
   have hj1:(x:Int)<((1:Nat):Int):=by omega
   conv=>whnf
   repeat (refine⟨by first | exact hj0 | exact hj1 | decide | exact ixl rfl | exact rgl (by decide),?_⟩;conv=>whnf)
   refine⟨_,hN,?_⟩
   conv=>whnf
   refine .inr ⟨rfl,?_⟩
   conv=>whnf
   refine⟨by show x+1≤16777216;omega,fun a b ha hb=>Rf.one_nq (A 0 x) true a b ha hb,?_⟩
   conv=>whnf
   repeat (refine⟨by first | decide | exact ixl rfl | exact rgl (by decide),?_⟩;conv=>whnf)
   refine⟨i64_range (by omega) (by omega),?_⟩
   conv=>whnf
   exact⟨x+1,by omega,Weak.gen [some 0,some 1,some 2] rfl ⟨Rf.boxK rfl rfl,⟨_,rfl,rfl,rfl,rfl,rfl,cells1 ⟨_,rfl,rfl,rfl⟩⟩,⟨_,rfl,rfl,rfl,rfl,rfl,fun x y hx hy=>row_app hx hy⟩,trivial⟩ ⟨⟨_,rfl,rfl,rfl⟩,⟨_,rfl,rfl,rfl⟩,⟨_,rfl,rfl⟩,⟨_,rfl,rfl⟩,⟨_,rfl,rfl⟩,.inl ⟨_,_,rfl,rfl,fun _ _ _ _=>rfl⟩,⟨_,rfl,rfl⟩,⟨_,rfl,rfl⟩,trivial⟩,by omega⟩
  ·have h:=of_decide_eq_false h
   obtain rfl:x=1:=by omega
   conv=>whnf
   exact⟨(),trivial,Weak.gen [some 0,some 1,some 2] rfl ⟨Rf.boxK rfl rfl,zk1 rfl,rs rfl,trivial⟩ ⟨⟨_,rfl,rfl,rfl⟩,⟨_,rfl,rfl,rfl⟩,⟨_,rfl,rfl⟩,⟨_,rfl,rfl⟩,trivial⟩⟩
 ·refine so1 ?_
  conv=>whnf
  exact⟨(),trivial,Weak.gen [some 0,some 1,some 2] rfl ⟨Rf.boxK rfl rfl,zk1 rfl,rs rfl,trivial⟩ ⟨⟨_,rfl,rfl,rfl⟩,trivial⟩⟩
set_option maxHeartbeats 16000000 in
set_option maxRecDepth 100000 in
theorem grid_2 {p:Nat->RawR} {A:Nat->Nat->Rat} {L:Nat} (hp:∀ k,k<4->(p k).Fit L) (hL:L+3≤LIM) (hA:∀ i j,i<2->j<2->(p (i*2+j)).val=A i j):FnT Tryz.prog true 39 0 [] [.g [.int .i64 2,.int .i64 2,ql 4 p]] (.c (.gs 0 0)) ([gG 2 idn,gq 2 (A 0),gq 2 (A 1)].map gb):=by
 have hN:∀ i j,i<2->j<2->FnOK Tryz.prog true 73 [.g (rr (p (i*2+j)))] (.g (nq (A i j))):=fun i j hi hj=>by
  have:=qnormal_ok (hp (i*2+j) (by omega)) hL
  rwa [hA i j hi hj]at this
 refine fnt_okS (E:=E1) E1_ok Tryz.func39 rfl (by kernel_rfl) ?_
 refine sq1 ?_
 conv=>whnf
 refine⟨gst [(1,.c (.p 0 0 3 0 0))] [zb 2 4 p],Weak.gen [some 0] rfl ⟨Rf.boxK rfl rfl,trivial⟩ ⟨⟨_,rfl,rfl,rfl⟩,trivial⟩,?_⟩
 refine sq1 ?_
 conv=>whnf
 refine⟨by decide,by decide,by decide,by decide,?_⟩
 conv=>whnf
 refine⟨gst [(1,.c (.p 0 0 3 0 0)),(3,.c (.gs 1 0))] [zb 2 4 p,zG 2,gq 0 (A 0),gq 0 (A 1)],Weak.gen [some 0,some 1,none,none] rfl ⟨Rf.boxK rfl rfl,⟨_,rfl,rfl,rfl,rfl,rfl,cells2 rfl rfl⟩,rfl,rfl,trivial⟩ ⟨⟨_,rfl,rfl,rfl⟩,⟨_,rfl,rfl,rfl⟩,trivial⟩,?_⟩
 refine swp_mid (fun _:Unit=>gst [(3,.c (.gs 1 0))] [zb 2 4 p,zG 2,gq 2 (A 0),gq 2 (A 1)]) (fun _=>True) ?_ fun _ _=>?_
 rotate_left
 ·refine so1 ?_
  conv=>whnf
  exact Weak.gen (tl:=[(0,.c (.gs 0 0))]) (xs:=[gG 2 idn,gq 2 (A 0),gq 2 (A 1)]) [some 1,some 2,some 3] rfl ⟨⟨_,rfl,rfl,rfl,rfl,rfl,cells2 ⟨_,rfl,rfl,rfl⟩ ⟨_,rfl,rfl,rfl⟩⟩,rs rfl,rs rfl,trivial⟩ ⟨⟨_,rfl,rfl,rfl⟩,trivial⟩
 refine sq1 ?_
 conv=>whnf
 refine⟨(fun i:Nat=>gst [(1,.c (.p 0 0 3 0 0)),(3,.c (.gs 1 0)),(11,.c (.int .i64 2)),(12,.c (.int .i64 ((i:Nat):Int)))] [zb 2 4 p,zG 2,gq (if 0<i then 2 else 0) (A 0),gq (if 1<i then 2 else 0) (A 1)]) 0,Weak.gen [some 0,some 1,some 2,some 3] rfl ⟨Rf.boxK rfl rfl,zk2 rfl,rs rfl,rs rfl,trivial⟩ ⟨⟨_,rfl,rfl,rfl⟩,⟨_,rfl,rfl,rfl⟩,⟨_,rfl,rfl⟩,⟨_,rfl,rfl⟩,trivial⟩,?_⟩
 refine swp_block (swp_loop (fun i:Nat=>gst [(1,.c (.p 0 0 3 0 0)),(3,.c (.gs 1 0)),(11,.c (.int .i64 2)),(12,.c (.int .i64 ((i:Nat):Int)))] [zb 2 4 p,zG 2,gq (if 0<i then 2 else 0) (A 0),gq (if 1<i then 2 else 0) (A 1)]) (fun i=>3-i) (fun i=>i≤2) 0 (Weak.refl _) (by decide) fun i hi=>?_)
 rcases(show i=0∨i=1∨i=2 by omega)with rfl | rfl | rfl
 ·refine swp_seq0 E1_ok mixed (by kernel_rfl) ?_
  conv=>whnf
  refine sq1 ?_
  conv=>whnf
  refine⟨gst [(1,.c (.p 0 0 3 0 0)),(3,.c (.gs 1 0)),(11,.c (.int .i64 2)),(12,.c (.int .i64 ((0:Nat):Int)))] [zb 2 4 p,zG 2,gq 0 (A 0),gq 0 (A 1)],Weak.gen [some 0,some 1,some 2,some 3] rfl ⟨Rf.boxK rfl rfl,zk2 rfl,rs rfl,rs rfl,trivial⟩ ⟨⟨_,rfl,rfl,rfl⟩,⟨_,rfl,rfl,rfl⟩,⟨_,rfl,rfl⟩,⟨_,rfl,rfl⟩,trivial⟩,?_⟩
  refine swp_mid (fun _:Unit=>gst [(1,.c (.p 0 0 3 0 0)),(3,.c (.gs 1 0)),(11,.c (.int .i64 2)),(12,.c (.int .i64 ((0:Nat):Int)))] [zb 2 4 p,zG 2,gq 2 (A 0),gq 0 (A 1)]) (fun _=>True) ?_ fun _ _=>?_
  rotate_left
  ·refine so1 ?_
   conv=>whnf
   repeat (refine⟨by first | decide | exact ixl rfl | exact rgl (by decide),?_⟩;conv=>whnf)
   exact⟨1,by decide,Weak.gen [some 0,some 1,some 2,some 3] rfl ⟨Rf.boxK rfl rfl,zk2 rfl,rs rfl,rs rfl,trivial⟩ ⟨⟨_,rfl,rfl,rfl⟩,⟨_,rfl,rfl,rfl⟩,⟨_,rfl,rfl⟩,⟨_,rfl,rfl⟩,trivial⟩,by decide⟩
  refine swp_block ?_
  refine sq1 ?_
  conv=>whnf
  refine⟨gst [(1,.c (.p 0 0 3 0 0)),(3,.c (.gs 1 0)),(11,.c (.int .i64 2)),(12,.c (.int .i64 ((0:Nat):Int))),(4,.c (.int .i64 ((0:Nat):Int)))] [zb 2 4 p,zG 2,gq 0 (A 0),gq 0 (A 1)],Weak.gen [some 0,some 1,some 2,some 3] rfl ⟨Rf.boxK rfl rfl,zk2 rfl,rs rfl,rs rfl,trivial⟩ ⟨⟨_,rfl,rfl,rfl⟩,⟨_,rfl,rfl,rfl⟩,⟨_,rfl,rfl⟩,⟨_,rfl,rfl⟩,⟨_,rfl,rfl⟩,trivial⟩,?_⟩
  refine sq1 ?_
  conv=>whnf
  repeat (refine⟨by first | decide | exact ixl rfl | exact rgl (by decide),?_⟩;conv=>whnf)
  refine⟨(fun x:Nat=>gst [(1,.c (.p 0 0 3 0 0)),(3,.c (.gs 1 0)),(11,.c (.int .i64 2)),(12,.c (.int .i64 ((0:Nat):Int))),(4,.c (.int .i64 ((0:Nat):Int))),(26,.c (.row 4 2 (qlF fun k=>p (0*2+k)))),(27,.c (.int .i64 2)),(28,.c (.int .i64 ((x:Nat):Int)))] [zb 2 4 p,zG 2,gq x (A 0),gq 0 (A 1)]) 0,Weak.gen [some 0,some 1,some 2,some 3] rfl ⟨Rf.boxK rfl rfl,zk2 rfl,rs rfl,rs rfl,trivial⟩ ⟨⟨_,rfl,rfl,rfl⟩,⟨_,rfl,rfl,rfl⟩,⟨_,rfl,rfl⟩,⟨_,rfl,rfl⟩,⟨_,rfl,rfl⟩,.inl ⟨_,_,rfl,rfl,fun _ _ _ _=>rfl⟩,⟨_,rfl,rfl⟩,⟨_,rfl,rfl⟩,trivial⟩,?_⟩
  have hN:=hN 0
  refine swp_block (swp_loop (fun x:Nat=>gst [(1,.c (.p 0 0 3 0 0)),(3,.c (.gs 1 0)),(11,.c (.int .i64 2)),(12,.c (.int .i64 ((0:Nat):Int))),(4,.c (.int .i64 ((0:Nat):Int))),(26,.c (.row 4 2 (qlF fun k=>p (0*2+k)))),(27,.c (.int .i64 2)),(28,.c (.int .i64 ((x:Nat):Int)))] [zb 2 4 p,zG 2,gq x (A 0),gq 0 (A 1)]) (fun x=>2-x) (fun x=>x≤2) 0 (Weak.refl _) (by decide) fun x hx=>?_)
  have hN:=hN x (by decide)
  have hj0:(0:Int)≤(x:Int):=by omega
  refine so1 ?_
  conv=>whnf
  refine bcase (fun(h:decide ((x:Int)<2)=true)=>?_) fun(h:decide ((x:Int)<2)=false)=>?_
  ·have h:=of_decide_eq_true h
   have hN:=hN (by omega)
   have hj1:(x:Int)<((2:Nat):Int):=by omega
   conv=>whnf
   repeat (refine⟨by first | exact hj0 | exact hj1 | decide | exact ixl rfl | exact rgl (by decide),?_⟩;conv=>whnf)
   refine⟨_,hN,?_⟩
   conv=>whnf
   refine .inr ⟨rfl,?_⟩
   conv=>whnf
   refine⟨by show x+1≤16777216;omega,fun a b ha hb=>Rf.one_nq (A 0 x) true a b ha hb,?_⟩
   conv=>whnf
   repeat (refine⟨by first | decide | exact ixl rfl | exact rgl (by decide),?_⟩;conv=>whnf)
   refine⟨i64_range (by omega) (by omega),?_⟩
   conv=>whnf
   exact⟨x+1,by omega,Weak.gen [some 0,some 1,some 2,some 3] rfl ⟨Rf.boxK rfl rfl,⟨_,rfl,rfl,rfl,rfl,rfl,cells2 ⟨_,rfl,rfl,rfl⟩ ⟨_,rfl,rfl,rfl⟩⟩,⟨_,rfl,rfl,rfl,rfl,rfl,fun x y hx hy=>row_app hx hy⟩,rs rfl,trivial⟩ ⟨⟨_,rfl,rfl,rfl⟩,⟨_,rfl,rfl,rfl⟩,⟨_,rfl,rfl⟩,⟨_,rfl,rfl⟩,⟨_,rfl,rfl⟩,.inl ⟨_,_,rfl,rfl,fun _ _ _ _=>rfl⟩,⟨_,rfl,rfl⟩,⟨_,rfl,rfl⟩,trivial⟩,by omega⟩
  ·have h:=of_decide_eq_false h
   obtain rfl:x=2:=by omega
   conv=>whnf
   exact⟨(),trivial,Weak.gen [some 0,some 1,some 2,some 3] rfl ⟨Rf.boxK rfl rfl,zk2 rfl,rs rfl,rs rfl,trivial⟩ ⟨⟨_,rfl,rfl,rfl⟩,⟨_,rfl,rfl,rfl⟩,⟨_,rfl,rfl⟩,⟨_,rfl,rfl⟩,trivial⟩⟩
 ·refine swp_seq0 E1_ok mixed (by kernel_rfl) ?_
  conv=>whnf
  refine sq1 ?_
  conv=>whnf
  refine⟨gst [(1,.c (.p 0 0 3 0 0)),(3,.c (.gs 1 0)),(11,.c (.int .i64 2)),(12,.c (.int .i64 ((1:Nat):Int)))] [zb 2 4 p,zG 2,gq 2 (A 0),gq 0 (A 1)],Weak.gen [some 0,some 1,some 2,some 3] rfl ⟨Rf.boxK rfl rfl,zk2 rfl,rs rfl,rs rfl,trivial⟩ ⟨⟨_,rfl,rfl,rfl⟩,⟨_,rfl,rfl,rfl⟩,⟨_,rfl,rfl⟩,⟨_,rfl,rfl⟩,trivial⟩,?_⟩
  refine swp_mid (fun _:Unit=>gst [(1,.c (.p 0 0 3 0 0)),(3,.c (.gs 1 0)),(11,.c (.int .i64 2)),(12,.c (.int .i64 ((1:Nat):Int)))] [zb 2 4 p,zG 2,gq 2 (A 0),gq 2 (A 1)]) (fun _=>True) ?_ fun _ _=>?_
  rotate_left
  ·refine so1 ?_
   conv=>whnf
   repeat (refine⟨by first | decide | exact ixl rfl | exact rgl (by decide),?_⟩;conv=>whnf)
   exact⟨2,by decide,Weak.gen [some 0,some 1,some 2,some 3] rfl ⟨Rf.boxK rfl rfl,zk2 rfl,rs rfl,rs rfl,trivial⟩ ⟨⟨_,rfl,rfl,rfl⟩,⟨_,rfl,rfl,rfl⟩,⟨_,rfl,rfl⟩,⟨_,rfl,rfl⟩,trivial⟩,by decide⟩
  refine swp_block ?_
  refine sq1 ?_
  conv=>whnf
  refine⟨gst [(1,.c (.p 0 0 3 0 0)),(3,.c (.gs 1 0)),(11,.c (.int .i64 2)),(12,.c (.int .i64 ((1:Nat):Int))),(4,.c (.int .i64 ((1:Nat):Int)))] [zb 2 4 p,zG 2,gq 2 (A 0),gq 0 (A 1)],Weak.gen [some 0,some 1,some 2,some 3] rfl ⟨Rf.boxK rfl rfl,zk2 rfl,rs rfl,rs rfl,trivial⟩ ⟨⟨_,rfl,rfl,rfl⟩,⟨_,rfl,rfl,rfl⟩,⟨_,rfl,rfl⟩,⟨_,rfl,rfl⟩,⟨_,rfl,rfl⟩,trivial⟩,?_⟩
  refine sq1 ?_
  conv=>whnf
  repeat (refine⟨by first | decide | exact ixl rfl | exact rgl (by decide),?_⟩;conv=>whnf)
  refine⟨(fun x:Nat=>gst [(1,.c (.p 0 0 3 0 0)),(3,.c (.gs 1 0)),(11,.c (.int .i64 2)),(12,.c (.int .i64 ((1:Nat):Int))),(4,.c (.int .i64 ((1:Nat):Int))),(26,.c (.row 4 2 (qlF fun k=>p (1*2+k)))),(27,.c (.int .i64 2)),(28,.c (.int .i64 ((x:Nat):Int)))] [zb 2 4 p,zG 2,gq 2 (A 0),gq x (A 1)]) 0,Weak.gen [some 0,some 1,some 2,some 3] rfl ⟨Rf.boxK rfl rfl,zk2 rfl,rs rfl,rs rfl,trivial⟩ ⟨⟨_,rfl,rfl,rfl⟩,⟨_,rfl,rfl,rfl⟩,⟨_,rfl,rfl⟩,⟨_,rfl,rfl⟩,⟨_,rfl,rfl⟩,.inl ⟨_,_,rfl,rfl,fun _ _ _ _=>rfl⟩,⟨_,rfl,rfl⟩,⟨_,rfl,rfl⟩,trivial⟩,?_⟩
  have hN:=hN 1
  refine swp_block (swp_loop (fun x:Nat=>gst [(1,.c (.p 0 0 3 0 0)),(3,.c (.gs 1 0)),(11,.c (.int .i64 2)),(12,.c (.int .i64 ((1:Nat):Int))),(4,.c (.int .i64 ((1:Nat):Int))),(26,.c (.row 4 2 (qlF fun k=>p (1*2+k)))),(27,.c (.int .i64 2)),(28,.c (.int .i64 ((x:Nat):Int)))] [zb 2 4 p,zG 2,gq 2 (A 0),gq x (A 1)]) (fun x=>2-x) (fun x=>x≤2) 0 (Weak.refl _) (by decide) fun x hx=>?_)
  have hN:=hN x (by decide)
  have hj0:(0:Int)≤(x:Int):=by omega
  refine so1 ?_
  conv=>whnf
  refine bcase (fun(h:decide ((x:Int)<2)=true)=>?_) fun(h:decide ((x:Int)<2)=false)=>?_
  ·have h:=of_decide_eq_true h
   have hN:=hN (by omega)
   have hj1:(x:Int)<((2:Nat):Int):=by omega
   conv=>whnf
   repeat (refine⟨by first | exact hj0 | exact hj1 | decide | exact ixl rfl | exact rgl (by decide),?_⟩;conv=>whnf)
   refine⟨_,hN,?_⟩
   conv=>whnf
   refine .inr ⟨rfl,?_⟩
   conv=>whnf
   refine⟨by show x+1≤16777216;omega,fun a b ha hb=>Rf.one_nq (A 1 x) true a b ha hb,?_⟩
   conv=>whnf
   repeat (refine⟨by first | decide | exact ixl rfl | exact rgl (by decide),?_⟩;conv=>whnf)
   refine⟨i64_range (by omega) (by omega),?_⟩
   conv=>whnf
   exact⟨x+1,by omega,Weak.gen [some 0,some 1,some 2,some 3] rfl ⟨Rf.boxK rfl rfl,⟨_,rfl,rfl,rfl,rfl,rfl,cells2 ⟨_,rfl,rfl,rfl⟩ ⟨_,rfl,rfl,rfl⟩⟩,rs rfl,⟨_,rfl,rfl,rfl,rfl,rfl,fun x y hx hy=>row_app hx hy⟩,trivial⟩ ⟨⟨_,rfl,rfl,rfl⟩,⟨_,rfl,rfl,rfl⟩,⟨_,rfl,rfl⟩,⟨_,rfl,rfl⟩,⟨_,rfl,rfl⟩,.inl ⟨_,_,rfl,rfl,fun _ _ _ _=>rfl⟩,⟨_,rfl,rfl⟩,⟨_,rfl,rfl⟩,trivial⟩,by omega⟩
  ·have h:=of_decide_eq_false h
   obtain rfl:x=2:=by omega
   conv=>whnf
   exact⟨(),trivial,Weak.gen [some 0,some 1,some 2,some 3] rfl ⟨Rf.boxK rfl rfl,zk2 rfl,rs rfl,rs rfl,trivial⟩ ⟨⟨_,rfl,rfl,rfl⟩,⟨_,rfl,rfl,rfl⟩,⟨_,rfl,rfl⟩,⟨_,rfl,rfl⟩,trivial⟩⟩
 ·refine so1 ?_
  conv=>whnf
  exact⟨(),trivial,Weak.gen [some 0,some 1,some 2,some 3] rfl ⟨Rf.boxK rfl rfl,zk2 rfl,rs rfl,rs rfl,trivial⟩ ⟨⟨_,rfl,rfl,rfl⟩,trivial⟩⟩
set_option maxHeartbeats 16000000 in
set_option maxRecDepth 100000 in
theorem grid_3 {p:Nat->RawR} {A:Nat->Nat->Rat} {L:Nat} (hp:∀ k,k<9->(p k).Fit L) (hL:L+3≤LIM) (hA:∀ i j,i<3->j<3->(p (i*3+j)).val=A i j):FnT Tryz.prog true 39 0 [] [.g [.int .i64 3,.int .i64 3,ql 9 p]] (.c (.gs 0 0)) ([gG 3 idn,gq 3 (A 0),gq 3 (A 1),gq 3 (A 2)].map gb):=by
 have hN:∀ i j,i<3->j<3->FnOK Tryz.prog true 73 [.g (rr (p (i*3+j)))] (.g (nq (A i j))):=fun i j hi hj=>by
  have:=qnormal_ok (hp (i*3+j) (by omega)) hL
  rwa [hA i j hi hj]at this
 refine fnt_okS (E:=E1) E1_ok Tryz.func39 rfl (by kernel_rfl) ?_
 refine sq1 ?_
 conv=>whnf
 refine⟨gst [(1,.c (.p 0 0 3 0 0))] [zb 3 9 p],Weak.gen [some 0] rfl ⟨Rf.boxK rfl rfl,trivial⟩ ⟨⟨_,rfl,rfl,rfl⟩,trivial⟩,?_⟩
 refine sq1 ?_
 conv=>whnf
 refine⟨by decide,by decide,by decide,by decide,?_⟩
 conv=>whnf
 refine⟨gst [(1,.c (.p 0 0 3 0 0)),(3,.c (.gs 1 0))] [zb 3 9 p,zG 3,gq 0 (A 0),gq 0 (A 1),gq 0 (A 2)],Weak.gen [some 0,some 1,none,none,none] rfl ⟨Rf.boxK rfl rfl,⟨_,rfl,rfl,rfl,rfl,rfl,cells3 rfl rfl rfl⟩,rfl,rfl,rfl,trivial⟩ ⟨⟨_,rfl,rfl,rfl⟩,⟨_,rfl,rfl,rfl⟩,trivial⟩,?_⟩
 refine swp_mid (fun _:Unit=>gst [(3,.c (.gs 1 0))] [zb 3 9 p,zG 3,gq 3 (A 0),gq 3 (A 1),gq 3 (A 2)]) (fun _=>True) ?_ fun _ _=>?_
 rotate_left
 ·refine so1 ?_
  conv=>whnf
  exact Weak.gen (tl:=[(0,.c (.gs 0 0))]) (xs:=[gG 3 idn,gq 3 (A 0),gq 3 (A 1),gq 3 (A 2)]) [some 1,some 2,some 3,some 4] rfl ⟨⟨_,rfl,rfl,rfl,rfl,rfl,cells3 ⟨_,rfl,rfl,rfl⟩ ⟨_,rfl,rfl,rfl⟩ ⟨_,rfl,rfl,rfl⟩⟩,rs rfl,rs rfl,rs rfl,trivial⟩ ⟨⟨_,rfl,rfl,rfl⟩,trivial⟩
 refine sq1 ?_
 conv=>whnf
 refine⟨(fun i:Nat=>gst [(1,.c (.p 0 0 3 0 0)),(3,.c (.gs 1 0)),(11,.c (.int .i64 3)),(12,.c (.int .i64 ((i:Nat):Int)))] [zb 3 9 p,zG 3,gq (if 0<i then 3 else 0) (A 0),gq (if 1<i then 3 else 0) (A 1),gq (if 2<i then 3 else 0) (A 2)]) 0,Weak.gen [some 0,some 1,some 2,some 3,some 4] rfl ⟨Rf.boxK rfl rfl,zk3 rfl,rs rfl,rs rfl,rs rfl,trivial⟩ ⟨⟨_,rfl,rfl,rfl⟩,⟨_,rfl,rfl,rfl⟩,⟨_,rfl,rfl⟩,⟨_,rfl,rfl⟩,trivial⟩,?_⟩
 refine swp_block (swp_loop (fun i:Nat=>gst [(1,.c (.p 0 0 3 0 0)),(3,.c (.gs 1 0)),(11,.c (.int .i64 3)),(12,.c (.int .i64 ((i:Nat):Int)))] [zb 3 9 p,zG 3,gq (if 0<i then 3 else 0) (A 0),gq (if 1<i then 3 else 0) (A 1),gq (if 2<i then 3 else 0) (A 2)]) (fun i=>4-i) (fun i=>i≤3) 0 (Weak.refl _) (by decide) fun i hi=>?_)
 rcases(show i=0∨i=1∨i=2∨i=3 by omega)with rfl | rfl | rfl | rfl
 ·refine swp_seq0 E1_ok mixed (by kernel_rfl) ?_
  conv=>whnf
  refine sq1 ?_
  conv=>whnf
  refine⟨gst [(1,.c (.p 0 0 3 0 0)),(3,.c (.gs 1 0)),(11,.c (.int .i64 3)),(12,.c (.int .i64 ((0:Nat):Int)))] [zb 3 9 p,zG 3,gq 0 (A 0),gq 0 (A 1),gq 0 (A 2)],Weak.gen [some 0,some 1,some 2,some 3,some 4] rfl ⟨Rf.boxK rfl rfl,zk3 rfl,rs rfl,rs rfl,rs rfl,trivial⟩ ⟨⟨_,rfl,rfl,rfl⟩,⟨_,rfl,rfl,rfl⟩,⟨_,rfl,rfl⟩,⟨_,rfl,rfl⟩,trivial⟩,?_⟩
  refine swp_mid (fun _:Unit=>gst [(1,.c (.p 0 0 3 0 0)),(3,.c (.gs 1 0)),(11,.c (.int .i64 3)),(12,.c (.int .i64 ((0:Nat):Int)))] [zb 3 9 p,zG 3,gq 3 (A 0),gq 0 (A 1),gq 0 (A 2)]) (fun _=>True) ?_ fun _ _=>?_
  rotate_left
  ·refine so1 ?_
   conv=>whnf
   repeat (refine⟨by first | decide | exact ixl rfl | exact rgl (by decide),?_⟩;conv=>whnf)
   exact⟨1,by decide,Weak.gen [some 0,some 1,some 2,some 3,some 4] rfl ⟨Rf.boxK rfl rfl,zk3 rfl,rs rfl,rs rfl,rs rfl,trivial⟩ ⟨⟨_,rfl,rfl,rfl⟩,⟨_,rfl,rfl,rfl⟩,⟨_,rfl,rfl⟩,⟨_,rfl,rfl⟩,trivial⟩,by decide⟩
  refine swp_block ?_
  refine sq1 ?_
  conv=>whnf
  refine⟨gst [(1,.c (.p 0 0 3 0 0)),(3,.c (.gs 1 0)),(11,.c (.int .i64 3)),(12,.c (.int .i64 ((0:Nat):Int))),(4,.c (.int .i64 ((0:Nat):Int)))] [zb 3 9 p,zG 3,gq 0 (A 0),gq 0 (A 1),gq 0 (A 2)],Weak.gen [some 0,some 1,some 2,some 3,some 4] rfl ⟨Rf.boxK rfl rfl,zk3 rfl,rs rfl,rs rfl,rs rfl,trivial⟩ ⟨⟨_,rfl,rfl,rfl⟩,⟨_,rfl,rfl,rfl⟩,⟨_,rfl,rfl⟩,⟨_,rfl,rfl⟩,⟨_,rfl,rfl⟩,trivial⟩,?_⟩
  refine sq1 ?_
  conv=>whnf
  repeat (refine⟨by first | decide | exact ixl rfl | exact rgl (by decide),?_⟩;conv=>whnf)
  refine⟨(fun x:Nat=>gst [(1,.c (.p 0 0 3 0 0)),(3,.c (.gs 1 0)),(11,.c (.int .i64 3)),(12,.c (.int .i64 ((0:Nat):Int))),(4,.c (.int .i64 ((0:Nat):Int))),(26,.c (.row 4 3 (qlF fun k=>p (0*3+k)))),(27,.c (.int .i64 3)),(28,.c (.int .i64 ((x:Nat):Int)))] [zb 3 9 p,zG 3,gq x (A 0),gq 0 (A 1),gq 0 (A 2)]) 0,Weak.gen [some 0,some 1,some 2,some 3,some 4] rfl ⟨Rf.boxK rfl rfl,zk3 rfl,rs rfl,rs rfl,rs rfl,trivial⟩ ⟨⟨_,rfl,rfl,rfl⟩,⟨_,rfl,rfl,rfl⟩,⟨_,rfl,rfl⟩,⟨_,rfl,rfl⟩,⟨_,rfl,rfl⟩,.inl ⟨_,_,rfl,rfl,fun _ _ _ _=>rfl⟩,⟨_,rfl,rfl⟩,⟨_,rfl,rfl⟩,trivial⟩,?_⟩
  have hN:=hN 0
  refine swp_block (swp_loop (fun x:Nat=>gst [(1,.c (.p 0 0 3 0 0)),(3,.c (.gs 1 0)),(11,.c (.int .i64 3)),(12,.c (.int .i64 ((0:Nat):Int))),(4,.c (.int .i64 ((0:Nat):Int))),(26,.c (.row 4 3 (qlF fun k=>p (0*3+k)))),(27,.c (.int .i64 3)),(28,.c (.int .i64 ((x:Nat):Int)))] [zb 3 9 p,zG 3,gq x (A 0),gq 0 (A 1),gq 0 (A 2)]) (fun x=>3-x) (fun x=>x≤3) 0 (Weak.refl _) (by decide) fun x hx=>?_)
  have hN:=hN x (by decide)
  have hj0:(0:Int)≤(x:Int):=by omega
  refine so1 ?_
  conv=>whnf
  refine bcase (fun(h:decide ((x:Int)<3)=true)=>?_) fun(h:decide ((x:Int)<3)=false)=>?_
  ·have h:=of_decide_eq_true h
   have hN:=hN (by omega)
   have hj1:(x:Int)<((3:Nat):Int):=by omega
   conv=>whnf
   repeat (refine⟨by first | exact hj0 | exact hj1 | decide | exact ixl rfl | exact rgl (by decide),?_⟩;conv=>whnf)
   refine⟨_,hN,?_⟩
   conv=>whnf
   refine .inr ⟨rfl,?_⟩
   conv=>whnf
   refine⟨by show x+1≤16777216;omega,fun a b ha hb=>Rf.one_nq (A 0 x) true a b ha hb,?_⟩
   conv=>whnf
   repeat (refine⟨by first | decide | exact ixl rfl | exact rgl (by decide),?_⟩;conv=>whnf)
   refine⟨i64_range (by omega) (by omega),?_⟩
   conv=>whnf
   exact⟨x+1,by omega,Weak.gen [some 0,some 1,some 2,some 3,some 4] rfl ⟨Rf.boxK rfl rfl,⟨_,rfl,rfl,rfl,rfl,rfl,cells3 ⟨_,rfl,rfl,rfl⟩ ⟨_,rfl,rfl,rfl⟩ ⟨_,rfl,rfl,rfl⟩⟩,⟨_,rfl,rfl,rfl,rfl,rfl,fun x y hx hy=>row_app hx hy⟩,rs rfl,rs rfl,trivial⟩ ⟨⟨_,rfl,rfl,rfl⟩,⟨_,rfl,rfl,rfl⟩,⟨_,rfl,rfl⟩,⟨_,rfl,rfl⟩,⟨_,rfl,rfl⟩,.inl ⟨_,_,rfl,rfl,fun _ _ _ _=>rfl⟩,⟨_,rfl,rfl⟩,⟨_,rfl,rfl⟩,trivial⟩,by omega⟩
  ·have h:=of_decide_eq_false h
   obtain rfl:x=3:=by omega
   conv=>whnf
   exact⟨(),trivial,Weak.gen [some 0,some 1,some 2,some 3,some 4] rfl ⟨Rf.boxK rfl rfl,zk3 rfl,rs rfl,rs rfl,rs rfl,trivial⟩ ⟨⟨_,rfl,rfl,rfl⟩,⟨_,rfl,rfl,rfl⟩,⟨_,rfl,rfl⟩,⟨_,rfl,rfl⟩,trivial⟩⟩
 ·refine swp_seq0 E1_ok mixed (by kernel_rfl) ?_
  conv=>whnf
  refine sq1 ?_
  conv=>whnf
  refine⟨gst [(1,.c (.p 0 0 3 0 0)),(3,.c (.gs 1 0)),(11,.c (.int .i64 3)),(12,.c (.int .i64 ((1:Nat):Int)))] [zb 3 9 p,zG 3,gq 3 (A 0),gq 0 (A 1),gq 0 (A 2)],Weak.gen [some 0,some 1,some 2,some 3,some 4] rfl ⟨Rf.boxK rfl rfl,zk3 rfl,rs rfl,rs rfl,rs rfl,trivial⟩ ⟨⟨_,rfl,rfl,rfl⟩,⟨_,rfl,rfl,rfl⟩,⟨_,rfl,rfl⟩,⟨_,rfl,rfl⟩,trivial⟩,?_⟩
  refine swp_mid (fun _:Unit=>gst [(1,.c (.p 0 0 3 0 0)),(3,.c (.gs 1 0)),(11,.c (.int .i64 3)),(12,.c (.int .i64 ((1:Nat):Int)))] [zb 3 9 p,zG 3,gq 3 (A 0),gq 3 (A 1),gq 0 (A 2)]) (fun _=>True) ?_ fun _ _=>?_
  rotate_left
  ·refine so1 ?_
   conv=>whnf
   repeat (refine⟨by first | decide | exact ixl rfl | exact rgl (by decide),?_⟩;conv=>whnf)
   exact⟨2,by decide,Weak.gen [some 0,some 1,some 2,some 3,some 4] rfl ⟨Rf.boxK rfl rfl,zk3 rfl,rs rfl,rs rfl,rs rfl,trivial⟩ ⟨⟨_,rfl,rfl,rfl⟩,⟨_,rfl,rfl,rfl⟩,⟨_,rfl,rfl⟩,⟨_,rfl,rfl⟩,trivial⟩,by decide⟩
  refine swp_block ?_
  refine sq1 ?_
  conv=>whnf
  refine⟨gst [(1,.c (.p 0 0 3 0 0)),(3,.c (.gs 1 0)),(11,.c (.int .i64 3)),(12,.c (.int .i64 ((1:Nat):Int))),(4,.c (.int .i64 ((1:Nat):Int)))] [zb 3 9 p,zG 3,gq 3 (A 0),gq 0 (A 1),gq 0 (A 2)],Weak.gen [some 0,some 1,some 2,some 3,some 4] rfl ⟨Rf.boxK rfl rfl,zk3 rfl,rs rfl,rs rfl,rs rfl,trivial⟩ ⟨⟨_,rfl,rfl,rfl⟩,⟨_,rfl,rfl,rfl⟩,⟨_,rfl,rfl⟩,⟨_,rfl,rfl⟩,⟨_,rfl,rfl⟩,trivial⟩,?_⟩
  refine sq1 ?_
  conv=>whnf
  repeat (refine⟨by first | decide | exact ixl rfl | exact rgl (by decide),?_⟩;conv=>whnf)
  refine⟨(fun x:Nat=>gst [(1,.c (.p 0 0 3 0 0)),(3,.c (.gs 1 0)),(11,.c (.int .i64 3)),(12,.c (.int .i64 ((1:Nat):Int))),(4,.c (.int .i64 ((1:Nat):Int))),(26,.c (.row 4 3 (qlF fun k=>p (1*3+k)))),(27,.c (.int .i64 3)),(28,.c (.int .i64 ((x:Nat):Int)))] [zb 3 9 p,zG 3,gq 3 (A 0),gq x (A 1),gq 0 (A 2)]) 0,Weak.gen [some 0,some 1,some 2,some 3,some 4] rfl ⟨Rf.boxK rfl rfl,zk3 rfl,rs rfl,rs rfl,rs rfl,trivial⟩ ⟨⟨_,rfl,rfl,rfl⟩,⟨_,rfl,rfl,rfl⟩,⟨_,rfl,rfl⟩,⟨_,rfl,rfl⟩,⟨_,rfl,rfl⟩,.inl ⟨_,_,rfl,rfl,fun _ _ _ _=>rfl⟩,⟨_,rfl,rfl⟩,⟨_,rfl,rfl⟩,trivial⟩,?_⟩
  have hN:=hN 1
  refine swp_block (swp_loop (fun x:Nat=>gst [(1,.c (.p 0 0 3 0 0)),(3,.c (.gs 1 0)),(11,.c (.int .i64 3)),(12,.c (.int .i64 ((1:Nat):Int))),(4,.c (.int .i64 ((1:Nat):Int))),(26,.c (.row 4 3 (qlF fun k=>p (1*3+k)))),(27,.c (.int .i64 3)),(28,.c (.int .i64 ((x:Nat):Int)))] [zb 3 9 p,zG 3,gq 3 (A 0),gq x (A 1),gq 0 (A 2)]) (fun x=>3-x) (fun x=>x≤3) 0 (Weak.refl _) (by decide) fun x hx=>?_)
  have hN:=hN x (by decide)
  have hj0:(0:Int)≤(x:Int):=by omega
  refine so1 ?_
  conv=>whnf
  refine bcase (fun(h:decide ((x:Int)<3)=true)=>?_) fun(h:decide ((x:Int)<3)=false)=>?_
  ·have h:=of_decide_eq_true h
   have hN:=hN (by omega)
   have hj1:(x:Int)<((3:Nat):Int):=by omega
   conv=>whnf
   repeat (refine⟨by first | exact hj0 | exact hj1 | decide | exact ixl rfl | exact rgl (by decide),?_⟩;conv=>whnf)
   refine⟨_,hN,?_⟩
   conv=>whnf
   refine .inr ⟨rfl,?_⟩
   conv=>whnf
   refine⟨by show x+1≤16777216;omega,fun a b ha hb=>Rf.one_nq (A 1 x) true a b ha hb,?_⟩
   conv=>whnf
   repeat (refine⟨by first | decide | exact ixl rfl | exact rgl (by decide),?_⟩;conv=>whnf)
   refine⟨i64_range (by omega) (by omega),?_⟩
   conv=>whnf
   exact⟨x+1,by omega,Weak.gen [some 0,some 1,some 2,some 3,some 4] rfl ⟨Rf.boxK rfl rfl,⟨_,rfl,rfl,rfl,rfl,rfl,cells3 ⟨_,rfl,rfl,rfl⟩ ⟨_,rfl,rfl,rfl⟩ ⟨_,rfl,rfl,rfl⟩⟩,rs rfl,⟨_,rfl,rfl,rfl,rfl,rfl,fun x y hx hy=>row_app hx hy⟩,rs rfl,trivial⟩ ⟨⟨_,rfl,rfl,rfl⟩,⟨_,rfl,rfl,rfl⟩,⟨_,rfl,rfl⟩,⟨_,rfl,rfl⟩,⟨_,rfl,rfl⟩,.inl ⟨_,_,rfl,rfl,fun _ _ _ _=>rfl⟩,⟨_,rfl,rfl⟩,⟨_,rfl,rfl⟩,trivial⟩,by omega⟩
  ·have h:=of_decide_eq_false h
   obtain rfl:x=3:=by omega
   conv=>whnf
   exact⟨(),trivial,Weak.gen [some 0,some 1,some 2,some 3,some 4] rfl ⟨Rf.boxK rfl rfl,zk3 rfl,rs rfl,rs rfl,rs rfl,trivial⟩ ⟨⟨_,rfl,rfl,rfl⟩,⟨_,rfl,rfl,rfl⟩,⟨_,rfl,rfl⟩,⟨_,rfl,rfl⟩,trivial⟩⟩
 ·refine swp_seq0 E1_ok mixed (by kernel_rfl) ?_
  conv=>whnf
  refine sq1 ?_
  conv=>whnf
  refine⟨gst [(1,.c (.p 0 0 3 0 0)),(3,.c (.gs 1 0)),(11,.c (.int .i64 3)),(12,.c (.int .i64 ((2:Nat):Int)))] [zb 3 9 p,zG 3,gq 3 (A 0),gq 3 (A 1),gq 0 (A 2)],Weak.gen [some 0,some 1,some 2,some 3,some 4] rfl ⟨Rf.boxK rfl rfl,zk3 rfl,rs rfl,rs rfl,rs rfl,trivial⟩ ⟨⟨_,rfl,rfl,rfl⟩,⟨_,rfl,rfl,rfl⟩,⟨_,rfl,rfl⟩,⟨_,rfl,rfl⟩,trivial⟩,?_⟩
  refine swp_mid (fun _:Unit=>gst [(1,.c (.p 0 0 3 0 0)),(3,.c (.gs 1 0)),(11,.c (.int .i64 3)),(12,.c (.int .i64 ((2:Nat):Int)))] [zb 3 9 p,zG 3,gq 3 (A 0),gq 3 (A 1),gq 3 (A 2)]) (fun _=>True) ?_ fun _ _=>?_
  rotate_left
  ·refine so1 ?_
   conv=>whnf
   repeat (refine⟨by first | decide | exact ixl rfl | exact rgl (by decide),?_⟩;conv=>whnf)
   exact⟨3,by decide,Weak.gen [some 0,some 1,some 2,some 3,some 4] rfl ⟨Rf.boxK rfl rfl,zk3 rfl,rs rfl,rs rfl,rs rfl,trivial⟩ ⟨⟨_,rfl,rfl,rfl⟩,⟨_,rfl,rfl,rfl⟩,⟨_,rfl,rfl⟩,⟨_,rfl,rfl⟩,trivial⟩,by decide⟩
  refine swp_block ?_
  refine sq1 ?_
  conv=>whnf
  refine⟨gst [(1,.c (.p 0 0 3 0 0)),(3,.c (.gs 1 0)),(11,.c (.int .i64 3)),(12,.c (.int .i64 ((2:Nat):Int))),(4,.c (.int .i64 ((2:Nat):Int)))] [zb 3 9 p,zG 3,gq 3 (A 0),gq 3 (A 1),gq 0 (A 2)],Weak.gen [some 0,some 1,some 2,some 3,some 4] rfl ⟨Rf.boxK rfl rfl,zk3 rfl,rs rfl,rs rfl,rs rfl,trivial⟩ ⟨⟨_,rfl,rfl,rfl⟩,⟨_,rfl,rfl,rfl⟩,⟨_,rfl,rfl⟩,⟨_,rfl,rfl⟩,⟨_,rfl,rfl⟩,trivial⟩,?_⟩
  refine sq1 ?_
  conv=>whnf
  repeat (refine⟨by first | decide | exact ixl rfl | exact rgl (by decide),?_⟩;conv=>whnf)
  refine⟨(fun x:Nat=>gst [(1,.c (.p 0 0 3 0 0)),(3,.c (.gs 1 0)),(11,.c (.int .i64 3)),(12,.c (.int .i64 ((2:Nat):Int))),(4,.c (.int .i64 ((2:Nat):Int))),(26,.c (.row 4 3 (qlF fun k=>p (2*3+k)))),(27,.c (.int .i64 3)),(28,.c (.int .i64 ((x:Nat):Int)))] [zb 3 9 p,zG 3,gq 3 (A 0),gq 3 (A 1),gq x (A 2)]) 0,Weak.gen [some 0,some 1,some 2,some 3,some 4] rfl ⟨Rf.boxK rfl rfl,zk3 rfl,rs rfl,rs rfl,rs rfl,trivial⟩ ⟨⟨_,rfl,rfl,rfl⟩,⟨_,rfl,rfl,rfl⟩,⟨_,rfl,rfl⟩,⟨_,rfl,rfl⟩,⟨_,rfl,rfl⟩,.inl ⟨_,_,rfl,rfl,fun _ _ _ _=>rfl⟩,⟨_,rfl,rfl⟩,⟨_,rfl,rfl⟩,trivial⟩,?_⟩
  have hN:=hN 2
  refine swp_block (swp_loop (fun x:Nat=>gst [(1,.c (.p 0 0 3 0 0)),(3,.c (.gs 1 0)),(11,.c (.int .i64 3)),(12,.c (.int .i64 ((2:Nat):Int))),(4,.c (.int .i64 ((2:Nat):Int))),(26,.c (.row 4 3 (qlF fun k=>p (2*3+k)))),(27,.c (.int .i64 3)),(28,.c (.int .i64 ((x:Nat):Int)))] [zb 3 9 p,zG 3,gq 3 (A 0),gq 3 (A 1),gq x (A 2)]) (fun x=>3-x) (fun x=>x≤3) 0 (Weak.refl _) (by decide) fun x hx=>?_)
  have hN:=hN x (by decide)
  have hj0:(0:Int)≤(x:Int):=by omega
  refine so1 ?_
  conv=>whnf
  refine bcase (fun(h:decide ((x:Int)<3)=true)=>?_) fun(h:decide ((x:Int)<3)=false)=>?_
  ·have h:=of_decide_eq_true h
   have hN:=hN (by omega)
   have hj1:(x:Int)<((3:Nat):Int):=by omega
   conv=>whnf
   repeat (refine⟨by first | exact hj0 | exact hj1 | decide | exact ixl rfl | exact rgl (by decide),?_⟩;conv=>whnf)
   refine⟨_,hN,?_⟩
   conv=>whnf
   refine .inr ⟨rfl,?_⟩
   conv=>whnf
   refine⟨by show x+1≤16777216;omega,fun a b ha hb=>Rf.one_nq (A 2 x) true a b ha hb,?_⟩
   conv=>whnf
   repeat (refine⟨by first | decide | exact ixl rfl | exact rgl (by decide),?_⟩;conv=>whnf)
   refine⟨i64_range (by omega) (by omega),?_⟩
   conv=>whnf
   exact⟨x+1,by omega,Weak.gen [some 0,some 1,some 2,some 3,some 4] rfl ⟨Rf.boxK rfl rfl,⟨_,rfl,rfl,rfl,rfl,rfl,cells3 ⟨_,rfl,rfl,rfl⟩ ⟨_,rfl,rfl,rfl⟩ ⟨_,rfl,rfl,rfl⟩⟩,rs rfl,rs rfl,⟨_,rfl,rfl,rfl,rfl,rfl,fun x y hx hy=>row_app hx hy⟩,trivial⟩ ⟨⟨_,rfl,rfl,rfl⟩,⟨_,rfl,rfl,rfl⟩,⟨_,rfl,rfl⟩,⟨_,rfl,rfl⟩,⟨_,rfl,rfl⟩,.inl ⟨_,_,rfl,rfl,fun _ _ _ _=>rfl⟩,⟨_,rfl,rfl⟩,⟨_,rfl,rfl⟩,trivial⟩,by omega⟩
  ·have h:=of_decide_eq_false h
   obtain rfl:x=3:=by omega
   conv=>whnf
   exact⟨(),trivial,Weak.gen [some 0,some 1,some 2,some 3,some 4] rfl ⟨Rf.boxK rfl rfl,zk3 rfl,rs rfl,rs rfl,rs rfl,trivial⟩ ⟨⟨_,rfl,rfl,rfl⟩,⟨_,rfl,rfl,rfl⟩,⟨_,rfl,rfl⟩,⟨_,rfl,rfl⟩,trivial⟩⟩
 ·refine so1 ?_
  conv=>whnf
  exact⟨(),trivial,Weak.gen [some 0,some 1,some 2,some 3,some 4] rfl ⟨Rf.boxK rfl rfl,zk3 rfl,rs rfl,rs rfl,rs rfl,trivial⟩ ⟨⟨_,rfl,rfl,rfl⟩,trivial⟩⟩
set_option maxHeartbeats 16000000 in
set_option maxRecDepth 100000 in
theorem grid_4 {p:Nat->RawR} {A:Nat->Nat->Rat} {L:Nat} (hp:∀ k,k<16->(p k).Fit L) (hL:L+3≤LIM) (hA:∀ i j,i<4->j<4->(p (i*4+j)).val=A i j):FnT Tryz.prog true 39 0 [] [.g [.int .i64 4,.int .i64 4,ql 16 p]] (.c (.gs 0 0)) ([gG 4 idn,gq 4 (A 0),gq 4 (A 1),gq 4 (A 2),gq 4 (A 3)].map gb):=by
 have hN:∀ i j,i<4->j<4->FnOK Tryz.prog true 73 [.g (rr (p (i*4+j)))] (.g (nq (A i j))):=fun i j hi hj=>by
  have:=qnormal_ok (hp (i*4+j) (by omega)) hL
  rwa [hA i j hi hj]at this
 refine fnt_okS (E:=E1) E1_ok Tryz.func39 rfl (by kernel_rfl) ?_
 refine sq1 ?_
 conv=>whnf
 refine⟨gst [(1,.c (.p 0 0 3 0 0))] [zb 4 16 p],Weak.gen [some 0] rfl ⟨Rf.boxK rfl rfl,trivial⟩ ⟨⟨_,rfl,rfl,rfl⟩,trivial⟩,?_⟩
 refine sq1 ?_
 conv=>whnf
 refine⟨by decide,by decide,by decide,by decide,?_⟩
 conv=>whnf
 refine⟨gst [(1,.c (.p 0 0 3 0 0)),(3,.c (.gs 1 0))] [zb 4 16 p,zG 4,gq 0 (A 0),gq 0 (A 1),gq 0 (A 2),gq 0 (A 3)],Weak.gen [some 0,some 1,none,none,none,none] rfl ⟨Rf.boxK rfl rfl,⟨_,rfl,rfl,rfl,rfl,rfl,cells4 rfl rfl rfl rfl⟩,rfl,rfl,rfl,rfl,trivial⟩ ⟨⟨_,rfl,rfl,rfl⟩,⟨_,rfl,rfl,rfl⟩,trivial⟩,?_⟩
 refine swp_mid (fun _:Unit=>gst [(3,.c (.gs 1 0))] [zb 4 16 p,zG 4,gq 4 (A 0),gq 4 (A 1),gq 4 (A 2),gq 4 (A 3)]) (fun _=>True) ?_ fun _ _=>?_
 rotate_left
 ·refine so1 ?_
  conv=>whnf
  exact Weak.gen (tl:=[(0,.c (.gs 0 0))]) (xs:=[gG 4 idn,gq 4 (A 0),gq 4 (A 1),gq 4 (A 2),gq 4 (A 3)]) [some 1,some 2,some 3,some 4,some 5] rfl ⟨⟨_,rfl,rfl,rfl,rfl,rfl,cells4 ⟨_,rfl,rfl,rfl⟩ ⟨_,rfl,rfl,rfl⟩ ⟨_,rfl,rfl,rfl⟩ ⟨_,rfl,rfl,rfl⟩⟩,rs rfl,rs rfl,rs rfl,rs rfl,trivial⟩ ⟨⟨_,rfl,rfl,rfl⟩,trivial⟩
 refine sq1 ?_
 conv=>whnf
 refine⟨(fun i:Nat=>gst [(1,.c (.p 0 0 3 0 0)),(3,.c (.gs 1 0)),(11,.c (.int .i64 4)),(12,.c (.int .i64 ((i:Nat):Int)))] [zb 4 16 p,zG 4,gq (if 0<i then 4 else 0) (A 0),gq (if 1<i then 4 else 0) (A 1),gq (if 2<i then 4 else 0) (A 2),gq (if 3<i then 4 else 0) (A 3)]) 0,Weak.gen [some 0,some 1,some 2,some 3,some 4,some 5] rfl ⟨Rf.boxK rfl rfl,zk4 rfl,rs rfl,rs rfl,rs rfl,rs rfl,trivial⟩ ⟨⟨_,rfl,rfl,rfl⟩,⟨_,rfl,rfl,rfl⟩,⟨_,rfl,rfl⟩,⟨_,rfl,rfl⟩,trivial⟩,?_⟩
 refine swp_block (swp_loop (fun i:Nat=>gst [(1,.c (.p 0 0 3 0 0)),(3,.c (.gs 1 0)),(11,.c (.int .i64 4)),(12,.c (.int .i64 ((i:Nat):Int)))] [zb 4 16 p,zG 4,gq (if 0<i then 4 else 0) (A 0),gq (if 1<i then 4 else 0) (A 1),gq (if 2<i then 4 else 0) (A 2),gq (if 3<i then 4 else 0) (A 3)]) (fun i=>5-i) (fun i=>i≤4) 0 (Weak.refl _) (by decide) fun i hi=>?_)
 rcases(show i=0∨i=1∨i=2∨i=3∨i=4 by omega)with rfl | rfl | rfl | rfl | rfl
 ·refine swp_seq0 E1_ok mixed (by kernel_rfl) ?_
  conv=>whnf
  refine sq1 ?_
  conv=>whnf
  refine⟨gst [(1,.c (.p 0 0 3 0 0)),(3,.c (.gs 1 0)),(11,.c (.int .i64 4)),(12,.c (.int .i64 ((0:Nat):Int)))] [zb 4 16 p,zG 4,gq 0 (A 0),gq 0 (A 1),gq 0 (A 2),gq 0 (A 3)],Weak.gen [some 0,some 1,some 2,some 3,some 4,some 5] rfl ⟨Rf.boxK rfl rfl,zk4 rfl,rs rfl,rs rfl,rs rfl,rs rfl,trivial⟩ ⟨⟨_,rfl,rfl,rfl⟩,⟨_,rfl,rfl,rfl⟩,⟨_,rfl,rfl⟩,⟨_,rfl,rfl⟩,trivial⟩,?_⟩
  refine swp_mid (fun _:Unit=>gst [(1,.c (.p 0 0 3 0 0)),(3,.c (.gs 1 0)),(11,.c (.int .i64 4)),(12,.c (.int .i64 ((0:Nat):Int)))] [zb 4 16 p,zG 4,gq 4 (A 0),gq 0 (A 1),gq 0 (A 2),gq 0 (A 3)]) (fun _=>True) ?_ fun _ _=>?_
  rotate_left
  ·refine so1 ?_
   conv=>whnf
   repeat (refine⟨by first | decide | exact ixl rfl | exact rgl (by decide),?_⟩;conv=>whnf)
   exact⟨1,by decide,Weak.gen [some 0,some 1,some 2,some 3,some 4,some 5] rfl ⟨Rf.boxK rfl rfl,zk4 rfl,rs rfl,rs rfl,rs rfl,rs rfl,trivial⟩ ⟨⟨_,rfl,rfl,rfl⟩,⟨_,rfl,rfl,rfl⟩,⟨_,rfl,rfl⟩,⟨_,rfl,rfl⟩,trivial⟩,by decide⟩
  refine swp_block ?_
  refine sq1 ?_
  conv=>whnf
  refine⟨gst [(1,.c (.p 0 0 3 0 0)),(3,.c (.gs 1 0)),(11,.c (.int .i64 4)),(12,.c (.int .i64 ((0:Nat):Int))),(4,.c (.int .i64 ((0:Nat):Int)))] [zb 4 16 p,zG 4,gq 0 (A 0),gq 0 (A 1),gq 0 (A 2),gq 0 (A 3)],Weak.gen [some 0,some 1,some 2,some 3,some 4,some 5] rfl ⟨Rf.boxK rfl rfl,zk4 rfl,rs rfl,rs rfl,rs rfl,rs rfl,trivial⟩ ⟨⟨_,rfl,rfl,rfl⟩,⟨_,rfl,rfl,rfl⟩,⟨_,rfl,rfl⟩,⟨_,rfl,rfl⟩,⟨_,rfl,rfl⟩,trivial⟩,?_⟩
  refine sq1 ?_
  conv=>whnf
  repeat (refine⟨by first | decide | exact ixl rfl | exact rgl (by decide),?_⟩;conv=>whnf)
  refine⟨(fun x:Nat=>gst [(1,.c (.p 0 0 3 0 0)),(3,.c (.gs 1 0)),(11,.c (.int .i64 4)),(12,.c (.int .i64 ((0:Nat):Int))),(4,.c (.int .i64 ((0:Nat):Int))),(26,.c (.row 4 4 (qlF fun k=>p (0*4+k)))),(27,.c (.int .i64 4)),(28,.c (.int .i64 ((x:Nat):Int)))] [zb 4 16 p,zG 4,gq x (A 0),gq 0 (A 1),gq 0 (A 2),gq 0 (A 3)]) 0,Weak.gen [some 0,some 1,some 2,some 3,some 4,some 5] rfl ⟨Rf.boxK rfl rfl,zk4 rfl,rs rfl,rs rfl,rs rfl,rs rfl,trivial⟩ ⟨⟨_,rfl,rfl,rfl⟩,⟨_,rfl,rfl,rfl⟩,⟨_,rfl,rfl⟩,⟨_,rfl,rfl⟩,⟨_,rfl,rfl⟩,.inl ⟨_,_,rfl,rfl,fun _ _ _ _=>rfl⟩,⟨_,rfl,rfl⟩,⟨_,rfl,rfl⟩,trivial⟩,?_⟩
  have hN:=hN 0
  refine swp_block (swp_loop (fun x:Nat=>gst [(1,.c (.p 0 0 3 0 0)),(3,.c (.gs 1 0)),(11,.c (.int .i64 4)),(12,.c (.int .i64 ((0:Nat):Int))),(4,.c (.int .i64 ((0:Nat):Int))),(26,.c (.row 4 4 (qlF fun k=>p (0*4+k)))),(27,.c (.int .i64 4)),(28,.c (.int .i64 ((x:Nat):Int)))] [zb 4 16 p,zG 4,gq x (A 0),gq 0 (A 1),gq 0 (A 2),gq 0 (A 3)]) (fun x=>4-x) (fun x=>x≤4) 0 (Weak.refl _) (by decide) fun x hx=>?_)
  have hN:=hN x (by decide)
  have hj0:(0:Int)≤(x:Int):=by omega
  refine so1 ?_
  conv=>whnf
  refine bcase (fun(h:decide ((x:Int)<4)=true)=>?_) fun(h:decide ((x:Int)<4)=false)=>?_
  ·have h:=of_decide_eq_true h
   have hN:=hN (by omega)
   have hj1:(x:Int)<((4:Nat):Int):=by omega
   conv=>whnf
   repeat (refine⟨by first | exact hj0 | exact hj1 | decide | exact ixl rfl | exact rgl (by decide),?_⟩;conv=>whnf)
   refine⟨_,hN,?_⟩
   conv=>whnf
   refine .inr ⟨rfl,?_⟩
   conv=>whnf
   refine⟨by show x+1≤16777216;omega,fun a b ha hb=>Rf.one_nq (A 0 x) true a b ha hb,?_⟩
   conv=>whnf
   repeat (refine⟨by first | decide | exact ixl rfl | exact rgl (by decide),?_⟩;conv=>whnf)
   refine⟨i64_range (by omega) (by omega),?_⟩
   conv=>whnf
   exact⟨x+1,by omega,Weak.gen [some 0,some 1,some 2,some 3,some 4,some 5] rfl ⟨Rf.boxK rfl rfl,⟨_,rfl,rfl,rfl,rfl,rfl,cells4 ⟨_,rfl,rfl,rfl⟩ ⟨_,rfl,rfl,rfl⟩ ⟨_,rfl,rfl,rfl⟩ ⟨_,rfl,rfl,rfl⟩⟩,⟨_,rfl,rfl,rfl,rfl,rfl,fun x y hx hy=>row_app hx hy⟩,rs rfl,rs rfl,rs rfl,trivial⟩ ⟨⟨_,rfl,rfl,rfl⟩,⟨_,rfl,rfl,rfl⟩,⟨_,rfl,rfl⟩,⟨_,rfl,rfl⟩,⟨_,rfl,rfl⟩,.inl ⟨_,_,rfl,rfl,fun _ _ _ _=>rfl⟩,⟨_,rfl,rfl⟩,⟨_,rfl,rfl⟩,trivial⟩,by omega⟩
  ·have h:=of_decide_eq_false h
   obtain rfl:x=4:=by omega
   conv=>whnf
   exact⟨(),trivial,Weak.gen [some 0,some 1,some 2,some 3,some 4,some 5] rfl ⟨Rf.boxK rfl rfl,zk4 rfl,rs rfl,rs rfl,rs rfl,rs rfl,trivial⟩ ⟨⟨_,rfl,rfl,rfl⟩,⟨_,rfl,rfl,rfl⟩,⟨_,rfl,rfl⟩,⟨_,rfl,rfl⟩,trivial⟩⟩
 ·refine swp_seq0 E1_ok mixed (by kernel_rfl) ?_
  conv=>whnf
  refine sq1 ?_
  conv=>whnf
  refine⟨gst [(1,.c (.p 0 0 3 0 0)),(3,.c (.gs 1 0)),(11,.c (.int .i64 4)),(12,.c (.int .i64 ((1:Nat):Int)))] [zb 4 16 p,zG 4,gq 4 (A 0),gq 0 (A 1),gq 0 (A 2),gq 0 (A 3)],Weak.gen [some 0,some 1,some 2,some 3,some 4,some 5] rfl ⟨Rf.boxK rfl rfl,zk4 rfl,rs rfl,rs rfl,rs rfl,rs rfl,trivial⟩ ⟨⟨_,rfl,rfl,rfl⟩,⟨_,rfl,rfl,rfl⟩,⟨_,rfl,rfl⟩,⟨_,rfl,rfl⟩,trivial⟩,?_⟩
  refine swp_mid (fun _:Unit=>gst [(1,.c (.p 0 0 3 0 0)),(3,.c (.gs 1 0)),(11,.c (.int .i64 4)),(12,.c (.int .i64 ((1:Nat):Int)))] [zb 4 16 p,zG 4,gq 4 (A 0),gq 4 (A 1),gq 0 (A 2),gq 0 (A 3)]) (fun _=>True) ?_ fun _ _=>?_
  rotate_left
  ·refine so1 ?_
   conv=>whnf
   repeat (refine⟨by first | decide | exact ixl rfl | exact rgl (by decide),?_⟩;conv=>whnf)
   exact⟨2,by decide,Weak.gen [some 0,some 1,some 2,some 3,some 4,some 5] rfl ⟨Rf.boxK rfl rfl,zk4 rfl,rs rfl,rs rfl,rs rfl,rs rfl,trivial⟩ ⟨⟨_,rfl,rfl,rfl⟩,⟨_,rfl,rfl,rfl⟩,⟨_,rfl,rfl⟩,⟨_,rfl,rfl⟩,trivial⟩,by decide⟩
  refine swp_block ?_
  refine sq1 ?_
  conv=>whnf
  refine⟨gst [(1,.c (.p 0 0 3 0 0)),(3,.c (.gs 1 0)),(11,.c (.int .i64 4)),(12,.c (.int .i64 ((1:Nat):Int))),(4,.c (.int .i64 ((1:Nat):Int)))] [zb 4 16 p,zG 4,gq 4 (A 0),gq 0 (A 1),gq 0 (A 2),gq 0 (A 3)],Weak.gen [some 0,some 1,some 2,some 3,some 4,some 5] rfl ⟨Rf.boxK rfl rfl,zk4 rfl,rs rfl,rs rfl,rs rfl,rs rfl,trivial⟩ ⟨⟨_,rfl,rfl,rfl⟩,⟨_,rfl,rfl,rfl⟩,⟨_,rfl,rfl⟩,⟨_,rfl,rfl⟩,⟨_,rfl,rfl⟩,trivial⟩,?_⟩
  refine sq1 ?_
  conv=>whnf
  repeat (refine⟨by first | decide | exact ixl rfl | exact rgl (by decide),?_⟩;conv=>whnf)
  refine⟨(fun x:Nat=>gst [(1,.c (.p 0 0 3 0 0)),(3,.c (.gs 1 0)),(11,.c (.int .i64 4)),(12,.c (.int .i64 ((1:Nat):Int))),(4,.c (.int .i64 ((1:Nat):Int))),(26,.c (.row 4 4 (qlF fun k=>p (1*4+k)))),(27,.c (.int .i64 4)),(28,.c (.int .i64 ((x:Nat):Int)))] [zb 4 16 p,zG 4,gq 4 (A 0),gq x (A 1),gq 0 (A 2),gq 0 (A 3)]) 0,Weak.gen [some 0,some 1,some 2,some 3,some 4,some 5] rfl ⟨Rf.boxK rfl rfl,zk4 rfl,rs rfl,rs rfl,rs rfl,rs rfl,trivial⟩ ⟨⟨_,rfl,rfl,rfl⟩,⟨_,rfl,rfl,rfl⟩,⟨_,rfl,rfl⟩,⟨_,rfl,rfl⟩,⟨_,rfl,rfl⟩,.inl ⟨_,_,rfl,rfl,fun _ _ _ _=>rfl⟩,⟨_,rfl,rfl⟩,⟨_,rfl,rfl⟩,trivial⟩,?_⟩
  have hN:=hN 1
  refine swp_block (swp_loop (fun x:Nat=>gst [(1,.c (.p 0 0 3 0 0)),(3,.c (.gs 1 0)),(11,.c (.int .i64 4)),(12,.c (.int .i64 ((1:Nat):Int))),(4,.c (.int .i64 ((1:Nat):Int))),(26,.c (.row 4 4 (qlF fun k=>p (1*4+k)))),(27,.c (.int .i64 4)),(28,.c (.int .i64 ((x:Nat):Int)))] [zb 4 16 p,zG 4,gq 4 (A 0),gq x (A 1),gq 0 (A 2),gq 0 (A 3)]) (fun x=>4-x) (fun x=>x≤4) 0 (Weak.refl _) (by decide) fun x hx=>?_)
  have hN:=hN x (by decide)
  have hj0:(0:Int)≤(x:Int):=by omega
  refine so1 ?_
  conv=>whnf
  refine bcase (fun(h:decide ((x:Int)<4)=true)=>?_) fun(h:decide ((x:Int)<4)=false)=>?_
  ·have h:=of_decide_eq_true h
   have hN:=hN (by omega)
   have hj1:(x:Int)<((4:Nat):Int):=by omega
   conv=>whnf
   repeat (refine⟨by first | exact hj0 | exact hj1 | decide | exact ixl rfl | exact rgl (by decide),?_⟩;conv=>whnf)
   refine⟨_,hN,?_⟩
   conv=>whnf
   refine .inr ⟨rfl,?_⟩
   conv=>whnf
   refine⟨by show x+1≤16777216;omega,fun a b ha hb=>Rf.one_nq (A 1 x) true a b ha hb,?_⟩
   conv=>whnf
   repeat (refine⟨by first | decide | exact ixl rfl | exact rgl (by decide),?_⟩;conv=>whnf)
   refine⟨i64_range (by omega) (by omega),?_⟩
   conv=>whnf
   exact⟨x+1,by omega,Weak.gen [some 0,some 1,some 2,some 3,some 4,some 5] rfl ⟨Rf.boxK rfl rfl,⟨_,rfl,rfl,rfl,rfl,rfl,cells4 ⟨_,rfl,rfl,rfl⟩ ⟨_,rfl,rfl,rfl⟩ ⟨_,rfl,rfl,rfl⟩ ⟨_,rfl,rfl,rfl⟩⟩,rs rfl,⟨_,rfl,rfl,rfl,rfl,rfl,fun x y hx hy=>row_app hx hy⟩,rs rfl,rs rfl,trivial⟩ ⟨⟨_,rfl,rfl,rfl⟩,⟨_,rfl,rfl,rfl⟩,⟨_,rfl,rfl⟩,⟨_,rfl,rfl⟩,⟨_,rfl,rfl⟩,.inl ⟨_,_,rfl,rfl,fun _ _ _ _=>rfl⟩,⟨_,rfl,rfl⟩,⟨_,rfl,rfl⟩,trivial⟩,by omega⟩
  ·have h:=of_decide_eq_false h
   obtain rfl:x=4:=by omega
   conv=>whnf
   exact⟨(),trivial,Weak.gen [some 0,some 1,some 2,some 3,some 4,some 5] rfl ⟨Rf.boxK rfl rfl,zk4 rfl,rs rfl,rs rfl,rs rfl,rs rfl,trivial⟩ ⟨⟨_,rfl,rfl,rfl⟩,⟨_,rfl,rfl,rfl⟩,⟨_,rfl,rfl⟩,⟨_,rfl,rfl⟩,trivial⟩⟩
 ·refine swp_seq0 E1_ok mixed (by kernel_rfl) ?_
  conv=>whnf
  refine sq1 ?_
  conv=>whnf
  refine⟨gst [(1,.c (.p 0 0 3 0 0)),(3,.c (.gs 1 0)),(11,.c (.int .i64 4)),(12,.c (.int .i64 ((2:Nat):Int)))] [zb 4 16 p,zG 4,gq 4 (A 0),gq 4 (A 1),gq 0 (A 2),gq 0 (A 3)],Weak.gen [some 0,some 1,some 2,some 3,some 4,some 5] rfl ⟨Rf.boxK rfl rfl,zk4 rfl,rs rfl,rs rfl,rs rfl,rs rfl,trivial⟩ ⟨⟨_,rfl,rfl,rfl⟩,⟨_,rfl,rfl,rfl⟩,⟨_,rfl,rfl⟩,⟨_,rfl,rfl⟩,trivial⟩,?_⟩
  refine swp_mid (fun _:Unit=>gst [(1,.c (.p 0 0 3 0 0)),(3,.c (.gs 1 0)),(11,.c (.int .i64 4)),(12,.c (.int .i64 ((2:Nat):Int)))] [zb 4 16 p,zG 4,gq 4 (A 0),gq 4 (A 1),gq 4 (A 2),gq 0 (A 3)]) (fun _=>True) ?_ fun _ _=>?_
  rotate_left
  ·refine so1 ?_
   conv=>whnf
   repeat (refine⟨by first | decide | exact ixl rfl | exact rgl (by decide),?_⟩;conv=>whnf)
   exact⟨3,by decide,Weak.gen [some 0,some 1,some 2,some 3,some 4,some 5] rfl ⟨Rf.boxK rfl rfl,zk4 rfl,rs rfl,rs rfl,rs rfl,rs rfl,trivial⟩ ⟨⟨_,rfl,rfl,rfl⟩,⟨_,rfl,rfl,rfl⟩,⟨_,rfl,rfl⟩,⟨_,rfl,rfl⟩,trivial⟩,by decide⟩
  refine swp_block ?_
  refine sq1 ?_
  conv=>whnf
  refine⟨gst [(1,.c (.p 0 0 3 0 0)),(3,.c (.gs 1 0)),(11,.c (.int .i64 4)),(12,.c (.int .i64 ((2:Nat):Int))),(4,.c (.int .i64 ((2:Nat):Int)))] [zb 4 16 p,zG 4,gq 4 (A 0),gq 4 (A 1),gq 0 (A 2),gq 0 (A 3)],Weak.gen [some 0,some 1,some 2,some 3,some 4,some 5] rfl ⟨Rf.boxK rfl rfl,zk4 rfl,rs rfl,rs rfl,rs rfl,rs rfl,trivial⟩ ⟨⟨_,rfl,rfl,rfl⟩,⟨_,rfl,rfl,rfl⟩,⟨_,rfl,rfl⟩,⟨_,rfl,rfl⟩,⟨_,rfl,rfl⟩,trivial⟩,?_⟩
  refine sq1 ?_
  conv=>whnf
  repeat (refine⟨by first | decide | exact ixl rfl | exact rgl (by decide),?_⟩;conv=>whnf)
  refine⟨(fun x:Nat=>gst [(1,.c (.p 0 0 3 0 0)),(3,.c (.gs 1 0)),(11,.c (.int .i64 4)),(12,.c (.int .i64 ((2:Nat):Int))),(4,.c (.int .i64 ((2:Nat):Int))),(26,.c (.row 4 4 (qlF fun k=>p (2*4+k)))),(27,.c (.int .i64 4)),(28,.c (.int .i64 ((x:Nat):Int)))] [zb 4 16 p,zG 4,gq 4 (A 0),gq 4 (A 1),gq x (A 2),gq 0 (A 3)]) 0,Weak.gen [some 0,some 1,some 2,some 3,some 4,some 5] rfl ⟨Rf.boxK rfl rfl,zk4 rfl,rs rfl,rs rfl,rs rfl,rs rfl,trivial⟩ ⟨⟨_,rfl,rfl,rfl⟩,⟨_,rfl,rfl,rfl⟩,⟨_,rfl,rfl⟩,⟨_,rfl,rfl⟩,⟨_,rfl,rfl⟩,.inl ⟨_,_,rfl,rfl,fun _ _ _ _=>rfl⟩,⟨_,rfl,rfl⟩,⟨_,rfl,rfl⟩,trivial⟩,?_⟩
  have hN:=hN 2
  refine swp_block (swp_loop (fun x:Nat=>gst [(1,.c (.p 0 0 3 0 0)),(3,.c (.gs 1 0)),(11,.c (.int .i64 4)),(12,.c (.int .i64 ((2:Nat):Int))),(4,.c (.int .i64 ((2:Nat):Int))),(26,.c (.row 4 4 (qlF fun k=>p (2*4+k)))),(27,.c (.int .i64 4)),(28,.c (.int .i64 ((x:Nat):Int)))] [zb 4 16 p,zG 4,gq 4 (A 0),gq 4 (A 1),gq x (A 2),gq 0 (A 3)]) (fun x=>4-x) (fun x=>x≤4) 0 (Weak.refl _) (by decide) fun x hx=>?_)
  have hN:=hN x (by decide)
  have hj0:(0:Int)≤(x:Int):=by omega
  refine so1 ?_
  conv=>whnf
  refine bcase (fun(h:decide ((x:Int)<4)=true)=>?_) fun(h:decide ((x:Int)<4)=false)=>?_
  ·have h:=of_decide_eq_true h
   have hN:=hN (by omega)
   have hj1:(x:Int)<((4:Nat):Int):=by omega
   conv=>whnf
   repeat (refine⟨by first | exact hj0 | exact hj1 | decide | exact ixl rfl | exact rgl (by decide),?_⟩;conv=>whnf)
   refine⟨_,hN,?_⟩
   conv=>whnf
   refine .inr ⟨rfl,?_⟩
   conv=>whnf
   refine⟨by show x+1≤16777216;omega,fun a b ha hb=>Rf.one_nq (A 2 x) true a b ha hb,?_⟩
   conv=>whnf
   repeat (refine⟨by first | decide | exact ixl rfl | exact rgl (by decide),?_⟩;conv=>whnf)
   refine⟨i64_range (by omega) (by omega),?_⟩
   conv=>whnf
   exact⟨x+1,by omega,Weak.gen [some 0,some 1,some 2,some 3,some 4,some 5] rfl ⟨Rf.boxK rfl rfl,⟨_,rfl,rfl,rfl,rfl,rfl,cells4 ⟨_,rfl,rfl,rfl⟩ ⟨_,rfl,rfl,rfl⟩ ⟨_,rfl,rfl,rfl⟩ ⟨_,rfl,rfl,rfl⟩⟩,rs rfl,rs rfl,⟨_,rfl,rfl,rfl,rfl,rfl,fun x y hx hy=>row_app hx hy⟩,rs rfl,trivial⟩ ⟨⟨_,rfl,rfl,rfl⟩,⟨_,rfl,rfl,rfl⟩,⟨_,rfl,rfl⟩,⟨_,rfl,rfl⟩,⟨_,rfl,rfl⟩,.inl ⟨_,_,rfl,rfl,fun _ _ _ _=>rfl⟩,⟨_,rfl,rfl⟩,⟨_,rfl,rfl⟩,trivial⟩,by omega⟩
  ·have h:=of_decide_eq_false h
   obtain rfl:x=4:=by omega
   conv=>whnf
   exact⟨(),trivial,Weak.gen [some 0,some 1,some 2,some 3,some 4,some 5] rfl ⟨Rf.boxK rfl rfl,zk4 rfl,rs rfl,rs rfl,rs rfl,rs rfl,trivial⟩ ⟨⟨_,rfl,rfl,rfl⟩,⟨_,rfl,rfl,rfl⟩,⟨_,rfl,rfl⟩,⟨_,rfl,rfl⟩,trivial⟩⟩
 ·refine swp_seq0 E1_ok mixed (by kernel_rfl) ?_
  conv=>whnf
  refine sq1 ?_
  conv=>whnf
  refine⟨gst [(1,.c (.p 0 0 3 0 0)),(3,.c (.gs 1 0)),(11,.c (.int .i64 4)),(12,.c (.int .i64 ((3:Nat):Int)))] [zb 4 16 p,zG 4,gq 4 (A 0),gq 4 (A 1),gq 4 (A 2),gq 0 (A 3)],Weak.gen [some 0,some 1,some 2,some 3,some 4,some 5] rfl ⟨Rf.boxK rfl rfl,zk4 rfl,rs rfl,rs rfl,rs rfl,rs rfl,trivial⟩ ⟨⟨_,rfl,rfl,rfl⟩,⟨_,rfl,rfl,rfl⟩,⟨_,rfl,rfl⟩,⟨_,rfl,rfl⟩,trivial⟩,?_⟩
  refine swp_mid (fun _:Unit=>gst [(1,.c (.p 0 0 3 0 0)),(3,.c (.gs 1 0)),(11,.c (.int .i64 4)),(12,.c (.int .i64 ((3:Nat):Int)))] [zb 4 16 p,zG 4,gq 4 (A 0),gq 4 (A 1),gq 4 (A 2),gq 4 (A 3)]) (fun _=>True) ?_ fun _ _=>?_
  rotate_left
  ·refine so1 ?_
   conv=>whnf
   repeat (refine⟨by first | decide | exact ixl rfl | exact rgl (by decide),?_⟩;conv=>whnf)
   exact⟨4,by decide,Weak.gen [some 0,some 1,some 2,some 3,some 4,some 5] rfl ⟨Rf.boxK rfl rfl,zk4 rfl,rs rfl,rs rfl,rs rfl,rs rfl,trivial⟩ ⟨⟨_,rfl,rfl,rfl⟩,⟨_,rfl,rfl,rfl⟩,⟨_,rfl,rfl⟩,⟨_,rfl,rfl⟩,trivial⟩,by decide⟩
  refine swp_block ?_
  refine sq1 ?_
  conv=>whnf
  refine⟨gst [(1,.c (.p 0 0 3 0 0)),(3,.c (.gs 1 0)),(11,.c (.int .i64 4)),(12,.c (.int .i64 ((3:Nat):Int))),(4,.c (.int .i64 ((3:Nat):Int)))] [zb 4 16 p,zG 4,gq 4 (A 0),gq 4 (A 1),gq 4 (A 2),gq 0 (A 3)],Weak.gen [some 0,some 1,some 2,some 3,some 4,some 5] rfl ⟨Rf.boxK rfl rfl,zk4 rfl,rs rfl,rs rfl,rs rfl,rs rfl,trivial⟩ ⟨⟨_,rfl,rfl,rfl⟩,⟨_,rfl,rfl,rfl⟩,⟨_,rfl,rfl⟩,⟨_,rfl,rfl⟩,⟨_,rfl,rfl⟩,trivial⟩,?_⟩
  refine sq1 ?_
  conv=>whnf
  repeat (refine⟨by first | decide | exact ixl rfl | exact rgl (by decide),?_⟩;conv=>whnf)
  refine⟨(fun x:Nat=>gst [(1,.c (.p 0 0 3 0 0)),(3,.c (.gs 1 0)),(11,.c (.int .i64 4)),(12,.c (.int .i64 ((3:Nat):Int))),(4,.c (.int .i64 ((3:Nat):Int))),(26,.c (.row 4 4 (qlF fun k=>p (3*4+k)))),(27,.c (.int .i64 4)),(28,.c (.int .i64 ((x:Nat):Int)))] [zb 4 16 p,zG 4,gq 4 (A 0),gq 4 (A 1),gq 4 (A 2),gq x (A 3)]) 0,Weak.gen [some 0,some 1,some 2,some 3,some 4,some 5] rfl ⟨Rf.boxK rfl rfl,zk4 rfl,rs rfl,rs rfl,rs rfl,rs rfl,trivial⟩ ⟨⟨_,rfl,rfl,rfl⟩,⟨_,rfl,rfl,rfl⟩,⟨_,rfl,rfl⟩,⟨_,rfl,rfl⟩,⟨_,rfl,rfl⟩,.inl ⟨_,_,rfl,rfl,fun _ _ _ _=>rfl⟩,⟨_,rfl,rfl⟩,⟨_,rfl,rfl⟩,trivial⟩,?_⟩
  have hN:=hN 3
  refine swp_block (swp_loop (fun x:Nat=>gst [(1,.c (.p 0 0 3 0 0)),(3,.c (.gs 1 0)),(11,.c (.int .i64 4)),(12,.c (.int .i64 ((3:Nat):Int))),(4,.c (.int .i64 ((3:Nat):Int))),(26,.c (.row 4 4 (qlF fun k=>p (3*4+k)))),(27,.c (.int .i64 4)),(28,.c (.int .i64 ((x:Nat):Int)))] [zb 4 16 p,zG 4,gq 4 (A 0),gq 4 (A 1),gq 4 (A 2),gq x (A 3)]) (fun x=>4-x) (fun x=>x≤4) 0 (Weak.refl _) (by decide) fun x hx=>?_)
  have hN:=hN x (by decide)
  have hj0:(0:Int)≤(x:Int):=by omega
  refine so1 ?_
  conv=>whnf
  refine bcase (fun(h:decide ((x:Int)<4)=true)=>?_) fun(h:decide ((x:Int)<4)=false)=>?_
  ·have h:=of_decide_eq_true h
   have hN:=hN (by omega)
   have hj1:(x:Int)<((4:Nat):Int):=by omega
   conv=>whnf
   repeat (refine⟨by first | exact hj0 | exact hj1 | decide | exact ixl rfl | exact rgl (by decide),?_⟩;conv=>whnf)
   refine⟨_,hN,?_⟩
   conv=>whnf
   refine .inr ⟨rfl,?_⟩
   conv=>whnf
   refine⟨by show x+1≤16777216;omega,fun a b ha hb=>Rf.one_nq (A 3 x) true a b ha hb,?_⟩
   conv=>whnf
   repeat (refine⟨by first | decide | exact ixl rfl | exact rgl (by decide),?_⟩;conv=>whnf)
   refine⟨i64_range (by omega) (by omega),?_⟩
   conv=>whnf
   exact⟨x+1,by omega,Weak.gen [some 0,some 1,some 2,some 3,some 4,some 5] rfl ⟨Rf.boxK rfl rfl,⟨_,rfl,rfl,rfl,rfl,rfl,cells4 ⟨_,rfl,rfl,rfl⟩ ⟨_,rfl,rfl,rfl⟩ ⟨_,rfl,rfl,rfl⟩ ⟨_,rfl,rfl,rfl⟩⟩,rs rfl,rs rfl,rs rfl,⟨_,rfl,rfl,rfl,rfl,rfl,fun x y hx hy=>row_app hx hy⟩,trivial⟩ ⟨⟨_,rfl,rfl,rfl⟩,⟨_,rfl,rfl,rfl⟩,⟨_,rfl,rfl⟩,⟨_,rfl,rfl⟩,⟨_,rfl,rfl⟩,.inl ⟨_,_,rfl,rfl,fun _ _ _ _=>rfl⟩,⟨_,rfl,rfl⟩,⟨_,rfl,rfl⟩,trivial⟩,by omega⟩
  ·have h:=of_decide_eq_false h
   obtain rfl:x=4:=by omega
   conv=>whnf
   exact⟨(),trivial,Weak.gen [some 0,some 1,some 2,some 3,some 4,some 5] rfl ⟨Rf.boxK rfl rfl,zk4 rfl,rs rfl,rs rfl,rs rfl,rs rfl,trivial⟩ ⟨⟨_,rfl,rfl,rfl⟩,⟨_,rfl,rfl,rfl⟩,⟨_,rfl,rfl⟩,⟨_,rfl,rfl⟩,trivial⟩⟩
 ·refine so1 ?_
  conv=>whnf
  exact⟨(),trivial,Weak.gen [some 0,some 1,some 2,some 3,some 4,some 5] rfl ⟨Rf.boxK rfl rfl,zk4 rfl,rs rfl,rs rfl,rs rfl,rs rfl,trivial⟩ ⟨⟨_,rfl,rfl,rfl⟩,trivial⟩⟩
set_option maxHeartbeats 16000000 in
set_option maxRecDepth 100000 in
theorem grid_5 {p:Nat->RawR} {A:Nat->Nat->Rat} {L:Nat} (hp:∀ k,k<25->(p k).Fit L) (hL:L+3≤LIM) (hA:∀ i j,i<5->j<5->(p (i*5+j)).val=A i j):FnT Tryz.prog true 39 0 [] [.g [.int .i64 5,.int .i64 5,ql 25 p]] (.c (.gs 0 0)) ([gG 5 idn,gq 5 (A 0),gq 5 (A 1),gq 5 (A 2),gq 5 (A 3),gq 5 (A 4)].map gb):=by
 have hN:∀ i j,i<5->j<5->FnOK Tryz.prog true 73 [.g (rr (p (i*5+j)))] (.g (nq (A i j))):=fun i j hi hj=>by
  have:=qnormal_ok (hp (i*5+j) (by omega)) hL
  rwa [hA i j hi hj]at this
 refine fnt_okS (E:=E1) E1_ok Tryz.func39 rfl (by kernel_rfl) ?_
 refine sq1 ?_
 conv=>whnf
 refine⟨gst [(1,.c (.p 0 0 3 0 0))] [zb 5 25 p],Weak.gen [some 0] rfl ⟨Rf.boxK rfl rfl,trivial⟩ ⟨⟨_,rfl,rfl,rfl⟩,trivial⟩,?_⟩
 refine sq1 ?_
 conv=>whnf
 refine⟨by decide,by decide,by decide,by decide,?_⟩
 conv=>whnf
 refine⟨gst [(1,.c (.p 0 0 3 0 0)),(3,.c (.gs 1 0))] [zb 5 25 p,zG 5,gq 0 (A 0),gq 0 (A 1),gq 0 (A 2),gq 0 (A 3),gq 0 (A 4)],Weak.gen [some 0,some 1,none,none,none,none,none] rfl ⟨Rf.boxK rfl rfl,⟨_,rfl,rfl,rfl,rfl,rfl,cells5 rfl rfl rfl rfl rfl⟩,rfl,rfl,rfl,rfl,rfl,trivial⟩ ⟨⟨_,rfl,rfl,rfl⟩,⟨_,rfl,rfl,rfl⟩,trivial⟩,?_⟩
 refine swp_mid (fun _:Unit=>gst [(3,.c (.gs 1 0))] [zb 5 25 p,zG 5,gq 5 (A 0),gq 5 (A 1),gq 5 (A 2),gq 5 (A 3),gq 5 (A 4)]) (fun _=>True) ?_ fun _ _=>?_
 rotate_left
 ·refine so1 ?_
  conv=>whnf
  exact Weak.gen (tl:=[(0,.c (.gs 0 0))]) (xs:=[gG 5 idn,gq 5 (A 0),gq 5 (A 1),gq 5 (A 2),gq 5 (A 3),gq 5 (A 4)]) [some 1,some 2,some 3,some 4,some 5,some 6] rfl ⟨⟨_,rfl,rfl,rfl,rfl,rfl,cells5 ⟨_,rfl,rfl,rfl⟩ ⟨_,rfl,rfl,rfl⟩ ⟨_,rfl,rfl,rfl⟩ ⟨_,rfl,rfl,rfl⟩ ⟨_,rfl,rfl,rfl⟩⟩,rs rfl,rs rfl,rs rfl,rs rfl,rs rfl,trivial⟩ ⟨⟨_,rfl,rfl,rfl⟩,trivial⟩
 refine sq1 ?_
 conv=>whnf
 refine⟨(fun i:Nat=>gst [(1,.c (.p 0 0 3 0 0)),(3,.c (.gs 1 0)),(11,.c (.int .i64 5)),(12,.c (.int .i64 ((i:Nat):Int)))] [zb 5 25 p,zG 5,gq (if 0<i then 5 else 0) (A 0),gq (if 1<i then 5 else 0) (A 1),gq (if 2<i then 5 else 0) (A 2),gq (if 3<i then 5 else 0) (A 3),gq (if 4<i then 5 else 0) (A 4)]) 0,Weak.gen [some 0,some 1,some 2,some 3,some 4,some 5,some 6] rfl ⟨Rf.boxK rfl rfl,zk5 rfl,rs rfl,rs rfl,rs rfl,rs rfl,rs rfl,trivial⟩ ⟨⟨_,rfl,rfl,rfl⟩,⟨_,rfl,rfl,rfl⟩,⟨_,rfl,rfl⟩,⟨_,rfl,rfl⟩,trivial⟩,?_⟩
 refine swp_block (swp_loop (fun i:Nat=>gst [(1,.c (.p 0 0 3 0 0)),(3,.c (.gs 1 0)),(11,.c (.int .i64 5)),(12,.c (.int .i64 ((i:Nat):Int)))] [zb 5 25 p,zG 5,gq (if 0<i then 5 else 0) (A 0),gq (if 1<i then 5 else 0) (A 1),gq (if 2<i then 5 else 0) (A 2),gq (if 3<i then 5 else 0) (A 3),gq (if 4<i then 5 else 0) (A 4)]) (fun i=>6-i) (fun i=>i≤5) 0 (Weak.refl _) (by decide) fun i hi=>?_)
 rcases(show i=0∨i=1∨i=2∨i=3∨i=4∨i=5 by omega)with rfl | rfl | rfl | rfl | rfl | rfl
 ·refine swp_seq0 E1_ok mixed (by kernel_rfl) ?_
  conv=>whnf
  refine sq1 ?_
  conv=>whnf
  refine⟨gst [(1,.c (.p 0 0 3 0 0)),(3,.c (.gs 1 0)),(11,.c (.int .i64 5)),(12,.c (.int .i64 ((0:Nat):Int)))] [zb 5 25 p,zG 5,gq 0 (A 0),gq 0 (A 1),gq 0 (A 2),gq 0 (A 3),gq 0 (A 4)],Weak.gen [some 0,some 1,some 2,some 3,some 4,some 5,some 6] rfl ⟨Rf.boxK rfl rfl,zk5 rfl,rs rfl,rs rfl,rs rfl,rs rfl,rs rfl,trivial⟩ ⟨⟨_,rfl,rfl,rfl⟩,⟨_,rfl,rfl,rfl⟩,⟨_,rfl,rfl⟩,⟨_,rfl,rfl⟩,trivial⟩,?_⟩
  refine swp_mid (fun _:Unit=>gst [(1,.c (.p 0 0 3 0 0)),(3,.c (.gs 1 0)),(11,.c (.int .i64 5)),(12,.c (.int .i64 ((0:Nat):Int)))] [zb 5 25 p,zG 5,gq 5 (A 0),gq 0 (A 1),gq 0 (A 2),gq 0 (A 3),gq 0 (A 4)]) (fun _=>True) ?_ fun _ _=>?_
  rotate_left
  ·refine so1 ?_
   conv=>whnf
   repeat (refine⟨by first | decide | exact ixl rfl | exact rgl (by decide),?_⟩;conv=>whnf)
   exact⟨1,by decide,Weak.gen [some 0,some 1,some 2,some 3,some 4,some 5,some 6] rfl ⟨Rf.boxK rfl rfl,zk5 rfl,rs rfl,rs rfl,rs rfl,rs rfl,rs rfl,trivial⟩ ⟨⟨_,rfl,rfl,rfl⟩,⟨_,rfl,rfl,rfl⟩,⟨_,rfl,rfl⟩,⟨_,rfl,rfl⟩,trivial⟩,by decide⟩
  refine swp_block ?_
  refine sq1 ?_
  conv=>whnf
  refine⟨gst [(1,.c (.p 0 0 3 0 0)),(3,.c (.gs 1 0)),(11,.c (.int .i64 5)),(12,.c (.int .i64 ((0:Nat):Int))),(4,.c (.int .i64 ((0:Nat):Int)))] [zb 5 25 p,zG 5,gq 0 (A 0),gq 0 (A 1),gq 0 (A 2),gq 0 (A 3),gq 0 (A 4)],Weak.gen [some 0,some 1,some 2,some 3,some 4,some 5,some 6] rfl ⟨Rf.boxK rfl rfl,zk5 rfl,rs rfl,rs rfl,rs rfl,rs rfl,rs rfl,trivial⟩ ⟨⟨_,rfl,rfl,rfl⟩,⟨_,rfl,rfl,rfl⟩,⟨_,rfl,rfl⟩,⟨_,rfl,rfl⟩,⟨_,rfl,rfl⟩,trivial⟩,?_⟩
  refine sq1 ?_
  conv=>whnf
  repeat (refine⟨by first | decide | exact ixl rfl | exact rgl (by decide),?_⟩;conv=>whnf)
  refine⟨(fun x:Nat=>gst [(1,.c (.p 0 0 3 0 0)),(3,.c (.gs 1 0)),(11,.c (.int .i64 5)),(12,.c (.int .i64 ((0:Nat):Int))),(4,.c (.int .i64 ((0:Nat):Int))),(26,.c (.row 4 5 (qlF fun k=>p (0*5+k)))),(27,.c (.int .i64 5)),(28,.c (.int .i64 ((x:Nat):Int)))] [zb 5 25 p,zG 5,gq x (A 0),gq 0 (A 1),gq 0 (A 2),gq 0 (A 3),gq 0 (A 4)]) 0,Weak.gen [some 0,some 1,some 2,some 3,some 4,some 5,some 6] rfl ⟨Rf.boxK rfl rfl,zk5 rfl,rs rfl,rs rfl,rs rfl,rs rfl,rs rfl,trivial⟩ ⟨⟨_,rfl,rfl,rfl⟩,⟨_,rfl,rfl,rfl⟩,⟨_,rfl,rfl⟩,⟨_,rfl,rfl⟩,⟨_,rfl,rfl⟩,.inl ⟨_,_,rfl,rfl,fun _ _ _ _=>rfl⟩,⟨_,rfl,rfl⟩,⟨_,rfl,rfl⟩,trivial⟩,?_⟩
  have hN:=hN 0
  refine swp_block (swp_loop (fun x:Nat=>gst [(1,.c (.p 0 0 3 0 0)),(3,.c (.gs 1 0)),(11,.c (.int .i64 5)),(12,.c (.int .i64 ((0:Nat):Int))),(4,.c (.int .i64 ((0:Nat):Int))),(26,.c (.row 4 5 (qlF fun k=>p (0*5+k)))),(27,.c (.int .i64 5)),(28,.c (.int .i64 ((x:Nat):Int)))] [zb 5 25 p,zG 5,gq x (A 0),gq 0 (A 1),gq 0 (A 2),gq 0 (A 3),gq 0 (A 4)]) (fun x=>5-x) (fun x=>x≤5) 0 (Weak.refl _) (by decide) fun x hx=>?_)
  have hN:=hN x (by decide)
  have hj0:(0:Int)≤(x:Int):=by omega
  refine so1 ?_
  conv=>whnf
  refine bcase (fun(h:decide ((x:Int)<5)=true)=>?_) fun(h:decide ((x:Int)<5)=false)=>?_
  ·have h:=of_decide_eq_true h
   have hN:=hN (by omega)
   have hj1:(x:Int)<((5:Nat):Int):=by omega
   conv=>whnf
   repeat (refine⟨by first | exact hj0 | exact hj1 | decide | exact ixl rfl | exact rgl (by decide),?_⟩;conv=>whnf)
   refine⟨_,hN,?_⟩
   conv=>whnf
   refine .inr ⟨rfl,?_⟩
   conv=>whnf
   refine⟨by show x+1≤16777216;omega,fun a b ha hb=>Rf.one_nq (A 0 x) true a b ha hb,?_⟩
   conv=>whnf
   repeat (refine⟨by first | decide | exact ixl rfl | exact rgl (by decide),?_⟩;conv=>whnf)
   refine⟨i64_range (by omega) (by omega),?_⟩
   conv=>whnf
   exact⟨x+1,by omega,Weak.gen [some 0,some 1,some 2,some 3,some 4,some 5,some 6] rfl ⟨Rf.boxK rfl rfl,⟨_,rfl,rfl,rfl,rfl,rfl,cells5 ⟨_,rfl,rfl,rfl⟩ ⟨_,rfl,rfl,rfl⟩ ⟨_,rfl,rfl,rfl⟩ ⟨_,rfl,rfl,rfl⟩ ⟨_,rfl,rfl,rfl⟩⟩,⟨_,rfl,rfl,rfl,rfl,rfl,fun x y hx hy=>row_app hx hy⟩,rs rfl,rs rfl,rs rfl,rs rfl,trivial⟩ ⟨⟨_,rfl,rfl,rfl⟩,⟨_,rfl,rfl,rfl⟩,⟨_,rfl,rfl⟩,⟨_,rfl,rfl⟩,⟨_,rfl,rfl⟩,.inl ⟨_,_,rfl,rfl,fun _ _ _ _=>rfl⟩,⟨_,rfl,rfl⟩,⟨_,rfl,rfl⟩,trivial⟩,by omega⟩
  ·have h:=of_decide_eq_false h
   obtain rfl:x=5:=by omega
   conv=>whnf
   exact⟨(),trivial,Weak.gen [some 0,some 1,some 2,some 3,some 4,some 5,some 6] rfl ⟨Rf.boxK rfl rfl,zk5 rfl,rs rfl,rs rfl,rs rfl,rs rfl,rs rfl,trivial⟩ ⟨⟨_,rfl,rfl,rfl⟩,⟨_,rfl,rfl,rfl⟩,⟨_,rfl,rfl⟩,⟨_,rfl,rfl⟩,trivial⟩⟩
 ·refine swp_seq0 E1_ok mixed (by kernel_rfl) ?_
  conv=>whnf
  refine sq1 ?_
  conv=>whnf
  refine⟨gst [(1,.c (.p 0 0 3 0 0)),(3,.c (.gs 1 0)),(11,.c (.int .i64 5)),(12,.c (.int .i64 ((1:Nat):Int)))] [zb 5 25 p,zG 5,gq 5 (A 0),gq 0 (A 1),gq 0 (A 2),gq 0 (A 3),gq 0 (A 4)],Weak.gen [some 0,some 1,some 2,some 3,some 4,some 5,some 6] rfl ⟨Rf.boxK rfl rfl,zk5 rfl,rs rfl,rs rfl,rs rfl,rs rfl,rs rfl,trivial⟩ ⟨⟨_,rfl,rfl,rfl⟩,⟨_,rfl,rfl,rfl⟩,⟨_,rfl,rfl⟩,⟨_,rfl,rfl⟩,trivial⟩,?_⟩
  refine swp_mid (fun _:Unit=>gst [(1,.c (.p 0 0 3 0 0)),(3,.c (.gs 1 0)),(11,.c (.int .i64 5)),(12,.c (.int .i64 ((1:Nat):Int)))] [zb 5 25 p,zG 5,gq 5 (A 0),gq 5 (A 1),gq 0 (A 2),gq 0 (A 3),gq 0 (A 4)]) (fun _=>True) ?_ fun _ _=>?_
  rotate_left
  ·refine so1 ?_
   conv=>whnf
   repeat (refine⟨by first | decide | exact ixl rfl | exact rgl (by decide),?_⟩;conv=>whnf)
   exact⟨2,by decide,Weak.gen [some 0,some 1,some 2,some 3,some 4,some 5,some 6] rfl ⟨Rf.boxK rfl rfl,zk5 rfl,rs rfl,rs rfl,rs rfl,rs rfl,rs rfl,trivial⟩ ⟨⟨_,rfl,rfl,rfl⟩,⟨_,rfl,rfl,rfl⟩,⟨_,rfl,rfl⟩,⟨_,rfl,rfl⟩,trivial⟩,by decide⟩
  refine swp_block ?_
  refine sq1 ?_
  conv=>whnf
  refine⟨gst [(1,.c (.p 0 0 3 0 0)),(3,.c (.gs 1 0)),(11,.c (.int .i64 5)),(12,.c (.int .i64 ((1:Nat):Int))),(4,.c (.int .i64 ((1:Nat):Int)))] [zb 5 25 p,zG 5,gq 5 (A 0),gq 0 (A 1),gq 0 (A 2),gq 0 (A 3),gq 0 (A 4)],Weak.gen [some 0,some 1,some 2,some 3,some 4,some 5,some 6] rfl ⟨Rf.boxK rfl rfl,zk5 rfl,rs rfl,rs rfl,rs rfl,rs rfl,rs rfl,trivial⟩ ⟨⟨_,rfl,rfl,rfl⟩,⟨_,rfl,rfl,rfl⟩,⟨_,rfl,rfl⟩,⟨_,rfl,rfl⟩,⟨_,rfl,rfl⟩,trivial⟩,?_⟩
  refine sq1 ?_
  conv=>whnf
  repeat (refine⟨by first | decide | exact ixl rfl | exact rgl (by decide),?_⟩;conv=>whnf)
  refine⟨(fun x:Nat=>gst [(1,.c (.p 0 0 3 0 0)),(3,.c (.gs 1 0)),(11,.c (.int .i64 5)),(12,.c (.int .i64 ((1:Nat):Int))),(4,.c (.int .i64 ((1:Nat):Int))),(26,.c (.row 4 5 (qlF fun k=>p (1*5+k)))),(27,.c (.int .i64 5)),(28,.c (.int .i64 ((x:Nat):Int)))] [zb 5 25 p,zG 5,gq 5 (A 0),gq x (A 1),gq 0 (A 2),gq 0 (A 3),gq 0 (A 4)]) 0,Weak.gen [some 0,some 1,some 2,some 3,some 4,some 5,some 6] rfl ⟨Rf.boxK rfl rfl,zk5 rfl,rs rfl,rs rfl,rs rfl,rs rfl,rs rfl,trivial⟩ ⟨⟨_,rfl,rfl,rfl⟩,⟨_,rfl,rfl,rfl⟩,⟨_,rfl,rfl⟩,⟨_,rfl,rfl⟩,⟨_,rfl,rfl⟩,.inl ⟨_,_,rfl,rfl,fun _ _ _ _=>rfl⟩,⟨_,rfl,rfl⟩,⟨_,rfl,rfl⟩,trivial⟩,?_⟩
  have hN:=hN 1
  refine swp_block (swp_loop (fun x:Nat=>gst [(1,.c (.p 0 0 3 0 0)),(3,.c (.gs 1 0)),(11,.c (.int .i64 5)),(12,.c (.int .i64 ((1:Nat):Int))),(4,.c (.int .i64 ((1:Nat):Int))),(26,.c (.row 4 5 (qlF fun k=>p (1*5+k)))),(27,.c (.int .i64 5)),(28,.c (.int .i64 ((x:Nat):Int)))] [zb 5 25 p,zG 5,gq 5 (A 0),gq x (A 1),gq 0 (A 2),gq 0 (A 3),gq 0 (A 4)]) (fun x=>5-x) (fun x=>x≤5) 0 (Weak.refl _) (by decide) fun x hx=>?_)
  have hN:=hN x (by decide)
  have hj0:(0:Int)≤(x:Int):=by omega
  refine so1 ?_
  conv=>whnf
  refine bcase (fun(h:decide ((x:Int)<5)=true)=>?_) fun(h:decide ((x:Int)<5)=false)=>?_
  ·have h:=of_decide_eq_true h
   have hN:=hN (by omega)
   have hj1:(x:Int)<((5:Nat):Int):=by omega
   conv=>whnf
   repeat (refine⟨by first | exact hj0 | exact hj1 | decide | exact ixl rfl | exact rgl (by decide),?_⟩;conv=>whnf)
   refine⟨_,hN,?_⟩
   conv=>whnf
   refine .inr ⟨rfl,?_⟩
   conv=>whnf
   refine⟨by show x+1≤16777216;omega,fun a b ha hb=>Rf.one_nq (A 1 x) true a b ha hb,?_⟩
   conv=>whnf
   repeat (refine⟨by first | decide | exact ixl rfl | exact rgl (by decide),?_⟩;conv=>whnf)
   refine⟨i64_range (by omega) (by omega),?_⟩
   conv=>whnf
   exact⟨x+1,by omega,Weak.gen [some 0,some 1,some 2,some 3,some 4,some 5,some 6] rfl ⟨Rf.boxK rfl rfl,⟨_,rfl,rfl,rfl,rfl,rfl,cells5 ⟨_,rfl,rfl,rfl⟩ ⟨_,rfl,rfl,rfl⟩ ⟨_,rfl,rfl,rfl⟩ ⟨_,rfl,rfl,rfl⟩ ⟨_,rfl,rfl,rfl⟩⟩,rs rfl,⟨_,rfl,rfl,rfl,rfl,rfl,fun x y hx hy=>row_app hx hy⟩,rs rfl,rs rfl,rs rfl,trivial⟩ ⟨⟨_,rfl,rfl,rfl⟩,⟨_,rfl,rfl,rfl⟩,⟨_,rfl,rfl⟩,⟨_,rfl,rfl⟩,⟨_,rfl,rfl⟩,.inl ⟨_,_,rfl,rfl,fun _ _ _ _=>rfl⟩,⟨_,rfl,rfl⟩,⟨_,rfl,rfl⟩,trivial⟩,by omega⟩
  ·have h:=of_decide_eq_false h
   obtain rfl:x=5:=by omega
   conv=>whnf
   exact⟨(),trivial,Weak.gen [some 0,some 1,some 2,some 3,some 4,some 5,some 6] rfl ⟨Rf.boxK rfl rfl,zk5 rfl,rs rfl,rs rfl,rs rfl,rs rfl,rs rfl,trivial⟩ ⟨⟨_,rfl,rfl,rfl⟩,⟨_,rfl,rfl,rfl⟩,⟨_,rfl,rfl⟩,⟨_,rfl,rfl⟩,trivial⟩⟩
 ·refine swp_seq0 E1_ok mixed (by kernel_rfl) ?_
  conv=>whnf
  refine sq1 ?_
  conv=>whnf
  refine⟨gst [(1,.c (.p 0 0 3 0 0)),(3,.c (.gs 1 0)),(11,.c (.int .i64 5)),(12,.c (.int .i64 ((2:Nat):Int)))] [zb 5 25 p,zG 5,gq 5 (A 0),gq 5 (A 1),gq 0 (A 2),gq 0 (A 3),gq 0 (A 4)],Weak.gen [some 0,some 1,some 2,some 3,some 4,some 5,some 6] rfl ⟨Rf.boxK rfl rfl,zk5 rfl,rs rfl,rs rfl,rs rfl,rs rfl,rs rfl,trivial⟩ ⟨⟨_,rfl,rfl,rfl⟩,⟨_,rfl,rfl,rfl⟩,⟨_,rfl,rfl⟩,⟨_,rfl,rfl⟩,trivial⟩,?_⟩
  refine swp_mid (fun _:Unit=>gst [(1,.c (.p 0 0 3 0 0)),(3,.c (.gs 1 0)),(11,.c (.int .i64 5)),(12,.c (.int .i64 ((2:Nat):Int)))] [zb 5 25 p,zG 5,gq 5 (A 0),gq 5 (A 1),gq 5 (A 2),gq 0 (A 3),gq 0 (A 4)]) (fun _=>True) ?_ fun _ _=>?_
  rotate_left
  ·refine so1 ?_
   conv=>whnf
   repeat (refine⟨by first | decide | exact ixl rfl | exact rgl (by decide),?_⟩;conv=>whnf)
   exact⟨3,by decide,Weak.gen [some 0,some 1,some 2,some 3,some 4,some 5,some 6] rfl ⟨Rf.boxK rfl rfl,zk5 rfl,rs rfl,rs rfl,rs rfl,rs rfl,rs rfl,trivial⟩ ⟨⟨_,rfl,rfl,rfl⟩,⟨_,rfl,rfl,rfl⟩,⟨_,rfl,rfl⟩,⟨_,rfl,rfl⟩,trivial⟩,by decide⟩
  refine swp_block ?_
  refine sq1 ?_
  conv=>whnf
  refine⟨gst [(1,.c (.p 0 0 3 0 0)),(3,.c (.gs 1 0)),(11,.c (.int .i64 5)),(12,.c (.int .i64 ((2:Nat):Int))),(4,.c (.int .i64 ((2:Nat):Int)))] [zb 5 25 p,zG 5,gq 5 (A 0),gq 5 (A 1),gq 0 (A 2),gq 0 (A 3),gq 0 (A 4)],Weak.gen [some 0,some 1,some 2,some 3,some 4,some 5,some 6] rfl ⟨Rf.boxK rfl rfl,zk5 rfl,rs rfl,rs rfl,rs rfl,rs rfl,rs rfl,trivial⟩ ⟨⟨_,rfl,rfl,rfl⟩,⟨_,rfl,rfl,rfl⟩,⟨_,rfl,rfl⟩,⟨_,rfl,rfl⟩,⟨_,rfl,rfl⟩,trivial⟩,?_⟩
  refine sq1 ?_
  conv=>whnf
  repeat (refine⟨by first | decide | exact ixl rfl | exact rgl (by decide),?_⟩;conv=>whnf)
  refine⟨(fun x:Nat=>gst [(1,.c (.p 0 0 3 0 0)),(3,.c (.gs 1 0)),(11,.c (.int .i64 5)),(12,.c (.int .i64 ((2:Nat):Int))),(4,.c (.int .i64 ((2:Nat):Int))),(26,.c (.row 4 5 (qlF fun k=>p (2*5+k)))),(27,.c (.int .i64 5)),(28,.c (.int .i64 ((x:Nat):Int)))] [zb 5 25 p,zG 5,gq 5 (A 0),gq 5 (A 1),gq x (A 2),gq 0 (A 3),gq 0 (A 4)]) 0,Weak.gen [some 0,some 1,some 2,some 3,some 4,some 5,some 6] rfl ⟨Rf.boxK rfl rfl,zk5 rfl,rs rfl,rs rfl,rs rfl,rs rfl,rs rfl,trivial⟩ ⟨⟨_,rfl,rfl,rfl⟩,⟨_,rfl,rfl,rfl⟩,⟨_,rfl,rfl⟩,⟨_,rfl,rfl⟩,⟨_,rfl,rfl⟩,.inl ⟨_,_,rfl,rfl,fun _ _ _ _=>rfl⟩,⟨_,rfl,rfl⟩,⟨_,rfl,rfl⟩,trivial⟩,?_⟩
  have hN:=hN 2
  refine swp_block (swp_loop (fun x:Nat=>gst [(1,.c (.p 0 0 3 0 0)),(3,.c (.gs 1 0)),(11,.c (.int .i64 5)),(12,.c (.int .i64 ((2:Nat):Int))),(4,.c (.int .i64 ((2:Nat):Int))),(26,.c (.row 4 5 (qlF fun k=>p (2*5+k)))),(27,.c (.int .i64 5)),(28,.c (.int .i64 ((x:Nat):Int)))] [zb 5 25 p,zG 5,gq 5 (A 0),gq 5 (A 1),gq x (A 2),gq 0 (A 3),gq 0 (A 4)]) (fun x=>5-x) (fun x=>x≤5) 0 (Weak.refl _) (by decide) fun x hx=>?_)
  have hN:=hN x (by decide)
  have hj0:(0:Int)≤(x:Int):=by omega
  refine so1 ?_
  conv=>whnf
  refine bcase (fun(h:decide ((x:Int)<5)=true)=>?_) fun(h:decide ((x:Int)<5)=false)=>?_
  ·have h:=of_decide_eq_true h
   have hN:=hN (by omega)
   have hj1:(x:Int)<((5:Nat):Int):=by omega
   conv=>whnf
   repeat (refine⟨by first | exact hj0 | exact hj1 | decide | exact ixl rfl | exact rgl (by decide),?_⟩;conv=>whnf)
   refine⟨_,hN,?_⟩
   conv=>whnf
   refine .inr ⟨rfl,?_⟩
   conv=>whnf
   refine⟨by show x+1≤16777216;omega,fun a b ha hb=>Rf.one_nq (A 2 x) true a b ha hb,?_⟩
   conv=>whnf
   repeat (refine⟨by first | decide | exact ixl rfl | exact rgl (by decide),?_⟩;conv=>whnf)
   refine⟨i64_range (by omega) (by omega),?_⟩
   conv=>whnf
   exact⟨x+1,by omega,Weak.gen [some 0,some 1,some 2,some 3,some 4,some 5,some 6] rfl ⟨Rf.boxK rfl rfl,⟨_,rfl,rfl,rfl,rfl,rfl,cells5 ⟨_,rfl,rfl,rfl⟩ ⟨_,rfl,rfl,rfl⟩ ⟨_,rfl,rfl,rfl⟩ ⟨_,rfl,rfl,rfl⟩ ⟨_,rfl,rfl,rfl⟩⟩,rs rfl,rs rfl,⟨_,rfl,rfl,rfl,rfl,rfl,fun x y hx hy=>row_app hx hy⟩,rs rfl,rs rfl,trivial⟩ ⟨⟨_,rfl,rfl,rfl⟩,⟨_,rfl,rfl,rfl⟩,⟨_,rfl,rfl⟩,⟨_,rfl,rfl⟩,⟨_,rfl,rfl⟩,.inl ⟨_,_,rfl,rfl,fun _ _ _ _=>rfl⟩,⟨_,rfl,rfl⟩,⟨_,rfl,rfl⟩,trivial⟩,by omega⟩
  ·have h:=of_decide_eq_false h
   obtain rfl:x=5:=by omega
   conv=>whnf
   exact⟨(),trivial,Weak.gen [some 0,some 1,some 2,some 3,some 4,some 5,some 6] rfl ⟨Rf.boxK rfl rfl,zk5 rfl,rs rfl,rs rfl,rs rfl,rs rfl,rs rfl,trivial⟩ ⟨⟨_,rfl,rfl,rfl⟩,⟨_,rfl,rfl,rfl⟩,⟨_,rfl,rfl⟩,⟨_,rfl,rfl⟩,trivial⟩⟩
 ·refine swp_seq0 E1_ok mixed (by kernel_rfl) ?_
  conv=>whnf
  refine sq1 ?_
  conv=>whnf
  refine⟨gst [(1,.c (.p 0 0 3 0 0)),(3,.c (.gs 1 0)),(11,.c (.int .i64 5)),(12,.c (.int .i64 ((3:Nat):Int)))] [zb 5 25 p,zG 5,gq 5 (A 0),gq 5 (A 1),gq 5 (A 2),gq 0 (A 3),gq 0 (A 4)],Weak.gen [some 0,some 1,some 2,some 3,some 4,some 5,some 6] rfl ⟨Rf.boxK rfl rfl,zk5 rfl,rs rfl,rs rfl,rs rfl,rs rfl,rs rfl,trivial⟩ ⟨⟨_,rfl,rfl,rfl⟩,⟨_,rfl,rfl,rfl⟩,⟨_,rfl,rfl⟩,⟨_,rfl,rfl⟩,trivial⟩,?_⟩
  refine swp_mid (fun _:Unit=>gst [(1,.c (.p 0 0 3 0 0)),(3,.c (.gs 1 0)),(11,.c (.int .i64 5)),(12,.c (.int .i64 ((3:Nat):Int)))] [zb 5 25 p,zG 5,gq 5 (A 0),gq 5 (A 1),gq 5 (A 2),gq 5 (A 3),gq 0 (A 4)]) (fun _=>True) ?_ fun _ _=>?_
  rotate_left
  ·refine so1 ?_
   conv=>whnf
   repeat (refine⟨by first | decide | exact ixl rfl | exact rgl (by decide),?_⟩;conv=>whnf)
   exact⟨4,by decide,Weak.gen [some 0,some 1,some 2,some 3,some 4,some 5,some 6] rfl ⟨Rf.boxK rfl rfl,zk5 rfl,rs rfl,rs rfl,rs rfl,rs rfl,rs rfl,trivial⟩ ⟨⟨_,rfl,rfl,rfl⟩,⟨_,rfl,rfl,rfl⟩,⟨_,rfl,rfl⟩,⟨_,rfl,rfl⟩,trivial⟩,by decide⟩
  refine swp_block ?_
  refine sq1 ?_
  conv=>whnf
  refine⟨gst [(1,.c (.p 0 0 3 0 0)),(3,.c (.gs 1 0)),(11,.c (.int .i64 5)),(12,.c (.int .i64 ((3:Nat):Int))),(4,.c (.int .i64 ((3:Nat):Int)))] [zb 5 25 p,zG 5,gq 5 (A 0),gq 5 (A 1),gq 5 (A 2),gq 0 (A 3),gq 0 (A 4)],Weak.gen [some 0,some 1,some 2,some 3,some 4,some 5,some 6] rfl ⟨Rf.boxK rfl rfl,zk5 rfl,rs rfl,rs rfl,rs rfl,rs rfl,rs rfl,trivial⟩ ⟨⟨_,rfl,rfl,rfl⟩,⟨_,rfl,rfl,rfl⟩,⟨_,rfl,rfl⟩,⟨_,rfl,rfl⟩,⟨_,rfl,rfl⟩,trivial⟩,?_⟩
  refine sq1 ?_
  conv=>whnf
  repeat (refine⟨by first | decide | exact ixl rfl | exact rgl (by decide),?_⟩;conv=>whnf)
  refine⟨(fun x:Nat=>gst [(1,.c (.p 0 0 3 0 0)),(3,.c (.gs 1 0)),(11,.c (.int .i64 5)),(12,.c (.int .i64 ((3:Nat):Int))),(4,.c (.int .i64 ((3:Nat):Int))),(26,.c (.row 4 5 (qlF fun k=>p (3*5+k)))),(27,.c (.int .i64 5)),(28,.c (.int .i64 ((x:Nat):Int)))] [zb 5 25 p,zG 5,gq 5 (A 0),gq 5 (A 1),gq 5 (A 2),gq x (A 3),gq 0 (A 4)]) 0,Weak.gen [some 0,some 1,some 2,some 3,some 4,some 5,some 6] rfl ⟨Rf.boxK rfl rfl,zk5 rfl,rs rfl,rs rfl,rs rfl,rs rfl,rs rfl,trivial⟩ ⟨⟨_,rfl,rfl,rfl⟩,⟨_,rfl,rfl,rfl⟩,⟨_,rfl,rfl⟩,⟨_,rfl,rfl⟩,⟨_,rfl,rfl⟩,.inl ⟨_,_,rfl,rfl,fun _ _ _ _=>rfl⟩,⟨_,rfl,rfl⟩,⟨_,rfl,rfl⟩,trivial⟩,?_⟩
  have hN:=hN 3
  refine swp_block (swp_loop (fun x:Nat=>gst [(1,.c (.p 0 0 3 0 0)),(3,.c (.gs 1 0)),(11,.c (.int .i64 5)),(12,.c (.int .i64 ((3:Nat):Int))),(4,.c (.int .i64 ((3:Nat):Int))),(26,.c (.row 4 5 (qlF fun k=>p (3*5+k)))),(27,.c (.int .i64 5)),(28,.c (.int .i64 ((x:Nat):Int)))] [zb 5 25 p,zG 5,gq 5 (A 0),gq 5 (A 1),gq 5 (A 2),gq x (A 3),gq 0 (A 4)]) (fun x=>5-x) (fun x=>x≤5) 0 (Weak.refl _) (by decide) fun x hx=>?_)
  have hN:=hN x (by decide)
  have hj0:(0:Int)≤(x:Int):=by omega
  refine so1 ?_
  conv=>whnf
  refine bcase (fun(h:decide ((x:Int)<5)=true)=>?_) fun(h:decide ((x:Int)<5)=false)=>?_
  ·have h:=of_decide_eq_true h
   have hN:=hN (by omega)
   have hj1:(x:Int)<((5:Nat):Int):=by omega
   conv=>whnf
   repeat (refine⟨by first | exact hj0 | exact hj1 | decide | exact ixl rfl | exact rgl (by decide),?_⟩;conv=>whnf)
   refine⟨_,hN,?_⟩
   conv=>whnf
   refine .inr ⟨rfl,?_⟩
   conv=>whnf
   refine⟨by show x+1≤16777216;omega,fun a b ha hb=>Rf.one_nq (A 3 x) true a b ha hb,?_⟩
   conv=>whnf
   repeat (refine⟨by first | decide | exact ixl rfl | exact rgl (by decide),?_⟩;conv=>whnf)
   refine⟨i64_range (by omega) (by omega),?_⟩
   conv=>whnf
   exact⟨x+1,by omega,Weak.gen [some 0,some 1,some 2,some 3,some 4,some 5,some 6] rfl ⟨Rf.boxK rfl rfl,⟨_,rfl,rfl,rfl,rfl,rfl,cells5 ⟨_,rfl,rfl,rfl⟩ ⟨_,rfl,rfl,rfl⟩ ⟨_,rfl,rfl,rfl⟩ ⟨_,rfl,rfl,rfl⟩ ⟨_,rfl,rfl,rfl⟩⟩,rs rfl,rs rfl,rs rfl,⟨_,rfl,rfl,rfl,rfl,rfl,fun x y hx hy=>row_app hx hy⟩,rs rfl,trivial⟩ ⟨⟨_,rfl,rfl,rfl⟩,⟨_,rfl,rfl,rfl⟩,⟨_,rfl,rfl⟩,⟨_,rfl,rfl⟩,⟨_,rfl,rfl⟩,.inl ⟨_,_,rfl,rfl,fun _ _ _ _=>rfl⟩,⟨_,rfl,rfl⟩,⟨_,rfl,rfl⟩,trivial⟩,by omega⟩
  ·have h:=of_decide_eq_false h
   obtain rfl:x=5:=by omega
   conv=>whnf
   exact⟨(),trivial,Weak.gen [some 0,some 1,some 2,some 3,some 4,some 5,some 6] rfl ⟨Rf.boxK rfl rfl,zk5 rfl,rs rfl,rs rfl,rs rfl,rs rfl,rs rfl,trivial⟩ ⟨⟨_,rfl,rfl,rfl⟩,⟨_,rfl,rfl,rfl⟩,⟨_,rfl,rfl⟩,⟨_,rfl,rfl⟩,trivial⟩⟩
 ·refine swp_seq0 E1_ok mixed (by kernel_rfl) ?_
  conv=>whnf
  refine sq1 ?_
  conv=>whnf
  refine⟨gst [(1,.c (.p 0 0 3 0 0)),(3,.c (.gs 1 0)),(11,.c (.int .i64 5)),(12,.c (.int .i64 ((4:Nat):Int)))] [zb 5 25 p,zG 5,gq 5 (A 0),gq 5 (A 1),gq 5 (A 2),gq 5 (A 3),gq 0 (A 4)],Weak.gen [some 0,some 1,some 2,some 3,some 4,some 5,some 6] rfl ⟨Rf.boxK rfl rfl,zk5 rfl,rs rfl,rs rfl,rs rfl,rs rfl,rs rfl,trivial⟩ ⟨⟨_,rfl,rfl,rfl⟩,⟨_,rfl,rfl,rfl⟩,⟨_,rfl,rfl⟩,⟨_,rfl,rfl⟩,trivial⟩,?_⟩
  refine swp_mid (fun _:Unit=>gst [(1,.c (.p 0 0 3 0 0)),(3,.c (.gs 1 0)),(11,.c (.int .i64 5)),(12,.c (.int .i64 ((4:Nat):Int)))] [zb 5 25 p,zG 5,gq 5 (A 0),gq 5 (A 1),gq 5 (A 2),gq 5 (A 3),gq 5 (A 4)]) (fun _=>True) ?_ fun _ _=>?_
  rotate_left
  ·refine so1 ?_
   conv=>whnf
   repeat (refine⟨by first | decide | exact ixl rfl | exact rgl (by decide),?_⟩;conv=>whnf)
   exact⟨5,by decide,Weak.gen [some 0,some 1,some 2,some 3,some 4,some 5,some 6] rfl ⟨Rf.boxK rfl rfl,zk5 rfl,rs rfl,rs rfl,rs rfl,rs rfl,rs rfl,trivial⟩ ⟨⟨_,rfl,rfl,rfl⟩,⟨_,rfl,rfl,rfl⟩,⟨_,rfl,rfl⟩,⟨_,rfl,rfl⟩,trivial⟩,by decide⟩
  refine swp_block ?_
  refine sq1 ?_
  conv=>whnf
  refine⟨gst [(1,.c (.p 0 0 3 0 0)),(3,.c (.gs 1 0)),(11,.c (.int .i64 5)),(12,.c (.int .i64 ((4:Nat):Int))),(4,.c (.int .i64 ((4:Nat):Int)))] [zb 5 25 p,zG 5,gq 5 (A 0),gq 5 (A 1),gq 5 (A 2),gq 5 (A 3),gq 0 (A 4)],Weak.gen [some 0,some 1,some 2,some 3,some 4,some 5,some 6] rfl ⟨Rf.boxK rfl rfl,zk5 rfl,rs rfl,rs rfl,rs rfl,rs rfl,rs rfl,trivial⟩ ⟨⟨_,rfl,rfl,rfl⟩,⟨_,rfl,rfl,rfl⟩,⟨_,rfl,rfl⟩,⟨_,rfl,rfl⟩,⟨_,rfl,rfl⟩,trivial⟩,?_⟩
  refine sq1 ?_
  conv=>whnf
  repeat (refine⟨by first | decide | exact ixl rfl | exact rgl (by decide),?_⟩;conv=>whnf)
  refine⟨(fun x:Nat=>gst [(1,.c (.p 0 0 3 0 0)),(3,.c (.gs 1 0)),(11,.c (.int .i64 5)),(12,.c (.int .i64 ((4:Nat):Int))),(4,.c (.int .i64 ((4:Nat):Int))),(26,.c (.row 4 5 (qlF fun k=>p (4*5+k)))),(27,.c (.int .i64 5)),(28,.c (.int .i64 ((x:Nat):Int)))] [zb 5 25 p,zG 5,gq 5 (A 0),gq 5 (A 1),gq 5 (A 2),gq 5 (A 3),gq x (A 4)]) 0,Weak.gen [some 0,some 1,some 2,some 3,some 4,some 5,some 6] rfl ⟨Rf.boxK rfl rfl,zk5 rfl,rs rfl,rs rfl,rs rfl,rs rfl,rs rfl,trivial⟩ ⟨⟨_,rfl,rfl,rfl⟩,⟨_,rfl,rfl,rfl⟩,⟨_,rfl,rfl⟩,⟨_,rfl,rfl⟩,⟨_,rfl,rfl⟩,.inl ⟨_,_,rfl,rfl,fun _ _ _ _=>rfl⟩,⟨_,rfl,rfl⟩,⟨_,rfl,rfl⟩,trivial⟩,?_⟩
  have hN:=hN 4
  refine swp_block (swp_loop (fun x:Nat=>gst [(1,.c (.p 0 0 3 0 0)),(3,.c (.gs 1 0)),(11,.c (.int .i64 5)),(12,.c (.int .i64 ((4:Nat):Int))),(4,.c (.int .i64 ((4:Nat):Int))),(26,.c (.row 4 5 (qlF fun k=>p (4*5+k)))),(27,.c (.int .i64 5)),(28,.c (.int .i64 ((x:Nat):Int)))] [zb 5 25 p,zG 5,gq 5 (A 0),gq 5 (A 1),gq 5 (A 2),gq 5 (A 3),gq x (A 4)]) (fun x=>5-x) (fun x=>x≤5) 0 (Weak.refl _) (by decide) fun x hx=>?_)
  have hN:=hN x (by decide)
  have hj0:(0:Int)≤(x:Int):=by omega
  refine so1 ?_
  conv=>whnf
  refine bcase (fun(h:decide ((x:Int)<5)=true)=>?_) fun(h:decide ((x:Int)<5)=false)=>?_
  ·have h:=of_decide_eq_true h
   have hN:=hN (by omega)
   have hj1:(x:Int)<((5:Nat):Int):=by omega
   conv=>whnf
   repeat (refine⟨by first | exact hj0 | exact hj1 | decide | exact ixl rfl | exact rgl (by decide),?_⟩;conv=>whnf)
   refine⟨_,hN,?_⟩
   conv=>whnf
   refine .inr ⟨rfl,?_⟩
   conv=>whnf
   refine⟨by show x+1≤16777216;omega,fun a b ha hb=>Rf.one_nq (A 4 x) true a b ha hb,?_⟩
   conv=>whnf
   repeat (refine⟨by first | decide | exact ixl rfl | exact rgl (by decide),?_⟩;conv=>whnf)
   refine⟨i64_range (by omega) (by omega),?_⟩
   conv=>whnf
   exact⟨x+1,by omega,Weak.gen [some 0,some 1,some 2,some 3,some 4,some 5,some 6] rfl ⟨Rf.boxK rfl rfl,⟨_,rfl,rfl,rfl,rfl,rfl,cells5 ⟨_,rfl,rfl,rfl⟩ ⟨_,rfl,rfl,rfl⟩ ⟨_,rfl,rfl,rfl⟩ ⟨_,rfl,rfl,rfl⟩ ⟨_,rfl,rfl,rfl⟩⟩,rs rfl,rs rfl,rs rfl,rs rfl,⟨_,rfl,rfl,rfl,rfl,rfl,fun x y hx hy=>row_app hx hy⟩,trivial⟩ ⟨⟨_,rfl,rfl,rfl⟩,⟨_,rfl,rfl,rfl⟩,⟨_,rfl,rfl⟩,⟨_,rfl,rfl⟩,⟨_,rfl,rfl⟩,.inl ⟨_,_,rfl,rfl,fun _ _ _ _=>rfl⟩,⟨_,rfl,rfl⟩,⟨_,rfl,rfl⟩,trivial⟩,by omega⟩
  ·have h:=of_decide_eq_false h
   obtain rfl:x=5:=by omega
   conv=>whnf
   exact⟨(),trivial,Weak.gen [some 0,some 1,some 2,some 3,some 4,some 5,some 6] rfl ⟨Rf.boxK rfl rfl,zk5 rfl,rs rfl,rs rfl,rs rfl,rs rfl,rs rfl,trivial⟩ ⟨⟨_,rfl,rfl,rfl⟩,⟨_,rfl,rfl,rfl⟩,⟨_,rfl,rfl⟩,⟨_,rfl,rfl⟩,trivial⟩⟩
 ·refine so1 ?_
  conv=>whnf
  exact⟨(),trivial,Weak.gen [some 0,some 1,some 2,some 3,some 4,some 5,some 6] rfl ⟨Rf.boxK rfl rfl,zk5 rfl,rs rfl,rs rfl,rs rfl,rs rfl,rs rfl,trivial⟩ ⟨⟨_,rfl,rfl,rfl⟩,trivial⟩⟩
end Mx
end Go.Proofs.YtkmbnldginonbaaGreat
/- charpoly.hessenberg at 0 rows. -/
namespace Go.Proofs.YtkmbnldginonbaaGreat
open Go.RowKit
namespace Mx
set_option maxHeartbeats 64000000 in
set_option maxRecDepth 100000 in
theorem hess_0 (M:Nat->Nat->Rat) {L:Nat} (_:Bq 0 L M) (_:1≤L) (_:16*KB 0 L+16≤LIM):FnT Tryz.prog true 40 1 ([gG 0 idn].map gb) [.c (.gs 0 0)] (.c .any) ([gG 0 idn].map gb):=by
 refine fnt_okS (E:=E1m) E1m_ok Tryz.func40 rfl (by kernel_rfl) ?_
 refine sq ?_
 conv=>whnf
 refine⟨(fun m:Nat=>gst [(0,.c (.gs 0 0)),(2,.c (.int .i64 ((m:Nat):Int)))] [gG 0 idn]) 1,Weak.genT [some 0] rfl rfl ⟨_,rfl,rfl,by decide⟩ ⟨⟨_,rfl,rfl,rfl,rfl,rfl,cells0⟩,trivial⟩ ⟨⟨_,rfl,rfl,rfl⟩,⟨_,rfl,rfl⟩,trivial⟩,?_⟩
 refine swp_block (swp_loop (fun m:Nat=>gst [(0,.c (.gs 0 0)),(2,.c (.int .i64 ((m:Nat):Int)))] [gG 0 idn]) (fun m=>1-m) (fun m=>1≤m/\m≤1) 1 (Weak.refl _) (by decide) fun m hm=>?_)
 obtain rfl:m=1:=by omega
 refine so ?_
 conv=>whnf
 repeat (refine⟨by first | decide | exact ixl rfl | exact rgl rfl,?_⟩;conv=>whnf)
 exact Weak.genT (tl:=[(0,.c .any)]) (xs:=[gG 0 idn]) [some 0] rfl rfl ⟨_,rfl,rfl,by decide⟩ ⟨⟨_,rfl,rfl,rfl,rfl,rfl,cells0⟩,trivial⟩ ⟨⟨rfl,rfl⟩,trivial⟩
end Mx
end Go.Proofs.YtkmbnldginonbaaGreat
/- charpoly.hessenberg at 1 rows. -/
namespace Go.Proofs.YtkmbnldginonbaaGreat
open Go.RowKit
namespace Mx
theorem gk1 {b1 : Blk} {r : List Blk} {t : List (Option Nat)} (h : ([b1].all fun b => b.u == 0 && b.st == 0) = true) : srcG 0 (gb (gG 1 idn) :: b1 :: r) (some 0 :: some 1 :: t) (gG 1 idn) (some 0) := by
  simp only [List.all_cons, List.all_nil, Bool.and_true, Bool.and_eq_true, beq_iff_eq] at h
  obtain ⟨u1, s1⟩ := h
  exact ⟨_, rfl, rfl, rfl, rfl, rfl, cells1 ⟨b1, rfl, by rw [u1], s1⟩⟩
theorem gk2 {b1 b2 : Blk} {r : List Blk} {t : List (Option Nat)} (h : ([b1, b2].all fun b => b.u == 0 && b.st == 0) = true) : srcG 0 (gb (gG 2 idn) :: b1 :: b2 :: r) (some 0 :: some 1 :: some 2 :: t) (gG 2 idn) (some 0) := by
  simp only [List.all_cons, List.all_nil, Bool.and_true, Bool.and_eq_true, beq_iff_eq] at h
  obtain ⟨⟨u1, s1⟩, ⟨u2, s2⟩⟩ := h
  exact ⟨_, rfl, rfl, rfl, rfl, rfl, cells2 ⟨b1, rfl, by rw [u1], s1⟩ ⟨b2, rfl, by rw [u2], s2⟩⟩
set_option maxHeartbeats 64000000 in
set_option maxRecDepth 100000 in
theorem hess_1 (M:Nat->Nat->Rat) {L:Nat} (_:Bq 1 L M) (_:1≤L) (_:16*KB 1 L+16≤LIM):FnT Tryz.prog true 40 1 ([gG 1 idn,gq 1 (M 0)].map gb) [.c (.gs 0 0)] (.c .any) ([gG 1 idn,gq 1 (hsn 1 M 0)].map gb):=by
 refine fnt_okS (E:=E1m) E1m_ok Tryz.func40 rfl (by kernel_rfl) ?_
 refine sq ?_
 conv=>whnf
 refine⟨(fun m:Nat=>gst [(0,.c (.gs 0 0)),(2,.c (.int .i64 ((m:Nat):Int)))] [gG 1 idn,gq 1 (hs 1 M m 0)]) 1,Weak.genT [some 0,some 1] rfl rfl ⟨_,rfl,rfl,by decide⟩ ⟨gk1 rfl,rs rfl,trivial⟩ ⟨⟨_,rfl,rfl,rfl⟩,⟨_,rfl,rfl⟩,trivial⟩,?_⟩
 refine swp_block (swp_loop (fun m:Nat=>gst [(0,.c (.gs 0 0)),(2,.c (.int .i64 ((m:Nat):Int)))] [gG 1 idn,gq 1 (hs 1 M m 0)]) (fun m=>2-m) (fun m=>1≤m/\m≤1) 1 (Weak.refl _) (by decide) fun m hm=>?_)
 obtain rfl:m=1:=by omega
 refine so ?_
 conv=>whnf
 repeat (refine⟨by first | decide | exact ixl rfl | exact rgl rfl,?_⟩;conv=>whnf)
 exact Weak.genT (tl:=[(0,.c .any)]) (xs:=[gG 1 idn,gq 1 (hsn 1 M 0)]) [some 0,some 1] rfl rfl ⟨_,rfl,rfl,by decide⟩ ⟨gk1 rfl,rs rfl,trivial⟩ ⟨⟨rfl,rfl⟩,trivial⟩
end Mx
end Go.Proofs.YtkmbnldginonbaaGreat
/- charpoly.hessenberg at 2 rows. -/
namespace Go.Proofs.YtkmbnldginonbaaGreat
open Go.RowKit
namespace Mx
set_option maxHeartbeats 64000000 in
set_option maxRecDepth 100000 in
theorem hess_2 (M:Nat->Nat->Rat) {L:Nat} (_:Bq 2 L M) (_:1≤L) (_:16*KB 2 L+16≤LIM):FnT Tryz.prog true 40 1 ([gG 2 idn,gq 2 (M 0),gq 2 (M 1)].map gb) [.c (.gs 0 0)] (.c .any) ([gG 2 idn,gq 2 (hsn 2 M 0),gq 2 (hsn 2 M 1)].map gb):=by
 refine fnt_okS (E:=E1m) E1m_ok Tryz.func40 rfl (by kernel_rfl) ?_
 refine sq ?_
 conv=>whnf
 refine⟨(fun m:Nat=>gst [(0,.c (.gs 0 0)),(2,.c (.int .i64 ((m:Nat):Int)))] [gG 2 idn,gq 2 (hs 2 M m 0),gq 2 (hs 2 M m 1)]) 1,Weak.genT [some 0,some 1,some 2] rfl rfl ⟨_,rfl,rfl,by decide⟩ ⟨gk2 rfl,rs rfl,rs rfl,trivial⟩ ⟨⟨_,rfl,rfl,rfl⟩,⟨_,rfl,rfl⟩,trivial⟩,?_⟩
 refine swp_block (swp_loop (fun m:Nat=>gst [(0,.c (.gs 0 0)),(2,.c (.int .i64 ((m:Nat):Int)))] [gG 2 idn,gq 2 (hs 2 M m 0),gq 2 (hs 2 M m 1)]) (fun m=>3-m) (fun m=>1≤m/\m≤1) 1 (Weak.refl _) (by decide) fun m hm=>?_)
 obtain rfl:m=1:=by omega
 refine so ?_
 conv=>whnf
 repeat (refine⟨by first | decide | exact ixl rfl | exact rgl rfl,?_⟩;conv=>whnf)
 exact Weak.genT (tl:=[(0,.c .any)]) (xs:=[gG 2 idn,gq 2 (hsn 2 M 0),gq 2 (hsn 2 M 1)]) [some 0,some 1,some 2] rfl rfl ⟨_,rfl,rfl,by decide⟩ ⟨gk2 rfl,rs rfl,rs rfl,trivial⟩ ⟨⟨rfl,rfl⟩,trivial⟩
end Mx
end Go.Proofs.YtkmbnldginonbaaGreat
/- charpoly.hessenberg at 3 rows. -/
namespace Go.Proofs.YtkmbnldginonbaaGreat
open Go.RowKit
namespace Mx
set_option maxHeartbeats 64000000 in
set_option maxRecDepth 100000 in
theorem hess_3 (M:Nat->Nat->Rat) {L:Nat} (hM:Bq 3 L M) (h1:1≤L) (hL:16*KB 3 L+16≤LIM):FnT Tryz.prog true 40 1 ([gG 3 idn,gq 3 (M 0),gq 3 (M 1),gq 3 (M 2)].map gb) [.c (.gs 0 0)] (.c .any) ([gG 3 idn,gq 3 (hsn 3 M 0),gq 3 (hsn 3 M 1),gq 3 (hsn 3 M 2)].map gb):=by
 have hK:1≤KB 3 L:=KB_pos h1
 refine fnt_okS (E:=E1m) E1m_ok Tryz.func40 rfl (by kernel_rfl) ?_
 refine sq ?_
 conv=>whnf
 refine⟨(fun m:Nat=>gst [(0,.c (.gs 0 0)),(2,.c (.int .i64 ((m:Nat):Int)))] [gG 3 idn,gq 3 (hs 3 M m 0),gq 3 (hs 3 M m 1),gq 3 (hs 3 M m 2)]) 1,Weak.genT [some 0,some 1,some 2,some 3] rfl rfl ⟨_,rfl,rfl,by decide⟩ ⟨gk3 rfl,rs rfl,rs rfl,rs rfl,trivial⟩ ⟨⟨_,rfl,rfl,rfl⟩,⟨_,rfl,rfl⟩,trivial⟩,?_⟩
 refine swp_block (swp_loop (fun m:Nat=>gst [(0,.c (.gs 0 0)),(2,.c (.int .i64 ((m:Nat):Int)))] [gG 3 idn,gq 3 (hs 3 M m 0),gq 3 (hs 3 M m 1),gq 3 (hs 3 M m 2)]) (fun m=>4-m) (fun m=>1≤m/\m≤2) 1 (Weak.refl _) (by decide) fun m hm=>?_)
 rcases(show m=1∨m=2 by omega)with rfl | rfl
 ·-- the step 1
  refine sq ?_
  conv=>whnf
  repeat (refine⟨by first | decide | exact ixl rfl | exact rgl rfl,?_⟩;conv=>whnf)
  refine⟨gst [(0,.c (.gs 0 0)),(2,.c (.int .i64 ((1:Nat):Int)))] [gG 3 idn,gq 3 (hs 3 M 1 0),gq 3 (hs 3 M 1 1),gq 3 (hs 3 M 1 2)],Weak.genT [some 0,some 1,some 2,some 3] rfl rfl ⟨_,rfl,rfl,by decide⟩ ⟨gk3 rfl,rs rfl,rs rfl,rs rfl,trivial⟩ ⟨⟨_,rfl,rfl,rfl⟩,⟨_,rfl,rfl⟩,trivial⟩,?_⟩
  have hA:=hs_kb hM h1 (show 1+1≤3 by decide)
  have hE:=fun(hp:pv 3 (hs 3 M 1) 1<3) (t:Nat) (ht:1+t<3)=>el_kb hM h1 (show 1≤1 by decide) (show 1+1<3 by decide) hp ht
  refine swp_mid (fun _:Unit=>gst [(0,.c (.gs 0 0)),(2,.c (.int .i64 ((1:Nat):Int)))] [gG 3 idn,gq 3 (stp 3 1 (hs 3 M 1) 0),gq 3 (stp 3 1 (hs 3 M 1) 1),gq 3 (stp 3 1 (hs 3 M 1) 2)]) (fun _=>True) ?_ fun _ _=>?_
  rotate_left
  ·refine so ?_
   conv=>whnf
   repeat (refine⟨by first | decide | exact ixl rfl | exact rgl rfl,?_⟩;conv=>whnf)
   exact⟨2,by decide,Weak.genT [some 0,some 1,some 2,some 3] rfl rfl ⟨_,rfl,rfl,by decide⟩ ⟨gk3 rfl,rs rfl,rs rfl,rs rfl,trivial⟩ ⟨⟨_,rfl,rfl,rfl⟩,⟨_,rfl,rfl⟩,trivial⟩,by decide⟩
  refine swp_block ?_
  generalize hs 3 M 1=A at *
  have hpiv:=fun(hp:pv 3 A 1<3) (t:Nat)=>el_piv (show 1≤1 by decide) (show 1+1<3 by decide) hp t
  have nz:∀ a,a<3->FnOK Tryz.prog true 47 [.g (nq (A a 0))] (.c (.bool (decide (A a 0≠0)))):=fun a ha=>nz_ok (hA a 0 ha (by decide)) (by omega)
  obtain⟨p1,p2,-,-⟩:=pv_spec 3 A (show 1≤3 by decide)
  generalize hpv:pv 3 A 1=P at *
  refine sq ?_
  conv=>whnf
  refine⟨gst [(0,.c (.gs 0 0)),(2,.c (.int .i64 ((1:Nat):Int))),(3,.c (.int .i64 ((1:Nat):Int)))] [gG 3 idn,gq 3 (A 0),gq 3 (A 1),gq 3 (A 2)],Weak.genT [some 0,some 1,some 2,some 3] rfl rfl ⟨_,rfl,rfl,by decide⟩ ⟨gk3 rfl,rs rfl,rs rfl,rs rfl,trivial⟩ ⟨⟨_,rfl,rfl,rfl⟩,⟨_,rfl,rfl⟩,⟨_,rfl,rfl⟩,trivial⟩,?_⟩
  refine swp_mid (fun _:Unit=>gst [(0,.c (.gs 0 0)),(2,.c (.int .i64 ((1:Nat):Int))),(3,.c (.int .i64 ((P:Nat):Int)))] [gG 3 idn,gq 3 (A 0),gq 3 (A 1),gq 3 (A 2)]) (fun _=>True) ?_ fun _ _=>?_
  ·refine swp_block (swp_loop (fun a:Nat=>gst [(0,.c (.gs 0 0)),(2,.c (.int .i64 ((1:Nat):Int))),(3,.c (.int .i64 ((a:Nat):Int)))] [gG 3 idn,gq 3 (A 0),gq 3 (A 1),gq 3 (A 2)]) (fun a=>3-a) (fun a=>1≤a/\a≤3/\pvf A 0 (3-a) a=P) 1 (Weak.refl _) ⟨by decide,by decide,hpv⟩ fun a ha=>?_)
   obtain⟨a1,a2,a3⟩:=ha
   rcases(show a=1∨a=2∨a=3 by omega)with rfl | rfl | rfl
   ·refine so ?_
    conv=>whnf
    repeat (refine⟨by first | decide | exact ixl rfl | exact rgl rfl,?_⟩;conv=>whnf)
    refine⟨_,nz 1 (by decide),?_⟩
    conv=>whnf
    refine bcase (fun(h:(!decide (A 1 0≠0))=true)=>?_) fun(h:(!decide (A 1 0≠0))=false)=>?_
    ·have h0:A 1 0=0:=by simpa using h
     conv=>whnf
     repeat (refine⟨by first | decide | exact ixl rfl | exact rgl rfl,?_⟩;conv=>whnf)
     exact⟨2,by decide,Weak.genT [some 0,some 1,some 2,some 3] rfl rfl ⟨_,rfl,rfl,by decide⟩ ⟨gk3 rfl,rs rfl,rs rfl,rs rfl,trivial⟩ ⟨⟨_,rfl,rfl,rfl⟩,⟨_,rfl,rfl⟩,⟨_,rfl,rfl⟩,trivial⟩,by decide,by decide,by rw[← a3];exact(pvf_next h0).symm⟩
    ·have h0:A 1 0≠0:=by simpa using h
     conv=>whnf
     have eP:1=P:=by rw[← a3];exact(pvf_stop h0).symm
     exact⟨(),trivial,Weak.genT [some 0,some 1,some 2,some 3] rfl rfl ⟨_,rfl,rfl,by decide⟩ ⟨gk3 rfl,rs rfl,rs rfl,rs rfl,trivial⟩ ⟨⟨_,rfl,rfl,rfl⟩,⟨_,rfl,rfl⟩,⟨_,rfl,by rw[← eP]⟩,trivial⟩⟩
   ·refine so ?_
    conv=>whnf
    repeat (refine⟨by first | decide | exact ixl rfl | exact rgl rfl,?_⟩;conv=>whnf)
    refine⟨_,nz 2 (by decide),?_⟩
    conv=>whnf
    refine bcase (fun(h:(!decide (A 2 0≠0))=true)=>?_) fun(h:(!decide (A 2 0≠0))=false)=>?_
    ·have h0:A 2 0=0:=by simpa using h
     conv=>whnf
     repeat (refine⟨by first | decide | exact ixl rfl | exact rgl rfl,?_⟩;conv=>whnf)
     exact⟨3,by decide,Weak.genT [some 0,some 1,some 2,some 3] rfl rfl ⟨_,rfl,rfl,by decide⟩ ⟨gk3 rfl,rs rfl,rs rfl,rs rfl,trivial⟩ ⟨⟨_,rfl,rfl,rfl⟩,⟨_,rfl,rfl⟩,⟨_,rfl,rfl⟩,trivial⟩,by decide,by decide,by rw[← a3];exact(pvf_next h0).symm⟩
    ·have h0:A 2 0≠0:=by simpa using h
     conv=>whnf
     have eP:2=P:=by rw[← a3];exact(pvf_stop h0).symm
     exact⟨(),trivial,Weak.genT [some 0,some 1,some 2,some 3] rfl rfl ⟨_,rfl,rfl,by decide⟩ ⟨gk3 rfl,rs rfl,rs rfl,rs rfl,trivial⟩ ⟨⟨_,rfl,rfl,rfl⟩,⟨_,rfl,rfl⟩,⟨_,rfl,by rw[← eP]⟩,trivial⟩⟩
   ·refine so ?_
    conv=>whnf
    repeat (refine⟨by first | decide | exact ixl rfl | exact rgl rfl,?_⟩;conv=>whnf)
    have eP:3=P:=a3
    exact⟨(),trivial,Weak.genT [some 0,some 1,some 2,some 3] rfl rfl ⟨_,rfl,rfl,by decide⟩ ⟨gk3 rfl,rs rfl,rs rfl,rs rfl,trivial⟩ ⟨⟨_,rfl,rfl,rfl⟩,⟨_,rfl,rfl⟩,⟨_,rfl,by rw[← eP]⟩,trivial⟩⟩
  refine swp_mid2 (fun _:Unit=>gst [(0,.c (.gs 0 0)),(2,.c (.int .i64 ((1:Nat):Int)))] [gG 3 idn,gq 3 (xch (sw P 1) A 0),gq 3 (xch (sw P 1) A 1),gq 3 (xch (sw P 1) A 2)]) (fun _=>P<3) ?_ fun _ hP=>?_
  ·rcases(show P=1∨P=2∨P=3 by omega)with rfl | rfl | rfl
   ·refine so ?_
    conv=>whnf
    repeat (refine⟨by first | decide | exact ixl rfl | exact rgl rfl,?_⟩;conv=>whnf)
    refine so ?_
    conv=>whnf
    repeat (refine⟨by first | decide | exact ixl rfl | exact rgl rfl,?_⟩;conv=>whnf)
    exact⟨(),by decide,Weak.genT [some 0,some 1,some 2,some 3] rfl rfl ⟨_,rfl,rfl,by decide⟩ ⟨gk3 rfl,rk rfl fun x hx=>(xch_self A _ x),rk rfl fun x hx=>(xch_self A _ x),rk rfl fun x hx=>(xch_self A _ x),trivial⟩ ⟨⟨_,rfl,rfl,rfl⟩,⟨_,rfl,rfl⟩,trivial⟩⟩
   ·refine so ?_
    conv=>whnf
    repeat (refine⟨by first | decide | exact ixl rfl | exact rgl rfl,?_⟩;conv=>whnf)
    refine sq ?_
    conv=>whnf
    repeat (refine⟨by first | decide | exact ixl rfl | exact rgl rfl,?_⟩;conv=>whnf)
    refine⟨gst [(0,.c (.gs 0 0)),(2,.c (.int .i64 ((1:Nat):Int))),(3,.c (.int .i64 ((2:Nat):Int))),(41,.c (.bool true))] [gG 3 idn,gq 3 (A 0),gq 3 (A 1),gq 3 (A 2)],Weak.genT [some 0,some 1,some 2,some 3] rfl rfl ⟨_,rfl,rfl,by decide⟩ ⟨gk3 rfl,rs rfl,rs rfl,rs rfl,trivial⟩ ⟨⟨_,rfl,rfl,rfl⟩,⟨_,rfl,rfl⟩,⟨_,rfl,rfl⟩,⟨_,rfl,rfl⟩,trivial⟩,?_⟩
    refine swp_cond (b:=true) rfl (fun _=>?_) fun h=>absurd h (by decide)
    refine swp_goT E1m_ok (pre:=[_,_,_]) (post:=[]) rfl rfl (by kernel_rfl) ?_
    conv=>whnf
    refine⟨1,_,by decide,OpGoT.call0 (f:=92) (cs:=[]) rfl rfl live_all (exch_3_2_1 A) (lt_put (lt_put (lt_put (lt_asg (tl:=[(0,.c (.gs 0 0)),(2,.c (.int .i64 _)),(3,.c (.int .i64 _)),(41,.c (.bool true))]) ⟨rfl,rfl,rfl,rfl,trivial⟩) rfl) rfl) rfl),?_⟩
    conv=>whnf
    exact⟨(),by decide,Weak.genT [some 0,some 1,some 2,some 3] rfl rfl ⟨_,rfl,rfl,by decide⟩ ⟨gk3 rfl,rs rfl,rs rfl,rs rfl,trivial⟩ ⟨⟨_,rfl,rfl,rfl⟩,⟨_,rfl,rfl⟩,trivial⟩⟩
   ·refine so ?_
    conv=>whnf
    repeat (refine⟨by first | decide | exact ixl rfl | exact rgl rfl,?_⟩;conv=>whnf)
    exact⟨(),trivial,Weak.genT [some 0,some 1,some 2,some 3] rfl rfl ⟨_,rfl,rfl,by decide⟩ ⟨gk3 rfl,rk rfl fun x hx=>(stp_none hpv _ x),rk rfl fun x hx=>(stp_none hpv _ x),rk rfl fun x hx=>(stp_none hpv _ x),trivial⟩ ⟨⟨_,rfl,rfl,rfl⟩,⟨_,rfl,rfl⟩,trivial⟩⟩
  have hE:=hE hP
  have hpiv:=hpiv hP
  have hst:=fun a b=>stp_some hpv hP a b
  generalize stp 3 1 A=Z at *
  generalize xch (sw P 1) A=A1 at *
  refine sq ?_
  conv=>whnf
  repeat (refine⟨by first | decide | exact ixl rfl | exact rgl rfl,?_⟩;conv=>whnf)
  refine⟨(fun t:Nat=>gst [(0,.c (.gs 0 0)),(2,.c (.int .i64 ((1:Nat):Int))),(4,.c (.int .i64 ((2+t:Nat):Int)))] [gG 3 idn,gq 3 (el 1 A1 t 0),gq 3 (el 1 A1 t 1),gq 3 (el 1 A1 t 2)]) 0,Weak.genT [some 0,some 1,some 2,some 3] rfl rfl ⟨_,rfl,rfl,by decide⟩ ⟨gk3 rfl,rs rfl,rs rfl,rs rfl,trivial⟩ ⟨⟨_,rfl,rfl,rfl⟩,⟨_,rfl,rfl⟩,⟨_,rfl,rfl⟩,trivial⟩,?_⟩
  refine swp_block (swp_loop (fun t:Nat=>gst [(0,.c (.gs 0 0)),(2,.c (.int .i64 ((1:Nat):Int))),(4,.c (.int .i64 ((2+t:Nat):Int)))] [gG 3 idn,gq 3 (el 1 A1 t 0),gq 3 (el 1 A1 t 1),gq 3 (el 1 A1 t 2)]) (fun t=>3-t) (fun t=>t≤1) 0 (Weak.refl _) (by decide) fun t ht=>?_)
  rcases(show t=0∨t=1 by omega)with rfl | rfl
  ·have hB:=hE 0 (by decide)
   have hq:=hpiv 0
   refine sq ?_
   conv=>whnf
   repeat (refine⟨by first | decide | exact ixl rfl | exact rgl rfl,?_⟩;conv=>whnf)
   refine⟨gst [(0,.c (.gs 0 0)),(2,.c (.int .i64 ((1:Nat):Int))),(4,.c (.int .i64 ((2:Nat):Int)))] [gG 3 idn,gq 3 (el 1 A1 0 0),gq 3 (el 1 A1 0 1),gq 3 (el 1 A1 0 2)],Weak.genT [some 0,some 1,some 2,some 3] rfl rfl ⟨_,rfl,rfl,by decide⟩ ⟨gk3 rfl,rs rfl,rs rfl,rs rfl,trivial⟩ ⟨⟨_,rfl,rfl,rfl⟩,⟨_,rfl,rfl⟩,⟨_,rfl,rfl⟩,trivial⟩,?_⟩
   refine swp_mid (fun _:Unit=>gst [(0,.c (.gs 0 0)),(2,.c (.int .i64 ((1:Nat):Int))),(4,.c (.int .i64 ((2:Nat):Int)))] [gG 3 idn,gq 3 (el1 1 2 (el 1 A1 0) 0),gq 3 (el1 1 2 (el 1 A1 0) 1),gq 3 (el1 1 2 (el 1 A1 0) 2)]) (fun _=>True) ?_ fun _ _=>?_
   rotate_left
   ·refine so ?_
    conv=>whnf
    repeat (refine⟨by first | decide | exact ixl rfl | exact rgl rfl,?_⟩;conv=>whnf)
    exact⟨1,by decide,Weak.genT [some 0,some 1,some 2,some 3] rfl rfl ⟨_,rfl,rfl,by decide⟩ ⟨gk3 rfl,rs rfl,rs rfl,rs rfl,trivial⟩ ⟨⟨_,rfl,rfl,rfl⟩,⟨_,rfl,rfl⟩,⟨_,rfl,rfl⟩,trivial⟩,by decide⟩
   refine swp_block ?_
   generalize el 1 A1 0=B at *
   have hx:∀ a b,a<3->b<3->qlen (B a b)≤KB 3 L:=hB
   have nz:=nz_ok (x:=B 2 0) (hx 2 0 (by decide) (by decide)) (by omega)
   have kq:=qquo_n (hx 2 0 (by decide) (by decide)) (hx 1 0 (by decide) (by decide)) (by omega) hq rfl
   have hu:qlen (B 2 0 / B 1 0)≤2*KB 3 L:=Nat.le_trans (q_div (hx 2 0 (by decide) (by decide)) (hx 1 0 (by decide) (by decide)) (by omega)) (by omega)
   have hel:=fun(h0:¬ B 2 0=0) a b=>el1_some (m:=1) (i:=2) (A:=B) h0 rfl a b
   have hez:=fun(h0:B 2 0=0) a b=>el1_zero (m:=1) (i:=2) (A:=B) h0 a b
   change ∀(h0:¬ B 2 0=0) (a b:Nat),el1 1 2 B a b=ca (B 2 0 / B 1 0) 2 1 (ra (B 2 0 / B 1 0) 2 1 B) a b at hel
   generalize el1 1 2 B=Y at *
   generalize B 2 0 / B 1 0=u at *
   have m1:∀ j,j<3->FnOK Tryz.prog true 46 [.g (nq u),.g (nq (md1 u 2 1 B j 1 j))] (.g (nq (u*B 1 j))):=fun j hj=>qmul_n hu (by rw[md1_m u (by decide)];exact hx 1 j (by decide) hj) (by omega) (by rw[md1_m u (by decide)])
   have m2:∀ j,j<3->FnOK Tryz.prog true 50 [.g (nq (md1 u 2 1 B j 2 j)),.g (nq (u*B 1 j))] (.g (nq (B 2 j-u*B 1 j))):=fun j hj=>qsub_n (by rw[md1_old];exact hx 2 j (by decide) hj) (q_mul hu (hx 1 j (by decide) hj) (by omega)) (by omega) (by omega) (by rw[md1_old])
   have hR:=ra_kb (i:=2) hB hu (show 1<3 by decide) hK
   have w1:∀ j,j<3->FnOK Tryz.prog true 46 [.g (nq u),.g (nq (md2 u 2 1 (ra u 2 1 B) j j 2))] (.g (nq (u*ra u 2 1 B j 2))):=fun j hj=>qmul_n hu (by rw[md2_old];exact hR j 2 hj (by decide)) (by omega) (by rw[md2_old])
   have w2:∀ j,j<3->FnOK Tryz.prog true 93 [.g (nq (md2 u 2 1 (ra u 2 1 B) j j 1)),.g (nq (u*ra u 2 1 B j 2))] (.g (nq (ra u 2 1 B j 1+u*ra u 2 1 B j 2))):=fun j hj=>qadd_n (by rw[md2_old];exact hR j 1 hj (by decide)) (q_mul hu (hR j 2 hj (by decide)) (by omega)) (by omega) (by rw[md2_old])
   refine sq ?_
   conv=>whnf
   repeat (refine⟨by first | decide | exact ixl rfl | exact rgl rfl,?_⟩;conv=>whnf)
   refine⟨_,nz,?_⟩
   conv=>whnf
   refine bcase (fun(h:(!decide (B 2 0≠0))=true)=>?_) fun(h:(!decide (B 2 0≠0))=false)=>?_
   ·have h0:B 2 0=0:=by simpa using h
    conv=>whnf
    exact⟨(),trivial,Weak.genT [some 0,some 1,some 2,some 3] rfl rfl ⟨_,rfl,rfl,by decide⟩ ⟨gk3 rfl,rk rfl fun x hx=>(hez h0 _ x),rk rfl fun x hx=>(hez h0 _ x),rk rfl fun x hx=>(hez h0 _ x),trivial⟩ ⟨⟨_,rfl,rfl,rfl⟩,⟨_,rfl,rfl⟩,⟨_,rfl,rfl⟩,trivial⟩⟩
   have h0:¬ B 2 0=0:=by simpa using h
   conv=>whnf
   refine⟨gst [(0,.c (.gs 0 0)),(2,.c (.int .i64 ((1:Nat):Int))),(4,.c (.int .i64 ((2:Nat):Int)))] [gG 3 idn,gq 3 (B 0),gq 3 (B 1),gq 3 (B 2)],Weak.genT [some 0,some 1,some 2,some 3] rfl rfl ⟨_,rfl,rfl,by decide⟩ ⟨gk3 rfl,rs rfl,rs rfl,rs rfl,trivial⟩ ⟨⟨_,rfl,rfl,rfl⟩,⟨_,rfl,rfl⟩,⟨_,rfl,rfl⟩,trivial⟩,?_⟩
   have hel:=hel h0
   refine sq ?_
   conv=>whnf
   repeat (refine⟨by first | decide | exact ixl rfl | exact rgl rfl,?_⟩;conv=>whnf)
   refine⟨_,kq,?_⟩
   conv=>whnf
   refine⟨gst [(0,.c (.gs 0 0)),(2,.c (.int .i64 ((1:Nat):Int))),(4,.c (.int .i64 ((2:Nat):Int))),(5,.c (.p 4 0 4 0 0))] [gG 3 idn,gq 3 (B 0),gq 3 (B 1),gq 3 (B 2),⟨38,4,1,boxF (nq u)⟩],Weak.genT [some 0,some 1,some 2,some 3,some 24] rfl rfl ⟨_,rfl,rfl,by decide⟩ ⟨gk3 rfl,rs rfl,rs rfl,rs rfl,Rf.boxU rfl rfl rfl,trivial⟩ ⟨⟨_,rfl,rfl,rfl⟩,⟨_,rfl,rfl⟩,⟨_,rfl,rfl⟩,⟨_,rfl,rfl,rfl⟩,trivial⟩,?_⟩
   refine swp_mid (fun _:Unit=>gst [(0,.c (.gs 0 0)),(2,.c (.int .i64 ((1:Nat):Int))),(4,.c (.int .i64 ((2:Nat):Int))),(5,.c (.p 4 0 4 0 0))] [gG 3 idn,gq 3 (ra u 2 1 B 0),gq 3 (ra u 2 1 B 1),gq 3 (ra u 2 1 B 2),⟨38,4,1,boxF (nq u)⟩]) (fun _=>True) ?_ fun _ _=>?_
   ·refine sq ?_
    conv=>whnf
    repeat (refine⟨by first | decide | exact ixl rfl | exact rgl rfl,?_⟩;conv=>whnf)
    refine⟨(fun j:Nat=>gst [(0,.c (.gs 0 0)),(2,.c (.int .i64 ((1:Nat):Int))),(4,.c (.int .i64 ((2:Nat):Int))),(5,.c (.p 4 0 4 0 0)),(85,.c (.int .i64 3)),(86,.c (.int .i64 ((j:Nat):Int)))] [gG 3 idn,gq 3 (md1 u 2 1 B j 0),gq 3 (md1 u 2 1 B j 1),gq 3 (md1 u 2 1 B j 2),⟨38,4,1,boxF (nq u)⟩]) 0,Weak.genT [some 0,some 1,some 2,some 3,some 4] rfl rfl ⟨_,rfl,rfl,by decide⟩ ⟨gk3 rfl,rk rfl fun x hx=>(md1_zero u _ _ B _ x),rk rfl fun x hx=>(md1_zero u _ _ B _ x),rk rfl fun x hx=>(md1_zero u _ _ B _ x),Rf.boxK rfl rfl,trivial⟩ ⟨⟨_,rfl,rfl,rfl⟩,⟨_,rfl,rfl⟩,⟨_,rfl,rfl⟩,⟨_,rfl,rfl,rfl⟩,⟨_,rfl,rfl⟩,⟨_,rfl,rfl⟩,trivial⟩,?_⟩
    refine swp_block (swp_loop (fun j:Nat=>gst [(0,.c (.gs 0 0)),(2,.c (.int .i64 ((1:Nat):Int))),(4,.c (.int .i64 ((2:Nat):Int))),(5,.c (.p 4 0 4 0 0)),(85,.c (.int .i64 3)),(86,.c (.int .i64 ((j:Nat):Int)))] [gG 3 idn,gq 3 (md1 u 2 1 B j 0),gq 3 (md1 u 2 1 B j 1),gq 3 (md1 u 2 1 B j 2),⟨38,4,1,boxF (nq u)⟩]) (fun j=>3-j) (fun j=>j≤3) 0 (Weak.refl _) (by decide) fun j hj=>?_)
    have m1:=m1 j
    have m2:=m2 j
    have hj0:(0:Int)≤(j:Int):=by omega
    refine so ?_
    conv=>whnf
    refine bcase (fun(h:decide ((j:Int)<3)=true)=>?_) fun(h:decide ((j:Int)<3)=false)=>?_
    ·have h:=of_decide_eq_true h
     have m1:=m1 (by omega)
     have m2:=m2 (by omega)
     have hj1:(j:Int)<((3:Nat):Int):=by omega
     conv=>whnf
     repeat (refine⟨by first | exact hj0 | exact hj1 | decide | exact ixl rfl | exact rgl (by decide),?_⟩;conv=>whnf)
     refine⟨_,m1,?_⟩
     conv=>whnf
     repeat (refine⟨by first | exact hj0 | exact hj1 | decide | exact ixl rfl | exact rgl (by decide),?_⟩;conv=>whnf)
     refine⟨_,m2,?_⟩
     conv=>whnf
     repeat (refine⟨by first | exact hj0 | exact hj1 | decide | exact ixl rfl | exact rgl (by decide),?_⟩;conv=>whnf)
     refine⟨i64_range (by omega) (by omega),?_⟩
     conv=>whnf
     exact⟨j+1,by omega,Weak.genT [some 0,some 1,some 2,some 3,some 4] rfl rfl ⟨_,rfl,rfl,by decide⟩ ⟨gk3 rfl,rk rfl fun x hx=>(md1_keep u (by decide) B j x),rk rfl fun x hx=>(md1_keep u (by decide) B j x),ru rfl fun x=>(md1_step u 2 1 B j x),Rf.boxK rfl rfl,trivial⟩ ⟨⟨_,rfl,rfl,rfl⟩,⟨_,rfl,rfl⟩,⟨_,rfl,rfl⟩,⟨_,rfl,rfl,rfl⟩,⟨_,rfl,rfl⟩,⟨_,rfl,rfl⟩,trivial⟩,by omega⟩
    ·have h:=of_decide_eq_false h
     obtain rfl:j=3:=by omega
     conv=>whnf
     exact⟨(),trivial,Weak.genT [some 0,some 1,some 2,some 3,some 4] rfl rfl ⟨_,rfl,rfl,by decide⟩ ⟨gk3 rfl,rk rfl fun x hx=>(md1_all u _ _ B hx _),rk rfl fun x hx=>(md1_all u _ _ B hx _),rk rfl fun x hx=>(md1_all u _ _ B hx _),Rf.boxK rfl rfl,trivial⟩ ⟨⟨_,rfl,rfl,rfl⟩,⟨_,rfl,rfl⟩,⟨_,rfl,rfl⟩,⟨_,rfl,rfl,rfl⟩,trivial⟩⟩
   generalize ra u 2 1 B=D at *
   refine sq ?_
   conv=>whnf
   repeat (refine⟨by first | decide | exact ixl rfl | exact rgl rfl,?_⟩;conv=>whnf)
   refine⟨(fun j:Nat=>gst [(0,.c (.gs 0 0)),(2,.c (.int .i64 ((1:Nat):Int))),(4,.c (.int .i64 ((2:Nat):Int))),(5,.c (.p 4 0 4 0 0)),(114,.c (.int .i64 3)),(115,.c (.int .i64 ((j:Nat):Int)))] [gG 3 idn,gq 3 (md2 u 2 1 D j 0),gq 3 (md2 u 2 1 D j 1),gq 3 (md2 u 2 1 D j 2),⟨38,4,1,boxF (nq u)⟩]) 0,Weak.genT [some 0,some 1,some 2,some 3,some 4] rfl rfl ⟨_,rfl,rfl,by decide⟩ ⟨gk3 rfl,rk rfl fun x hx=>(md2_zero u _ _ D _ x),rk rfl fun x hx=>(md2_zero u _ _ D _ x),rk rfl fun x hx=>(md2_zero u _ _ D _ x),Rf.boxK rfl rfl,trivial⟩ ⟨⟨_,rfl,rfl,rfl⟩,⟨_,rfl,rfl⟩,⟨_,rfl,rfl⟩,⟨_,rfl,rfl,rfl⟩,⟨_,rfl,rfl⟩,⟨_,rfl,rfl⟩,trivial⟩,?_⟩
   refine swp_block (swp_loop (fun j:Nat=>gst [(0,.c (.gs 0 0)),(2,.c (.int .i64 ((1:Nat):Int))),(4,.c (.int .i64 ((2:Nat):Int))),(5,.c (.p 4 0 4 0 0)),(114,.c (.int .i64 3)),(115,.c (.int .i64 ((j:Nat):Int)))] [gG 3 idn,gq 3 (md2 u 2 1 D j 0),gq 3 (md2 u 2 1 D j 1),gq 3 (md2 u 2 1 D j 2),⟨38,4,1,boxF (nq u)⟩]) (fun j=>3-j) (fun j=>j≤3) 0 (Weak.refl _) (by decide) fun j hj=>?_)
   rcases(show j=0∨j=1∨j=2∨j=3 by omega)with rfl | rfl | rfl | rfl
   ·refine so ?_
    conv=>whnf
    repeat (refine⟨by first | decide | exact ixl rfl | exact rgl rfl,?_⟩;conv=>whnf)
    refine⟨_,w1 0 (by decide),?_⟩
    conv=>whnf
    repeat (refine⟨by first | decide | exact ixl rfl | exact rgl rfl,?_⟩;conv=>whnf)
    refine⟨_,w2 0 (by decide),?_⟩
    conv=>whnf
    repeat (refine⟨by first | decide | exact ixl rfl | exact rgl rfl,?_⟩;conv=>whnf)
    exact⟨1,by decide,Weak.genT [some 0,some 1,some 2,some 3,some 4] rfl rfl ⟨_,rfl,rfl,by decide⟩ ⟨gk3 rfl,ru rfl fun x=>(md2_step u 2 1 D 0 x),rk rfl fun x hx=>(md2_keep u (by decide) D x),rk rfl fun x hx=>(md2_keep u (by decide) D x),Rf.boxK rfl rfl,trivial⟩ ⟨⟨_,rfl,rfl,rfl⟩,⟨_,rfl,rfl⟩,⟨_,rfl,rfl⟩,⟨_,rfl,rfl,rfl⟩,⟨_,rfl,rfl⟩,⟨_,rfl,rfl⟩,trivial⟩,by decide⟩
   ·refine so ?_
    conv=>whnf
    repeat (refine⟨by first | decide | exact ixl rfl | exact rgl rfl,?_⟩;conv=>whnf)
    refine⟨_,w1 1 (by decide),?_⟩
    conv=>whnf
    repeat (refine⟨by first | decide | exact ixl rfl | exact rgl rfl,?_⟩;conv=>whnf)
    refine⟨_,w2 1 (by decide),?_⟩
    conv=>whnf
    repeat (refine⟨by first | decide | exact ixl rfl | exact rgl rfl,?_⟩;conv=>whnf)
    exact⟨2,by decide,Weak.genT [some 0,some 1,some 2,some 3,some 4] rfl rfl ⟨_,rfl,rfl,by decide⟩ ⟨gk3 rfl,rk rfl fun x hx=>(md2_keep u (by decide) D x),ru rfl fun x=>(md2_step u 2 1 D 1 x),rk rfl fun x hx=>(md2_keep u (by decide) D x),Rf.boxK rfl rfl,trivial⟩ ⟨⟨_,rfl,rfl,rfl⟩,⟨_,rfl,rfl⟩,⟨_,rfl,rfl⟩,⟨_,rfl,rfl,rfl⟩,⟨_,rfl,rfl⟩,⟨_,rfl,rfl⟩,trivial⟩,by decide⟩
   ·refine so ?_
    conv=>whnf
    repeat (refine⟨by first | decide | exact ixl rfl | exact rgl rfl,?_⟩;conv=>whnf)
    refine⟨_,w1 2 (by decide),?_⟩
    conv=>whnf
    repeat (refine⟨by first | decide | exact ixl rfl | exact rgl rfl,?_⟩;conv=>whnf)
    refine⟨_,w2 2 (by decide),?_⟩
    conv=>whnf
    repeat (refine⟨by first | decide | exact ixl rfl | exact rgl rfl,?_⟩;conv=>whnf)
    exact⟨3,by decide,Weak.genT [some 0,some 1,some 2,some 3,some 4] rfl rfl ⟨_,rfl,rfl,by decide⟩ ⟨gk3 rfl,rk rfl fun x hx=>(md2_keep u (by decide) D x),rk rfl fun x hx=>(md2_keep u (by decide) D x),ru rfl fun x=>(md2_step u 2 1 D 2 x),Rf.boxK rfl rfl,trivial⟩ ⟨⟨_,rfl,rfl,rfl⟩,⟨_,rfl,rfl⟩,⟨_,rfl,rfl⟩,⟨_,rfl,rfl,rfl⟩,⟨_,rfl,rfl⟩,⟨_,rfl,rfl⟩,trivial⟩,by decide⟩
   ·refine so ?_
    conv=>whnf
    exact⟨(),trivial,Weak.genT [some 0,some 1,some 2,some 3] rfl rfl ⟨_,rfl,rfl,by decide⟩ ⟨gk3 rfl,rk rfl fun x hx=>((hel _ x).trans (md2_all u _ _ D (by decide) x)),rk rfl fun x hx=>((hel _ x).trans (md2_all u _ _ D (by decide) x)),rk rfl fun x hx=>((hel _ x).trans (md2_all u _ _ D (by decide) x)),trivial⟩ ⟨⟨_,rfl,rfl,rfl⟩,⟨_,rfl,rfl⟩,⟨_,rfl,rfl⟩,trivial⟩⟩
  ·refine so ?_
   conv=>whnf
   repeat (refine⟨by first | decide | exact ixl rfl | exact rgl rfl,?_⟩;conv=>whnf)
   exact⟨(),trivial,Weak.genT [some 0,some 1,some 2,some 3] rfl rfl ⟨_,rfl,rfl,by decide⟩ ⟨gk3 rfl,rk rfl fun x hx=>(hst _ x),rk rfl fun x hx=>(hst _ x),rk rfl fun x hx=>(hst _ x),trivial⟩ ⟨⟨_,rfl,rfl,rfl⟩,⟨_,rfl,rfl⟩,trivial⟩⟩
 ·refine so ?_
  conv=>whnf
  repeat (refine⟨by first | decide | exact ixl rfl | exact rgl rfl,?_⟩;conv=>whnf)
  exact Weak.genT (tl:=[(0,.c .any)]) (xs:=[gG 3 idn,gq 3 (hsn 3 M 0),gq 3 (hsn 3 M 1),gq 3 (hsn 3 M 2)]) [some 0,some 1,some 2,some 3] rfl rfl ⟨_,rfl,rfl,by decide⟩ ⟨gk3 rfl,rs rfl,rs rfl,rs rfl,trivial⟩ ⟨⟨rfl,rfl⟩,trivial⟩
end Mx
end Go.Proofs.YtkmbnldginonbaaGreat
