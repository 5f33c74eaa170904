/- Matrices in the program: rows stored. -/
import Derived.Test.YtkmbnldginonbaaGreatCo8
set_option maxHeartbeats 16000000
namespace Go.Proofs.YtkmbnldginonbaaGreat
open Go.RowKit
namespace Rf
theorem one_ql {bl:List Blk} {c:Nat->RawR} (r:Bool) (i j:Nat) (hj:j<4):St.one bl (qlF c i j)=true/\(r=true->(qlF c i j).noU=true):=by
 match j,hj with
 | 0,_=>exact⟨rfl,fun _=>rfl⟩
 | 1,_=>exact⟨rfl,fun _=>rfl⟩
 | 2,_=>exact⟨rfl,fun _=>rfl⟩
 | 3,_=>exact⟨rfl,fun _=>rfl⟩
theorem row_in {n m i a b:Nat} {G:Nat->Nat->Rat} (hi:i<n) (ha:a<i*m+m):appF (i*m) (qlF fun k=>ofR (G (k / m) (k%m))) (qlF fun k=>ofR (G i k)) a b=qlF (fun k=>ofR (G (k / m) (k%m))) a b:=by
 unfold appF
 split
 ·rfl
 ·rename_i h
  obtain⟨j,rfl⟩:∃ j,a=i*m+j:=⟨a-i*m,by omega⟩
  obtain⟨_,e2,e3⟩:=mat_idx hi (show j<m by omega)
  refine qlF_eq ?_
  rw[e2,e3,show i*m+j-i*m=j by omega]
theorem store_ok {n m:Nat} {G:Nat->Nat->Rat} (hn:n≤64) (hm:m≤64):FnOK Tryz.prog true 108 [.c (.int .i64 m),.c (rowsC n m G)] (.g (matL n m G)):=by
 have hnm:∀ i,i≤n->i*m≤4096:=fun i hi=>Nat.le_trans (Nat.mul_le_mul (show i≤64 by omega) hm) (by decide)
 refine fn_ok (E:=E1) E1_ok Tryz.func108 rfl mixed (by kernel_rfl) (by kernel_rfl) ?_
 conv=>whnf
 refine loop_ints (fun i:Nat=>gst [(4,.c (.p 0 0 3 0 0)),(5,.c (.p 1 0 3 0 0)),(12,.c (rowsC n m G)),(13,.c (.int .i64 n)),(14,.c (.int .i64 i))] [⟨24,3,1,boxF [.int .i64 0,.int .i64 0,.nil]⟩,⟨24,3,1,boxF [.int .i64 n,.int .i64 m,.gs 2 0]⟩,gqr (i*m) fun k=>ofR (G (k / m) (k%m))]) (fun i=>n-i) (fun i=>i≤n) 0 rfl ?_ (Nat.zero_le _) fun i hi=>?_
 ·refine Weak.gen [some 0,some 1,none] rfl ⟨boxK rfl rfl,⟨_,rfl,rfl,rfl,rfl,rfl,fun a b ha hb=>by
   obtain rfl:=Nat.lt_one_iff.1 ha
   match b,hb with
   | 0,_=>exact⟨_,rfl,rfl⟩
   | 1,_=>exact⟨_,rfl,rfl⟩
   | 2,_=>exact rfl⟩,Nat.zero_mul m,trivial⟩ ⟨⟨_,rfl,rfl,rfl⟩,⟨_,rfl,rfl,rfl⟩,.inl ⟨_,_,rfl,rfl,fun _ _ _ _=>rfl⟩,⟨_,rfl,rfl⟩,⟨_,rfl,rfl⟩,trivial⟩
 have e1:=hnm i hi
 conv=>whnf
 refine bcase (fun(h:decide ((i:Int)<n)=true)=>?_) fun(h:decide ((i:Int)<n)=false)=>?_
 ·have h:=of_decide_eq_true h
  have hin:i<n:=by omega
  conv=>whnf
  refine⟨by omega,by omega,?_⟩
  conv=>whnf
  refine⟨by show i*m+m≤16777216;omega,fun a b ha hb=>one_ql (c:=fun k=>ofR (G i k)) _ a b hb,?_⟩
  conv=>whnf
  refine⟨i64 (by omega) (by omega),?_⟩
  conv=>whnf
  exact⟨i+1,by omega,Weak.gen [some 0,some 1,some 2] rfl ⟨boxK rfl rfl,⟨_,rfl,rfl,rfl,rfl,rfl,fun a b ha hb=>by
   obtain rfl:=Nat.lt_one_iff.1 ha
   match b,hb with
   | 0,_=>exact⟨_,rfl,rfl⟩
   | 1,_=>exact⟨_,rfl,rfl⟩
   | 2,_=>exact⟨_,rfl,rfl,rfl⟩⟩,⟨_,rfl,rfl,rfl,(Nat.succ_mul i m).symm,rfl,fun a b ha hb=>regE (row_in hin (by have ha:a<(i+1)*m:=ha;rwa [Nat.succ_mul]at ha)) (ql_clos (c:=fun k=>ofR (G (k / m) (k%m))) a b)⟩,trivial⟩ ⟨⟨_,rfl,rfl,rfl⟩,⟨_,rfl,rfl,rfl⟩,.inl ⟨_,_,rfl,rfl,fun _ _ _ _=>rfl⟩,⟨_,rfl,rfl⟩,⟨_,rfl,rfl⟩,trivial⟩,by omega⟩
 ·have h:=of_decide_eq_false h
  have e:i=n:=by omega
  have g:Sub (.g [.int .i64 n,.int .i64 m,.row 4 (i*m) (qlF fun k=>ofR (G (k / m) (k%m)))]) (.g (matL n m G)):=by rw[e];exact Sub.refl _
  conv=>whnf
  refine⟨fun a b _ _=>ql_clos (c:=fun k=>ofR (G (k / m) (k%m))) a b,?_⟩
  conv=>whnf
  exact⟨rfl,g⟩
end Rf
end Go.Proofs.YtkmbnldginonbaaGreat
/- Matrices in the program: rows loaded. -/
namespace Go.Proofs.YtkmbnldginonbaaGreat
open Go.RowKit
namespace Rf
structure Grd (m : Nat) (G : Nat → Nat → Rat) (F C : Nat → Nat → Cell) : Prop where
 old:∀ i k,k<i->F i k=nql m (G k)
 new:∀ i k,i≤k->F i k = .nil
 old':∀ i k,k<i->C i k=nql m (G k)
 at':∀ i,C i i = .gs 2 0
 new':∀ i k,i<k->C i k = .nil
theorem grd (m:Nat) (G:Nat->Nat->Rat):∃ F C,Grd m G F C :=
 ⟨fun i k=>if k<i then nql m (G k)else .nil,fun i k=>if k<i then nql m (G k)else if k=i then .gs 2 0 else .nil,
  fun _ _ h=>if_pos h,fun _ _ h=>if_neg (by omega),fun _ _ h=>if_pos h,fun i=>by
   show(if i<i then _ else if i=i then _ else _)=_
   rw[if_neg (Nat.lt_irrefl i),if_pos rfl],fun i k h=>by
   show(if k<i then _ else if k=i then _ else _)=_
   rw[if_neg (by omega),if_neg (by omega)]⟩
abbrev gGrid (n:Nat) (f:Nat->Cell):Gx:=⟨22,1,n,fun k _=>f k⟩
theorem cell_keep {q:Nat} {bl:List Blk} {ks:List (Option Nat)} {m i:Nat} {G:Nat->Nat->Rat} {F C:Nat->Nat->Cell} (hg:Grd m G F C) (k:Nat) {g:Nat->Cell} (hgs:regC q bl ks (.gs 2 0) fun y=>Cell.gs 2 0=y) (e:g=C i):regC q bl ks (C i k) fun y=>g k=y:=by
 subst e
 rcases Nat.lt_trichotomy k i with c | c | c
 ·rw[hg.old' i k c];exact regE rfl rfl
 ·subst c;rw[hg.at'];exact hgs
 ·rw[hg.new' i k c];exact regE rfl rfl
end Rf
end Go.Proofs.YtkmbnldginonbaaGreat
/- Matrices in the program: from rows; the matrix of a multiplication. -/
namespace Go.Proofs.YtkmbnldginonbaaGreat
open Go.RowKit
namespace Rf
theorem fits_yes {n:Nat} (hn:n≤1024):FnOK Tryz.prog true 107 [.c (.int .i64 n)] (.c (.bool true)):=by
 refine fn_ok (E:=E1) E1_ok Tryz.func107 rfl mixed (by kernel_rfl) (by kernel_rfl) ?_
 conv=>whnf
 exact⟨rfl,sub_bool (decide_eq_true (by omega))⟩
end Rf
end Go.Proofs.YtkmbnldginonbaaGreat
/- Matrices in the program, whatever fractions their elements are: rows loaded. -/
namespace Go.Proofs.YtkmbnldginonbaaGreat
open Go.RowKit
namespace Rf
theorem loadR_ok {n m:Nat} {q:Nat->RawR} {G:Nat->Nat->Rat} (hn:n≤64) (hm:m≤64) (hq:∀ k,k<n*m->(q k).Fit KD) (hG:∀ i j,i<n->j<m->(q (i*m+j)).val=G i j):FnOK Tryz.prog true 111 [.g (rmat n m q)] (.c (rowsC n m G)):=by
 obtain⟨F,C,hg⟩:=grd m G
 have hnm:∀ i,i≤n->(i:Int)*(m:Int)=((i*m:Nat):Int)/\i*m≤4096:=fun i hi=>⟨by rw[Int.natCast_mul],Nat.le_trans (Nat.mul_le_mul (show i≤64 by omega) hm) (by decide)⟩
 have n1:∀ i j,i<n->j<m->FnOK Tryz.prog true 73 [.g (rr (q ((i:Int)*(m:Int)+(j:Int)).toNat))] (.g (nq (G i j))):=fun i j hi hj=>by
  have e1:=(hnm i (by omega)).1
  rw[show((i:Int)*(m:Int)+(j:Int)).toNat=i*m+j by rw[e1];omega,← hG i j hi hj]
  exact qnormal_ok (hq _ (mat_idx hi hj).1) (by decide)
 clear hq hG
 refine fn_okS (E:=E1) E1_ok Tryz.func111 rfl (by kernel_rfl) ?_
 refine swp_seq0 E1_ok mixed (by kernel_rfl) ?_
 conv=>whnf
 refine swp_seq0 E1_ok mixed (by kernel_rfl) ?_
 conv=>whnf
 refine⟨by omega,Int.le_refl _,by omega,by show(24:Int)*(n:Int)≤281474976710656;omega,?_⟩
 conv=>whnf
 refine swp_seqS ?_
 refine swp_seq0 E1_ok mixed (by kernel_rfl) ?_
 conv=>whnf
 refine swp_block ?_
 refine swp_loop (fun i:Nat=>gst [(1,.c (.p 0 0 3 0 0)),(3,.c (.gs 1 0)),(10,.c (.int .i64 n)),(11,.c (.int .i64 i))] [⟨24,3,1,boxF (rmat n m q)⟩,gGrid n (F i)]) (fun i=>n-i) (fun i=>i≤n) 0 ?_ (Nat.zero_le _) fun i hi=>?_
 ·refine Weak.gen [some 0,some 1] rfl ⟨boxK rfl rfl,⟨_,rfl,rfl,rfl,by show Int.toNat n=n;omega,rfl,fun k j hk hj=>?_⟩,trivial⟩ ⟨⟨_,rfl,rfl,rfl⟩,⟨_,rfl,rfl,rfl⟩,⟨_,rfl,by show(Int.toNat n:Int)=n;omega⟩,⟨_,rfl,rfl⟩,trivial⟩
  obtain rfl:=Nat.lt_one_iff.1 hj
  show regC 0 _ _ (F 0 k) _
  rw[hg.new 0 k (Nat.zero_le k)]
  exact⟨rfl,rfl⟩
 have n1:=n1 i
 obtain⟨e1,e2⟩:=hnm i hi
 have e3:=fun(a:i<n) (j:Nat) (b:j<m)=>(mat_idx a b).1
 refine swp_seq0 E1_ok mixed (by kernel_rfl) ?_
 conv=>whnf
 refine swp_seq0 E1_ok mixed (by kernel_rfl) ?_
 conv=>whnf
 refine bcase (fun(h:decide ((i:Int)<n)=true)=>?_) fun(h:decide ((i:Int)<n)=false)=>?_
 ·have h:=of_decide_eq_true h
  conv=>whnf
  refine swp_seqS (swp_block ?_)
  refine swp_seq0 E1_ok mixed (by kernel_rfl) ?_
  conv=>whnf
  refine swp_seq E1_ok mixed (by kernel_rfl) ?_
  conv=>whnf
  refine⟨by omega,Int.le_refl _,by omega,by show(64:Int)*(m:Int)≤281474976710656;omega,?_⟩
  conv=>whnf
  refine⟨by omega,by show(i:Int)<(n:Int);omega,?_⟩
  conv=>whnf
  refine⟨gst [(1,.c (.p 0 0 3 0 0)),(3,.c (.gs 1 0)),(4,.c (.int .i64 i)),(10,.c (.int .i64 n)),(11,.c (.int .i64 i))] [⟨24,3,1,boxF (rmat n m q)⟩,gGrid n (C i),gqr m (rmid (G i) 0)],Weak.gen [some 0,some 1,some 2] rfl ⟨boxK rfl rfl,⟨_,rfl,rfl,rfl,rfl,rfl,fun k j hk hj=>?_⟩,⟨_,rfl,rfl,rfl,by show Int.toNat m=m;omega,rfl,fun k j hk hj=>?_⟩,trivial⟩ ⟨⟨_,rfl,rfl,rfl⟩,⟨_,rfl,rfl,rfl⟩,⟨_,rfl,rfl⟩,⟨_,rfl,rfl⟩,⟨_,rfl,rfl⟩,trivial⟩,?_⟩
  ·obtain rfl:=Nat.lt_one_iff.1 hj
   show regC 0 _ _ (C i k) fun z=>updF (fun k _=>F i k) i 0 [.gs 2 0] k 0=z
   rcases Nat.lt_trichotomy k i with c | c | c
   ·rw[hg.old' i k c,show updF (fun k _=>F i k) i 0 [.gs 2 0] k 0=nql m (G k)from(if_neg (fun h=>by have:=h.1;omega)).trans (hg.old i k c)]
    exact regE rfl rfl
   ·subst c
    rw[hg.at',show updF (fun j _=>F k j) k 0 [.gs 2 0] k 0 = .gs 2 0 from if_pos ⟨rfl,Nat.le_refl 0,by decide⟩]
    exact⟨_,rfl,rfl,rfl⟩
   ·rw[hg.new' i k c,show updF (fun k _=>F i k) i 0 [.gs 2 0] k 0 = .nil from(if_neg (fun h=>by have:=h.1;omega)).trans (hg.new i k (by omega))]
    exact⟨rfl,rfl⟩
  ·show regC 0 _ _ (qlF (rmid (G i) 0) k j) _
   rw[rmid_zero]
   match j,hj with
   | 0,_=>exact⟨_,rfl,rfl⟩
   | 1,_=>exact .inr (.inl ⟨rfl,rfl⟩)
   | 2,_=>exact⟨_,rfl,rfl⟩
   | 3,_=>exact .inr (.inl ⟨rfl,rfl⟩)
  have hCi:C i (i:Int).toNat = .gs 2 0:=hg.at' i
  refine swp_seq E1_ok mixed (by kernel_rfl) ?_
  conv=>whnf
  refine⟨by omega,by show(i:Int)<(n:Int);omega,?_⟩
  conv=>whnf
  conv =>
   pattern lenA _ _
   change lenA _ (V.c (C i (i:Int).toNat))
   rw[hCi]
  conv=>whnf
  refine⟨gst [(1,.c (.p 0 0 3 0 0)),(3,.c (.gs 1 0)),(4,.c (.int .i64 i)),(10,.c (.int .i64 n)),(11,.c (.int .i64 i)),(24,.c (.int .i64 m)),(25,.c (.int .i64 0))] [⟨24,3,1,boxF (rmat n m q)⟩,gGrid n (C i),gqr m (rmid (G i) 0)],Weak.gen [some 0,some 1,some 2] rfl ⟨boxK rfl rfl,⟨_,rfl,rfl,rfl,rfl,rfl,fun k j hk hj=>cell_keep hg k ⟨_,rfl,rfl,rfl⟩ rfl⟩,⟨_,rfl,rfl,rfl,rfl,rfl,fun k j hk hj=>regE rfl (ql_clos (c:=rmid (G i) 0) k j)⟩,trivial⟩ ⟨⟨_,rfl,rfl,rfl⟩,⟨_,rfl,rfl,rfl⟩,⟨_,rfl,rfl⟩,⟨_,rfl,rfl⟩,⟨_,rfl,rfl⟩,⟨_,rfl,rfl⟩,⟨_,rfl,rfl⟩,trivial⟩,?_⟩
  refine swp_of E1_ok mixed (by kernel_rfl) ?_
  conv=>whnf
  refine loop_ints (fun j:Nat=>gst [(1,.c (.p 0 0 3 0 0)),(3,.c (.gs 1 0)),(4,.c (.int .i64 i)),(10,.c (.int .i64 n)),(11,.c (.int .i64 i)),(24,.c (.int .i64 m)),(25,.c (.int .i64 j))] [⟨24,3,1,boxF (rmat n m q)⟩,gGrid n (C i),gqr m (rmid (G i) j)]) (fun j=>m-j) (fun j=>j≤m) 0 rfl (Weak.gen [some 0,some 1,some 2] rfl ⟨boxK rfl rfl,⟨_,rfl,rfl,rfl,rfl,rfl,fun k j hk hj=>cell_keep hg k ⟨_,rfl,rfl,rfl⟩ rfl⟩,⟨_,rfl,rfl,rfl,rfl,rfl,fun k j hk hj=>regE rfl (ql_clos (c:=rmid (G i) 0) k j)⟩,trivial⟩ ⟨⟨_,rfl,rfl,rfl⟩,⟨_,rfl,rfl,rfl⟩,⟨_,rfl,rfl⟩,⟨_,rfl,rfl⟩,⟨_,rfl,rfl⟩,⟨_,rfl,rfl⟩,⟨_,rfl,rfl⟩,trivial⟩) (Nat.zero_le _) fun j hj=>?_
  have n1:=fun a=>n1 j (by omega) a
  have e3:=fun a=>e3 (by omega) j a
  conv=>whnf
  refine bcase (fun(h1:decide ((j:Int)<m)=true)=>?_) fun(h1:decide ((j:Int)<m)=false)=>?_
  ·have h1:=of_decide_eq_true h1
   have n1:=n1 (by omega)
   have e3:=e3 (by omega)
   conv=>whnf
   refine⟨by omega,by show(i:Int)<(n:Int);omega,?_⟩
   conv=>whnf
   refine⟨i64 (by rw[e1];omega) (by rw[e1];omega),?_⟩
   conv=>whnf
   refine⟨i64 (by rw[e1];omega) (by rw[e1];omega),?_⟩
   conv=>whnf
   refine⟨by rw[e1];omega,by show(i:Int)*(m:Int)+(j:Int)<((n*m:Nat):Int);rw[e1];omega,?_⟩
   conv=>whnf
   refine⟨_,n1,?_⟩
   conv=>whnf
   refine⟨by omega,?_⟩
   conv =>
    pattern St.ev _ (Operand.tmp 31)
    change V.c (C i (i:Int).toNat)
    rw[hCi]
   conv=>whnf
   refine⟨by show(j:Int)<(m:Int);omega,?_⟩
   conv=>whnf
   refine⟨i64 (by omega) (by omega),?_⟩
   conv=>whnf
   refine⟨j+1,by omega,Weak.gen [some 0,some 1,some 2] rfl ⟨boxK rfl rfl,⟨_,rfl,rfl,rfl,rfl,rfl,fun k j hk hj=>cell_keep hg k ⟨_,rfl,rfl,rfl⟩ rfl⟩,⟨_,rfl,rfl,rfl,rfl,rfl,fun a b ha hb=>regE ?_ (ql_clos (c:=rmid (G i) (j+1)) a b)⟩,trivial⟩ ⟨⟨_,rfl,rfl,rfl⟩,⟨_,rfl,rfl,rfl⟩,⟨_,rfl,rfl⟩,⟨_,rfl,rfl⟩,⟨_,rfl,rfl⟩,⟨_,rfl,rfl⟩,⟨_,rfl,rfl⟩,trivial⟩,by omega⟩
   exact updG (sz:=4) (g:=fun k=>rr (rmid (G i) j k)) (g':=fun k=>rr (rmid (G i) (j+1) k)) (l:=nq (G i j)) rfl hb (rmid_next (G i) j a)
  ·have h1:=of_decide_eq_false h1
   have ej:j=m:=by omega
   conv=>whnf
   refine swp_of E1_ok mixed (by kernel_rfl) ?_
   conv=>whnf
   refine⟨i64 (by omega) (by omega),?_⟩
   conv=>whnf
   refine⟨i+1,by omega,Weak.gen [some 0,some 1] rfl ⟨boxK rfl rfl,⟨_,rfl,rfl,rfl,rfl,rfl,fun k l hk hl=>?_⟩,trivial⟩ ⟨⟨_,rfl,rfl,rfl⟩,⟨_,rfl,rfl,rfl⟩,⟨_,rfl,rfl⟩,⟨_,rfl,rfl⟩,trivial⟩,by omega⟩
   obtain rfl:=Nat.lt_one_iff.1 hl
   show regC 0 _ _ (F (i+1) k) fun z=>C i k=z
   rcases Nat.lt_trichotomy k i with c | c | c
   ·rw[hg.old (i+1) k (by omega),hg.old' i k c]
    exact regE rfl rfl
   ·subst c
    rw[hg.old (k+1) k (by omega),hg.at']
    exact .inr (.inr ⟨2,_,rfl,rfl,rfl,rfl,Nat.zero_le _,rfl,rfl,fun a b ha hb=>⟨qlF_eq (c:=rmid (G k) j) (e:=fun a=>ofR (G k a)) (i:=a) (k:=a) (rmid_all (by omega)),ql_clos (c:=fun a=>ofR (G k a)) a b⟩⟩)
   ·rw[hg.new (i+1) k (by omega),hg.new' i k c]
    exact⟨rfl,rfl⟩
 ·have h:=of_decide_eq_false h
  have e:i=n:=by omega
  conv=>whnf
  have g:Sub (.c (.row 1 n fun k _=>F i k)) (.c (rowsC n m G)):=subRowG rfl fun k j hk hj=>hg.old i k (by omega)
  refine swp_of E1_ok mixed (by kernel_rfl) ?_
  conv=>whnf
  refine⟨fun a b ha hb=>by show(F i a).clos=true;rw[hg.old i a (Nat.lt_of_lt_of_le ha (show n≤i by omega))];rfl,?_⟩
  conv=>whnf
  exact⟨rfl,g⟩
theorem loadR_s {n m:Nat} {q:Nat->RawR} {G:Nat->Nat->Rat} (hn:n≤64) (hm:m≤64) (hq:∀ k,k<n*m->(q k).Fit KD) (hG:∀ i j,i<n->j<m->(q (i*m+j)).val=G i j):FnS Tryz.prog true 111 [] [.g (rmat n m q)] (.c (.gs 0 0)) [gb (gGrid n fun i=>nql m (G i))]:=by
 obtain⟨F,C,hg⟩:=grd m G
 have hnm:∀ i,i≤n->(i:Int)*(m:Int)=((i*m:Nat):Int)/\i*m≤4096:=fun i hi=>⟨by rw[Int.natCast_mul],Nat.le_trans (Nat.mul_le_mul (show i≤64 by omega) hm) (by decide)⟩
 have n1:∀ i j,i<n->j<m->FnOK Tryz.prog true 73 [.g (rr (q ((i:Int)*(m:Int)+(j:Int)).toNat))] (.g (nq (G i j))):=fun i j hi hj=>by
  have e1:=(hnm i (by omega)).1
  rw[show((i:Int)*(m:Int)+(j:Int)).toNat=i*m+j by rw[e1];omega,← hG i j hi hj]
  exact qnormal_ok (hq _ (mat_idx hi hj).1) (by decide)
 clear hq hG
 refine fns_okS (E:=E1) E1_ok Tryz.func111 rfl (by kernel_rfl) rfl ?_
 refine swp_seq0 E1_ok mixed (by kernel_rfl) ?_
 conv=>whnf
 refine swp_seq0 E1_ok mixed (by kernel_rfl) ?_
 conv=>whnf
 refine⟨by omega,Int.le_refl _,by omega,by show(24:Int)*(n:Int)≤281474976710656;omega,?_⟩
 conv=>whnf
 refine swp_seqS ?_
 refine swp_seq0 E1_ok mixed (by kernel_rfl) ?_
 conv=>whnf
 refine swp_block ?_
 refine swp_loop (fun i:Nat=>gst [(1,.c (.p 0 0 3 0 0)),(3,.c (.gs 1 0)),(10,.c (.int .i64 n)),(11,.c (.int .i64 i))] [⟨24,3,1,boxF (rmat n m q)⟩,gGrid n (F i)]) (fun i=>n-i) (fun i=>i≤n) 0 ?_ (Nat.zero_le _) fun i hi=>?_
 ·refine Weak.gen [some 0,some 1] rfl ⟨boxK rfl rfl,⟨_,rfl,rfl,rfl,by show Int.toNat n=n;omega,rfl,fun k j hk hj=>?_⟩,trivial⟩ ⟨⟨_,rfl,rfl,rfl⟩,⟨_,rfl,rfl,rfl⟩,⟨_,rfl,by show(Int.toNat n:Int)=n;omega⟩,⟨_,rfl,rfl⟩,trivial⟩
  obtain rfl:=Nat.lt_one_iff.1 hj
  show regC 0 _ _ (F 0 k) _
  rw[hg.new 0 k (Nat.zero_le k)]
  exact⟨rfl,rfl⟩
 have n1:=n1 i
 obtain⟨e1,e2⟩:=hnm i hi
 have e3:=fun(a:i<n) (j:Nat) (b:j<m)=>(mat_idx a b).1
 refine swp_seq0 E1_ok mixed (by kernel_rfl) ?_
 conv=>whnf
 refine swp_seq0 E1_ok mixed (by kernel_rfl) ?_
 conv=>whnf
 refine bcase (fun(h:decide ((i:Int)<n)=true)=>?_) fun(h:decide ((i:Int)<n)=false)=>?_
 ·have h:=of_decide_eq_true h
  conv=>whnf
  refine swp_seqS (swp_block ?_)
  refine swp_seq0 E1_ok mixed (by kernel_rfl) ?_
  conv=>whnf
  refine swp_seq E1_ok mixed (by kernel_rfl) ?_
  conv=>whnf
  refine⟨by omega,Int.le_refl _,by omega,by show(64:Int)*(m:Int)≤281474976710656;omega,?_⟩
  conv=>whnf
  refine⟨by omega,by show(i:Int)<(n:Int);omega,?_⟩
  conv=>whnf
  refine⟨gst [(1,.c (.p 0 0 3 0 0)),(3,.c (.gs 1 0)),(4,.c (.int .i64 i)),(10,.c (.int .i64 n)),(11,.c (.int .i64 i))] [⟨24,3,1,boxF (rmat n m q)⟩,gGrid n (C i),gqr m (rmid (G i) 0)],Weak.gen [some 0,some 1,some 2] rfl ⟨boxK rfl rfl,⟨_,rfl,rfl,rfl,rfl,rfl,fun k j hk hj=>?_⟩,⟨_,rfl,rfl,rfl,by show Int.toNat m=m;omega,rfl,fun k j hk hj=>?_⟩,trivial⟩ ⟨⟨_,rfl,rfl,rfl⟩,⟨_,rfl,rfl,rfl⟩,⟨_,rfl,rfl⟩,⟨_,rfl,rfl⟩,⟨_,rfl,rfl⟩,trivial⟩,?_⟩
  ·obtain rfl:=Nat.lt_one_iff.1 hj
   show regC 0 _ _ (C i k) fun z=>updF (fun k _=>F i k) i 0 [.gs 2 0] k 0=z
   rcases Nat.lt_trichotomy k i with c | c | c
   ·rw[hg.old' i k c,show updF (fun k _=>F i k) i 0 [.gs 2 0] k 0=nql m (G k)from(if_neg (fun h=>by have:=h.1;omega)).trans (hg.old i k c)]
    exact regE rfl rfl
   ·subst c
    rw[hg.at',show updF (fun j _=>F k j) k 0 [.gs 2 0] k 0 = .gs 2 0 from if_pos ⟨rfl,Nat.le_refl 0,by decide⟩]
    exact⟨_,rfl,rfl,rfl⟩
   ·rw[hg.new' i k c,show updF (fun k _=>F i k) i 0 [.gs 2 0] k 0 = .nil from(if_neg (fun h=>by have:=h.1;omega)).trans (hg.new i k (by omega))]
    exact⟨rfl,rfl⟩
  ·show regC 0 _ _ (qlF (rmid (G i) 0) k j) _
   rw[rmid_zero]
   match j,hj with
   | 0,_=>exact⟨_,rfl,rfl⟩
   | 1,_=>exact .inr (.inl ⟨rfl,rfl⟩)
   | 2,_=>exact⟨_,rfl,rfl⟩
   | 3,_=>exact .inr (.inl ⟨rfl,rfl⟩)
  have hCi:C i (i:Int).toNat = .gs 2 0:=hg.at' i
  refine swp_seq E1_ok mixed (by kernel_rfl) ?_
  conv=>whnf
  refine⟨by omega,by show(i:Int)<(n:Int);omega,?_⟩
  conv=>whnf
  conv =>
   pattern lenA _ _
   change lenA _ (V.c (C i (i:Int).toNat))
   rw[hCi]
  conv=>whnf
  refine⟨gst [(1,.c (.p 0 0 3 0 0)),(3,.c (.gs 1 0)),(4,.c (.int .i64 i)),(10,.c (.int .i64 n)),(11,.c (.int .i64 i)),(24,.c (.int .i64 m)),(25,.c (.int .i64 0))] [⟨24,3,1,boxF (rmat n m q)⟩,gGrid n (C i),gqr m (rmid (G i) 0)],Weak.gen [some 0,some 1,some 2] rfl ⟨boxK rfl rfl,⟨_,rfl,rfl,rfl,rfl,rfl,fun k j hk hj=>cell_keep hg k ⟨_,rfl,rfl,rfl⟩ rfl⟩,⟨_,rfl,rfl,rfl,rfl,rfl,fun k j hk hj=>regE rfl (ql_clos (c:=rmid (G i) 0) k j)⟩,trivial⟩ ⟨⟨_,rfl,rfl,rfl⟩,⟨_,rfl,rfl,rfl⟩,⟨_,rfl,rfl⟩,⟨_,rfl,rfl⟩,⟨_,rfl,rfl⟩,⟨_,rfl,rfl⟩,⟨_,rfl,rfl⟩,trivial⟩,?_⟩
  refine swp_of E1_ok mixed (by kernel_rfl) ?_
  conv=>whnf
  refine loop_ints (fun j:Nat=>gst [(1,.c (.p 0 0 3 0 0)),(3,.c (.gs 1 0)),(4,.c (.int .i64 i)),(10,.c (.int .i64 n)),(11,.c (.int .i64 i)),(24,.c (.int .i64 m)),(25,.c (.int .i64 j))] [⟨24,3,1,boxF (rmat n m q)⟩,gGrid n (C i),gqr m (rmid (G i) j)]) (fun j=>m-j) (fun j=>j≤m) 0 rfl (Weak.gen [some 0,some 1,some 2] rfl ⟨boxK rfl rfl,⟨_,rfl,rfl,rfl,rfl,rfl,fun k j hk hj=>cell_keep hg k ⟨_,rfl,rfl,rfl⟩ rfl⟩,⟨_,rfl,rfl,rfl,rfl,rfl,fun k j hk hj=>regE rfl (ql_clos (c:=rmid (G i) 0) k j)⟩,trivial⟩ ⟨⟨_,rfl,rfl,rfl⟩,⟨_,rfl,rfl,rfl⟩,⟨_,rfl,rfl⟩,⟨_,rfl,rfl⟩,⟨_,rfl,rfl⟩,⟨_,rfl,rfl⟩,⟨_,rfl,rfl⟩,trivial⟩) (Nat.zero_le _) fun j hj=>?_
  have n1:=fun a=>n1 j (by omega) a
  have e3:=fun a=>e3 (by omega) j a
  conv=>whnf
  refine bcase (fun(h1:decide ((j:Int)<m)=true)=>?_) fun(h1:decide ((j:Int)<m)=false)=>?_
  ·have h1:=of_decide_eq_true h1
   have n1:=n1 (by omega)
   have e3:=e3 (by omega)
   conv=>whnf
   refine⟨by omega,by show(i:Int)<(n:Int);omega,?_⟩
   conv=>whnf
   refine⟨i64 (by rw[e1];omega) (by rw[e1];omega),?_⟩
   conv=>whnf
   refine⟨i64 (by rw[e1];omega) (by rw[e1];omega),?_⟩
   conv=>whnf
   refine⟨by rw[e1];omega,by show(i:Int)*(m:Int)+(j:Int)<((n*m:Nat):Int);rw[e1];omega,?_⟩
   conv=>whnf
   refine⟨_,n1,?_⟩
   conv=>whnf
   refine⟨by omega,?_⟩
   conv =>
    pattern St.ev _ (Operand.tmp 31)
    change V.c (C i (i:Int).toNat)
    rw[hCi]
   conv=>whnf
   refine⟨by show(j:Int)<(m:Int);omega,?_⟩
   conv=>whnf
   refine⟨i64 (by omega) (by omega),?_⟩
   conv=>whnf
   refine⟨j+1,by omega,Weak.gen [some 0,some 1,some 2] rfl ⟨boxK rfl rfl,⟨_,rfl,rfl,rfl,rfl,rfl,fun k j hk hj=>cell_keep hg k ⟨_,rfl,rfl,rfl⟩ rfl⟩,⟨_,rfl,rfl,rfl,rfl,rfl,fun a b ha hb=>regE ?_ (ql_clos (c:=rmid (G i) (j+1)) a b)⟩,trivial⟩ ⟨⟨_,rfl,rfl,rfl⟩,⟨_,rfl,rfl,rfl⟩,⟨_,rfl,rfl⟩,⟨_,rfl,rfl⟩,⟨_,rfl,rfl⟩,⟨_,rfl,rfl⟩,⟨_,rfl,rfl⟩,trivial⟩,by omega⟩
   exact updG (sz:=4) (g:=fun k=>rr (rmid (G i) j k)) (g':=fun k=>rr (rmid (G i) (j+1) k)) (l:=nq (G i j)) rfl hb (rmid_next (G i) j a)
  ·have h1:=of_decide_eq_false h1
   have ej:j=m:=by omega
   conv=>whnf
   refine swp_of E1_ok mixed (by kernel_rfl) ?_
   conv=>whnf
   refine⟨i64 (by omega) (by omega),?_⟩
   conv=>whnf
   refine⟨i+1,by omega,Weak.gen [some 0,some 1] rfl ⟨boxK rfl rfl,⟨_,rfl,rfl,rfl,rfl,rfl,fun k l hk hl=>?_⟩,trivial⟩ ⟨⟨_,rfl,rfl,rfl⟩,⟨_,rfl,rfl,rfl⟩,⟨_,rfl,rfl⟩,⟨_,rfl,rfl⟩,trivial⟩,by omega⟩
   obtain rfl:=Nat.lt_one_iff.1 hl
   show regC 0 _ _ (F (i+1) k) fun z=>C i k=z
   rcases Nat.lt_trichotomy k i with c | c | c
   ·rw[hg.old (i+1) k (by omega),hg.old' i k c]
    exact regE rfl rfl
   ·subst c
    rw[hg.old (k+1) k (by omega),hg.at']
    exact .inr (.inr ⟨2,_,rfl,rfl,rfl,rfl,Nat.zero_le _,rfl,rfl,fun a b ha hb=>⟨qlF_eq (c:=rmid (G k) j) (e:=fun a=>ofR (G k a)) (i:=a) (k:=a) (rmid_all (by omega)),ql_clos (c:=fun a=>ofR (G k a)) a b⟩⟩)
   ·rw[hg.new (i+1) k (by omega),hg.new' i k c]
    exact⟨rfl,rfl⟩
 ·have h:=of_decide_eq_false h
  have e:i=n:=by omega
  conv=>whnf
  refine swp_of E1_ok mixed (by kernel_rfl) ?_
  conv=>whnf
  refine(show Weak 0 ⟨_,_⟩ (gst [(0,.c (.gs 0 0))] [gGrid n fun i=>nql m (G i)])from Weak.gen [some 1] rfl ⟨⟨_,rfl,rfl,rfl,rfl,rfl,fun k j hk hj=>?_⟩,trivial⟩ ⟨⟨_,rfl,rfl,rfl⟩,trivial⟩)
  show regC 0 _ _ (nql m (G k)) fun z=>F i k=z
  rw[hg.old i k (by have hk:k<n:=hk;omega)]
  exact regE rfl rfl
end Rf
end Go.Proofs.YtkmbnldginonbaaGreat
/- Matrices in the program, whatever fractions their elements are: products. -/
namespace Go.Proofs.YtkmbnldginonbaaGreat
open Go.RowKit
namespace Rf
theorem valid_yes {n m:Nat} {q:Nat->RawR} (hn:n≤1024) (hm:m≤1024):FnOK Tryz.prog true 72 [.g (rmat n m q)] (.c (.bool true)):=by
 have h:=valid_ok (r:=n) (c:=m) (len:=n*m) (f:=qlF q)
 rwa [decide_eq_true (⟨⟨by omega,by omega⟩,⟨by omega,by omega⟩,by rw[Int.natCast_mul]⟩:((0:Int)≤n/\(n:Int)≤1024)/\((0:Int)≤m/\(m:Int)≤1024)/\((n*m:Nat):Int)=(n:Int)*m)]at h
theorem rowSum_su (X : Nat → Rat) (G : Nat → Nat → Rat) : ∀ i j, rowSum X G i j = sumR X G i j
 | 0,_=>rfl
 | i+1,j=>by
  show rowSum X G i j+X i*G i j=Q.su (fun a=>X a*G a j) i+X i*G i j
  rw[rowSum_su X G i j]
abbrev mid2L (m k i r:Nat):Nat:=if r<i then m else k
abbrev mid2F (P A:Nat->Nat->Rat) (i r:Nat):Nat->Rat:=if r<i then P r else A r
theorem if_next {α:Type} {i r:Nat} (e:r≠i) (x y:α):(if r<i+1 then x else y)=if r<i then x else y:=by
 by_cases c:r<i
 ·rw[if_pos c,if_pos (by omega)]
 ·rw[if_neg c,if_neg (by omega)]
theorem mid2_at {q:Nat} {bl:List Blk} {ks:List (Option Nat)} {m k i:Nat} {P A:Nat->Nat->Rat} {F:Nat->Nat->Cell} (hF:∀ r,F r 0=nql (mid2L m k i r) (mid2F P A i r)) (r b:Nat) (hb:b<1):regC q bl ks (nql (mid2L m k (i+1) r) (mid2F P A (i+1) r)) fun z=>updF F i 0 [nql m (P i)] r b=z:=by
 obtain rfl:=Nat.lt_one_iff.1 hb
 by_cases e:r=i
 ·subst e
  rw[show updF F r 0 [nql m (P r)] r 0=nql m (P r)from if_pos ⟨rfl,Nat.le_refl 0,by simp⟩,show mid2L m k (r+1) r=m from if_pos (Nat.lt_succ_self r),show mid2F P A (r+1) r=P r from if_pos (Nat.lt_succ_self r)]
  exact regE rfl rfl
 ·rw[show updF F i 0 [nql m (P i)] r 0=F r 0 from if_neg fun h=>e h.1,hF]
  rw[show mid2L m k (i+1) r=mid2L m k i r from if_next e _ _,show mid2F P A (i+1) r=mid2F P A i r from if_next e _ _]
  exact regE rfl rfl
theorem mulR_ok {n k m:Nat} {q p:Nat->RawR} {A B:Nat->Nat->Rat} (hn:n≤64) (hk:k≤64) (hm:m≤64) (hq:∀ a,a<n*k->(q a).Fit KD) (hqv:∀ i j,i<n->j<k->(q (i*k+j)).val=A i j) (hp:∀ a,a<k*m->(p a).Fit KD) (hpv:∀ i j,i<k->j<m->(p (i*m+j)).val=B i j) (hA:∀ i j,i<n->j<k->qlen (A i j)≤KD) (hB:∀ i j,i<k->j<m->qlen (B i j)≤KD) (hS:∀ r i j,r<n->i≤k->j<m->qlen (sumR (A r) B i j)≤KD):FnOK Tryz.prog true 78 [.g (rmat n k q),.g (rmat k m p)] (.t2 (.g (matL n m fun r=>sumR (A r) B k)) (.c (.int .i64 0))):=by
 have v1:=valid_yes (n:=n) (m:=k) (q:=q) (by omega) (by omega)
 have v2:=valid_yes (n:=k) (m:=m) (q:=p) (by omega) (by omega)
 have l1:=loadR_s hn hk hq hqv
 have l2:=loadR_s hk hm hp hpv
 have hQ:KD≤QS:=by decide
 have t0:∀ i,i<n->FnOK Tryz.prog true 120 [.c (nql k (A i)),.c (rowsC k m B),.c (.int .i64 m)] (.c (nql m (sumR (A i) B k))):=fun i hi=>by
  have h:=times_ok (n:=k) (m:=m) (X:=A i) (G:=B) (by omega) (by omega) (fun j hj=>Nat.le_trans (hA i j hi hj) hQ) (fun a b ha hb=>Nat.le_trans (hB a b ha hb) hQ) fun a b ha hb=>by
   rw[rowSum_su]
   exact Nat.le_trans (hS i a b hi (by omega) hb) hQ
  have e:rowSum (A i) B k=sumR (A i) B k:=funext fun j=>rowSum_su (A i) B k j
  rw[e]at h
  exact h
 have s0:=store_ok (n:=n) (m:=m) (G:=fun r=>sumR (A r) B k) hn hm
 obtain⟨P,hP⟩:∃ P:Nat->Nat->Rat,P=fun r=>sumR (A r) B k:=⟨_,rfl⟩
 rw[← hP]at s0 ⊢
 have t0:∀ i,i<n->FnOK Tryz.prog true 120 [.c (nql (mid2L m k i (i:Int).toNat) (mid2F P A i (i:Int).toNat)),.c (rowsC k m B),.c (.int .i64 m)] (.c (nql m (P i))):=fun i hi=>by
  rw[show(i:Int).toNat=i by omega,show mid2L m k i i=k from if_neg (Nat.lt_irrefl i),show mid2F P A i i=A i from if_neg (Nat.lt_irrefl i),hP]
  exact t0 i hi
 have s0:∀ i,i=n->FnOK Tryz.prog true 108 [.c (.int .i64 m),.c (.row 1 n fun r _=>nql (mid2L m k i r) (mid2F P A i r))] (.g (matL n m P)):=fun i e=>by
  refine arg_ok s0 fun D w vs h=>?_
  match vs,h with
  | [a,b],⟨h1,h2,_⟩ =>
   refine⟨h1,subRowG rfl (fun r j hr hj=>?_) D w b h2,trivial⟩
   show nql (mid2L m k i r) (mid2F P A i r)=nql m (P r)
   rw[show mid2L m k i r=m from if_pos (by omega),show mid2F P A i r=P r from if_pos (by omega)]
 clear hq hqv hp hpv hA hB hS hP
 refine fn_ok (E:=E1) E1_ok Tryz.func78 rfl mixed (by kernel_rfl) (by kernel_rfl) ?_
 conv=>whnf
 refine⟨_,v1,?_⟩
 conv=>whnf
 refine⟨_,v2,?_⟩
 conv=>whnf
 refine bneg (show(!decide ((k:Int)=k))=false by simp) ?_
 conv=>whnf
 refine .inl ⟨_,_,l1,rfl,fun _ _ _ _ _=>rfl,rfl,rfl,?_⟩
 conv=>whnf
 refine .inl ⟨_,_,l2,rfl,fun _ _ _ _ _=>rfl,rfl,rfl,?_⟩
 conv=>whnf
 refine loop_ints (fun i:Nat=>gst [(3,.c (.p 0 0 3 0 0)),(4,.c (.p 1 0 3 0 0)),(6,.c (.gs 2 0)),(7,.c (rowsC k m B)),(30,.c (.int .i64 n)),(31,.c (.int .i64 i))] [⟨24,3,1,boxF (rmat k m p)⟩,⟨24,3,1,boxF [.int .i64 0,.int .i64 0,.nil]⟩,⟨22,1,n,fun r _=>nql (mid2L m k i r) (mid2F P A i r)⟩]) (fun i=>n-i) (fun i=>i≤n) 0 rfl ?_ (Nat.zero_le _) fun i hi=>?_
 ·exact Weak.gen [some 1,some 2,some 4] rfl ⟨boxK rfl rfl,boxK rfl rfl,⟨_,rfl,rfl,rfl,rfl,rfl,fun a b ha hb=>regE rfl rfl⟩,trivial⟩ ⟨⟨_,rfl,rfl,rfl⟩,⟨_,rfl,rfl,rfl⟩,⟨_,rfl,rfl,rfl⟩,.inr (.inr ⟨6,_,rfl,rfl,rfl,rfl,Nat.zero_le _,rfl,rfl,fun _ _ _ _=>⟨rfl,rfl⟩⟩),⟨_,rfl,rfl⟩,⟨_,rfl,rfl⟩,trivial⟩
 have t0:=t0 i
 have s0:=s0 i
 conv=>whnf
 refine bcase (fun(h:decide ((i:Int)<n)=true)=>?_) fun(h:decide ((i:Int)<n)=false)=>?_
 ·have h:=of_decide_eq_true h
  have t0:=t0 (by omega)
  conv=>whnf
  refine⟨by omega,by omega,?_⟩
  conv=>whnf
  refine⟨_,t0,?_⟩
  conv=>whnf
  refine⟨by omega,by omega,?_⟩
  conv=>whnf
  refine⟨i64 (by omega) (by omega),?_⟩
  conv=>whnf
  exact⟨i+1,by omega,Weak.gen [some 0,some 1,some 2] rfl ⟨boxK rfl rfl,boxK rfl rfl,⟨_,rfl,rfl,rfl,rfl,rfl,fun a b ha hb=>mid2_at (fun _=>rfl) a b hb⟩,trivial⟩ ⟨⟨_,rfl,rfl,rfl⟩,⟨_,rfl,rfl,rfl⟩,⟨_,rfl,rfl,rfl⟩,.inl ⟨_,_,rfl,rfl,fun _ _ _ _=>rfl⟩,⟨_,rfl,rfl⟩,⟨_,rfl,rfl⟩,trivial⟩,by omega⟩
 ·have h:=of_decide_eq_false h
  have s0:=s0 (by omega)
  conv=>whnf
  refine⟨fun _ _ _ _=>rfl,?_⟩
  conv=>whnf
  refine⟨_,s0,?_⟩
  conv=>whnf
  exact⟨rfl,Sub.refl _⟩
end Rf
end Go.Proofs.YtkmbnldginonbaaGreat
/- Matrices in the program, whatever fractions their elements are: sums, multiples. -/
namespace Go.Proofs.YtkmbnldginonbaaGreat
open Go.RowKit
namespace Rf
theorem reg_box3 {q:Nat} {bl:List Blk} {ks:List (Option Nat)} {l0 l1 l2:Cell} {F:Nat->Nat->Cell} (h0:regC q bl ks l0 fun y=>F 0 0=y) (h1:regC q bl ks l1 fun y=>F 0 1=y) (h2:regC q bl ks l2 fun y=>F 0 2=y) (a b:Nat) (ha:a<1) (hb:b<3):regC q bl ks (boxF [l0,l1,l2] a b) fun y=>F a b=y:=by
 obtain rfl:=Nat.lt_one_iff.1 ha
 match b,hb with
 | 0,_=>exact h0
 | 1,_=>exact h1
 | 2,_=>exact h2
theorem each_add {n m N:Nat} {q p:Nat->RawR} {z:Nat->Rat} (hN:n*m=N) (hn:n≤64) (hm:m≤64) (call:∀ a,a<N->FnOK Tryz.prog true 93 [.g (rr (q a)),.g (rr (p a))] (.g (nq (z a)))):FnOK Tryz.prog true 121 [.g [.int .i64 n,.int .i64 m,ql N q],.g [.int .i64 n,.int .i64 m,ql N p],.c (.fn 93)] (.t2 (.g [.int .i64 n,.int .i64 m,nql N z]) (.c (.int .i64 0))):=by
 have v1:FnOK Tryz.prog true 72 [.g [.int .i64 n,.int .i64 m,ql N q]] (.c (.bool true)):=by rw[← hN];exact valid_yes (by omega) (by omega)
 have v2:FnOK Tryz.prog true 72 [.g [.int .i64 n,.int .i64 m,ql N p]] (.c (.bool true)):=by rw[← hN];exact valid_yes (by omega) (by omega)
 have hN:N≤4096:=by rw[← hN];exact Nat.le_trans (Nat.mul_le_mul hn hm) (by decide)
 clear hn hm
 have call:∀ a:Nat,a<N->FnOK Tryz.prog true 93 [.g (rr (q (a:Int).toNat)),.g (rr (p (a:Int).toNat))] (.g (nq (z a))):=fun a ha=>call a ha
 refine fn_ok (E:=E1) E1_ok Tryz.func121 rfl mixed (by kernel_rfl) (by kernel_rfl) ?_
 conv=>whnf
 refine⟨_,v1,?_⟩
 conv=>whnf
 refine⟨_,v2,?_⟩
 conv=>whnf
 refine bpos (gw_true.2 (show(!decide ((n:Int)=n))=false by simp)) ?_
 conv=>whnf
 refine bneg (show(!decide ((m:Int)=m))=false by simp) ?_
 conv=>whnf
 refine⟨by omega,Int.le_refl _,by omega,by show(64:Int)*(N:Int)≤281474976710656;omega,?_⟩
 conv=>whnf
 refine loop_ints (fun i:Nat=>gst [(2,.c (.fn 93)),(3,.c (.p 0 0 3 0 0)),(4,.c (.p 1 0 3 0 0)),(6,.c (.p 2 0 3 0 0)),(8,.c (.p 3 0 3 0 0)),(44,.c (.int .i64 N)),(45,.c (.int .i64 i))] [⟨24,3,1,boxF [.int .i64 n,.int .i64 m,ql N q]⟩,⟨24,3,1,boxF [.int .i64 n,.int .i64 m,ql N p]⟩,⟨24,3,1,boxF [.int .i64 0,.int .i64 0,.nil]⟩,⟨24,3,1,boxF [.int .i64 n,.int .i64 m,.gs 4 0]⟩,gqp N z i]) (fun i=>N-i) (fun i=>i≤N) 0 rfl ?_ (Nat.zero_le _) fun i hi=>?_
 ·refine Weak.gen [some 0,some 1,some 2,some 12,some 10] rfl ⟨boxK rfl rfl,boxK rfl rfl,boxK rfl rfl,⟨_,rfl,rfl,rfl,rfl,rfl,reg_box3 ⟨_,rfl,rfl⟩ ⟨_,rfl,rfl⟩ ⟨_,rfl,rfl,rfl⟩⟩,⟨_,rfl,rfl,rfl,by show Int.toNat N=N;omega,rfl,fun k j hk hj=>?_⟩,trivial⟩ ⟨⟨rfl,rfl⟩,⟨_,rfl,rfl,rfl⟩,⟨_,rfl,rfl,rfl⟩,⟨_,rfl,rfl,rfl⟩,⟨_,rfl,rfl,rfl⟩,⟨_,rfl,rfl⟩,⟨_,rfl,rfl⟩,trivial⟩
  ·exact regE (congrArg (fun l=>l.getD j .any) (qp_zero z k).symm) (qp_clos k j)
 have call:=call i
 conv=>whnf
 refine bcase (fun(h:decide ((i:Int)<N)=true)=>?_) fun(h:decide ((i:Int)<N)=false)=>?_
 ·have h:=of_decide_eq_true h
  have call:=call (by omega)
  conv=>whnf
  refine⟨by omega,by omega,?_⟩
  conv=>whnf
  refine⟨by omega,by omega,?_⟩
  conv=>whnf
  refine⟨_,call,?_⟩
  conv=>whnf
  refine⟨by omega,by omega,?_⟩
  conv=>whnf
  refine⟨i64 (by omega) (by omega),?_⟩
  conv=>whnf
  refine⟨i+1,by omega,Weak.gen [some 0,some 1,some 2,some 3,some 4] rfl ⟨boxK rfl rfl,boxK rfl rfl,boxK rfl rfl,⟨_,rfl,rfl,rfl,rfl,rfl,reg_box3 ⟨_,rfl,rfl⟩ ⟨_,rfl,rfl⟩ ⟨_,rfl,rfl,rfl⟩⟩,⟨_,rfl,rfl,rfl,rfl,rfl,fun j k hj hk=>regE ?_ (qp_clos j k)⟩,trivial⟩ ⟨⟨rfl,rfl⟩,⟨_,rfl,rfl,rfl⟩,⟨_,rfl,rfl,rfl⟩,⟨_,rfl,rfl,rfl⟩,⟨_,rfl,rfl,rfl⟩,⟨_,rfl,rfl⟩,⟨_,rfl,rfl⟩,trivial⟩,by omega⟩
  ·exact updG (sz:=4) (g:=qpF z i) (g':=qpF z (i+1)) (l:=nq (z i)) rfl hk (qp_next z i j)
 ·have h:=of_decide_eq_false h
  have e:i=N:=by omega
  have g:Sub (.t2 (.g [.int .i64 n,.int .i64 m,.row 4 N fun k j=>(qpF z i k).getD j .any]) (.c (.int .i64 0))) (.t2 (.g [.int .i64 n,.int .i64 m,nql N z]) (.c (.int .i64 0))):=by
   rintro D w v ⟨x,y,h1,⟨vs,h2,h3⟩,h4⟩
   refine⟨x,y,h1,⟨vs,h2,?_⟩,h4⟩
   match vs.toList,h3 with
   | [a,b,c],⟨g1,g2,g3,g4⟩=>exact⟨g1,g2,subRowG rfl (fun k j hk hj=>by rw[e];exact qp_all hk j) D w c g3,g4⟩
  conv=>whnf
  refine⟨fun k j _ _=>qp_clos k j,?_⟩
  conv=>whnf
  exact⟨rfl,g⟩
theorem each_scale {n m N:Nat} {q p:Nat->RawR} {z:Nat->Rat} {u:Nat->Cell} (hN:n*m=N) (hn:n≤64) (hm:m≤64) (call:∀ a,a<N->FnOK Tryz.prog true 122 [.g (rr (q a)),.g (rr (p a)),.c (.xp 4 u)] (.g (nq (z a)))):FnOK Tryz.prog true 121 [.g [.int .i64 n,.int .i64 m,ql N q],.g [.int .i64 n,.int .i64 m,ql N p],.c (.cl 122 1 fun _ => .xp 4 u)] (.t2 (.g [.int .i64 n,.int .i64 m,nql N z]) (.c (.int .i64 0))):=by
 have v1:FnOK Tryz.prog true 72 [.g [.int .i64 n,.int .i64 m,ql N q]] (.c (.bool true)):=by rw[← hN];exact valid_yes (by omega) (by omega)
 have v2:FnOK Tryz.prog true 72 [.g [.int .i64 n,.int .i64 m,ql N p]] (.c (.bool true)):=by rw[← hN];exact valid_yes (by omega) (by omega)
 have hN:N≤4096:=by rw[← hN];exact Nat.le_trans (Nat.mul_le_mul hn hm) (by decide)
 clear hn hm
 have call:∀ a:Nat,a<N->FnOK Tryz.prog true 122 [.g (rr (q (a:Int).toNat)),.g (rr (p (a:Int).toNat)),.c (.xp 4 u)] (.g (nq (z a))):=fun a ha=>call a ha
 refine fn_ok (E:=E1) E1_ok Tryz.func121 rfl mixed (by kernel_rfl) (by kernel_rfl) ?_
 conv=>whnf
 refine⟨_,v1,?_⟩
 conv=>whnf
 refine⟨_,v2,?_⟩
 conv=>whnf
 refine bpos (gw_true.2 (show(!decide ((n:Int)=n))=false by simp)) ?_
 conv=>whnf
 refine bneg (show(!decide ((m:Int)=m))=false by simp) ?_
 conv=>whnf
 refine⟨by omega,Int.le_refl _,by omega,by show(64:Int)*(N:Int)≤281474976710656;omega,?_⟩
 conv=>whnf
 refine loop_ints (fun i:Nat=>gst [(2,.c (.cl 122 1 fun _ => .xp 4 u)),(3,.c (.p 0 0 3 0 0)),(4,.c (.p 1 0 3 0 0)),(6,.c (.p 2 0 3 0 0)),(8,.c (.p 3 0 3 0 0)),(44,.c (.int .i64 N)),(45,.c (.int .i64 i))] [⟨24,3,1,boxF [.int .i64 n,.int .i64 m,ql N q]⟩,⟨24,3,1,boxF [.int .i64 n,.int .i64 m,ql N p]⟩,⟨24,3,1,boxF [.int .i64 0,.int .i64 0,.nil]⟩,⟨24,3,1,boxF [.int .i64 n,.int .i64 m,.gs 4 0]⟩,gqp N z i]) (fun i=>N-i) (fun i=>i≤N) 0 rfl ?_ (Nat.zero_le _) fun i hi=>?_
 ·refine Weak.gen [some 0,some 1,some 2,some 12,some 10] rfl ⟨boxK rfl rfl,boxK rfl rfl,boxK rfl rfl,⟨_,rfl,rfl,rfl,rfl,rfl,reg_box3 ⟨_,rfl,rfl⟩ ⟨_,rfl,rfl⟩ ⟨_,rfl,rfl,rfl⟩⟩,⟨_,rfl,rfl,rfl,by show Int.toNat N=N;omega,rfl,fun k j hk hj=>?_⟩,trivial⟩ ⟨⟨_,rfl,fun _ _=>⟨rfl,rfl⟩⟩,⟨_,rfl,rfl,rfl⟩,⟨_,rfl,rfl,rfl⟩,⟨_,rfl,rfl,rfl⟩,⟨_,rfl,rfl,rfl⟩,⟨_,rfl,rfl⟩,⟨_,rfl,rfl⟩,trivial⟩
  ·exact regE (congrArg (fun l=>l.getD j .any) (qp_zero z k).symm) (qp_clos k j)
 have call:=call i
 conv=>whnf
 refine bcase (fun(h:decide ((i:Int)<N)=true)=>?_) fun(h:decide ((i:Int)<N)=false)=>?_
 ·have h:=of_decide_eq_true h
  have call:=call (by omega)
  conv=>whnf
  refine⟨by omega,by omega,?_⟩
  conv=>whnf
  refine⟨by omega,by omega,?_⟩
  conv=>whnf
  refine⟨_,call,?_⟩
  conv=>whnf
  refine⟨by omega,by omega,?_⟩
  conv=>whnf
  refine⟨i64 (by omega) (by omega),?_⟩
  conv=>whnf
  refine⟨i+1,by omega,Weak.gen [some 0,some 1,some 2,some 3,some 4] rfl ⟨boxK rfl rfl,boxK rfl rfl,boxK rfl rfl,⟨_,rfl,rfl,rfl,rfl,rfl,reg_box3 ⟨_,rfl,rfl⟩ ⟨_,rfl,rfl⟩ ⟨_,rfl,rfl,rfl⟩⟩,⟨_,rfl,rfl,rfl,rfl,rfl,fun j k hj hk=>regE ?_ (qp_clos j k)⟩,trivial⟩ ⟨⟨_,rfl,fun _ _=>⟨rfl,rfl⟩⟩,⟨_,rfl,rfl,rfl⟩,⟨_,rfl,rfl,rfl⟩,⟨_,rfl,rfl,rfl⟩,⟨_,rfl,rfl,rfl⟩,⟨_,rfl,rfl⟩,⟨_,rfl,rfl⟩,trivial⟩,by omega⟩
  ·exact updG (sz:=4) (g:=qpF z i) (g':=qpF z (i+1)) (l:=nq (z i)) rfl hk (qp_next z i j)
 ·have h:=of_decide_eq_false h
  have e:i=N:=by omega
  have g:Sub (.t2 (.g [.int .i64 n,.int .i64 m,.row 4 N fun k j=>(qpF z i k).getD j .any]) (.c (.int .i64 0))) (.t2 (.g [.int .i64 n,.int .i64 m,nql N z]) (.c (.int .i64 0))):=by
   rintro D w v ⟨x,y,h1,⟨vs,h2,h3⟩,h4⟩
   refine⟨x,y,h1,⟨vs,h2,?_⟩,h4⟩
   match vs.toList,h3 with
   | [a,b,c],⟨g1,g2,g3,g4⟩=>exact⟨g1,g2,subRowG rfl (fun k j hk hj=>by rw[e];exact qp_all hk j) D w c g3,g4⟩
  conv=>whnf
  refine⟨fun k j _ _=>qp_clos k j,?_⟩
  conv=>whnf
  exact⟨rfl,g⟩
theorem cap_weak {P:Program} {r:Bool} {f F:FuncId} {a b:V} {c:Cell} {g:Nat->Cell} {X:V} (h:FnOK P r f [a,b,.c (.cl F 1 fun _=>c)] X) (hg:g 0=c):FnOK P r f [a,b,.c (.cl F 1 g)] X :=
 arg_ok h fun D w vs h=>by
  match vs,h with
  | [x,y,z],⟨h1,h2,⟨caps,e1,e2,e3⟩,_⟩ =>
   refine⟨h1,h2,⟨caps,e1,e2,fun j hj=>?_⟩,trivial⟩
   obtain rfl:=Nat.lt_one_iff.1 hj
   obtain⟨u,hu,hr⟩:=e3 0 hj
   rw[hg]at hr
   exact⟨u,hu,hr⟩
theorem scale1_ok {q p:RawR} {x:RawR} {L:Nat} (hx:x.Fit L) (hq:q.Fit L) (hL:L+L+3≤LIM):FnOK Tryz.prog true 122 [.g (rr q),.g (rr p),.c (.xp 4 fun j=>boxF (rr x) 0 (0+j))] (.g (nq (x.val*q.val))):=by
 have h:=qmul_ok hx hq hL
 refine fn_ok (E:=E1) E1_ok Tryz.func122 rfl mixed (by kernel_rfl) (by kernel_rfl) ?_
 conv=>whnf
 refine⟨_,h,?_⟩
 conv=>whnf
 exact⟨rfl,Sub.refl _⟩
theorem addR_ok {n m:Nat} {q p:Nat->RawR} {z:Nat->Rat} {L:Nat} (hn:n≤64) (hm:m≤64) (hq:∀ a,a<n*m->(q a).Fit L) (hp:∀ a,a<n*m->(p a).Fit L) (hL:L+L+4≤LIM) (hz:∀ a,a<n*m->(q a).val+(p a).val=z a):FnOK Tryz.prog true 80 [.g (rmat n m q),.g (rmat n m p)] (.t2 (.g [.int .i64 n,.int .i64 m,nql (n*m) z]) (.c (.int .i64 0))):=by
 have h:=each_add (q:=q) (p:=p) (z:=z) rfl hn hm fun a ha=>by
  rw[← hz a ha]
  exact qadd_ok (hq a ha) (hp a ha) hL
 clear hq hp hz
 refine fn_ok (E:=E1) E1_ok Tryz.func80 rfl mixed (by kernel_rfl) (by kernel_rfl) ?_
 conv=>whnf
 refine⟨_,h,?_⟩
 conv=>whnf
 exact⟨rfl,Sub.refl _⟩
theorem scaleR_ok {n m:Nat} {q:Nat->RawR} {x:RawR} {z:Nat->Rat} {L:Nat} (hn:n≤64) (hm:m≤64) (hq:∀ a,a<n*m->(q a).Fit L) (hx:x.Fit L) (hL:L+L+3≤LIM) (hz:∀ a,a<n*m->x.val*(q a).val=z a):FnOK Tryz.prog true 79 [.g (rmat n m q),.g (rr x)] (.t2 (.g [.int .i64 n,.int .i64 m,nql (n*m) z]) (.c (.int .i64 0))):=by
 have h0:=each_scale (q:=q) (p:=q) (z:=z) (u:=fun j=>boxF (rr x) 0 (0+j)) rfl hn hm fun a ha=>by
  rw[← hz a ha]
  exact scale1_ok hx (hq a ha) hL
 have h:=fun(g:Nat->Cell) (hg:g 0 = .xp 4 fun j=>boxF (rr x) 0 (0+j))=>cap_weak (g:=g) h0 hg
 clear hq hz hx
 refine fn_ok (E:=E1) E1_ok Tryz.func79 rfl mixed (by kernel_rfl) (by kernel_rfl) ?_
 conv=>whnf
 refine⟨fun i j hi hj=>box_clos (l:=rr x) (i:=i) (j:=j) rfl,?_⟩
 conv=>whnf
 refine⟨_,h _ rfl,?_⟩
 conv=>whnf
 exact⟨rfl,Sub.refl _⟩
end Rf
end Go.Proofs.YtkmbnldginonbaaGreat
/- Differences and multiples of lists of fractions in the program. -/
set_option maxHeartbeats 8000000
namespace Go.Proofs.YtkmbnldginonbaaGreat
open Go.RowKit
namespace Rf
theorem qsub_any {x y:RawR} {lx ly:List Cell} {L:Nat} {z:Rat} (h1:1≤L) (hx:x.Fit L) (hy:y.Fit L) (sx:Sub (.g lx) (.g (rr x))) (sy:Sub (.g ly) (.g (rr y))) (hL:L+L+4≤LIM) (hz:x.val-y.val=z):FnOK Tryz.prog true 50 [.g lx,.g ly] (.g (nq z)):=by
 have h:=qsub_ok hx hy h1 hL
 rw[hz]at h
 refine arg_ok h fun D w vs h=>?_
 match vs,h with
 | [v0,v1],⟨h0,h1,_⟩=>exact⟨sx D w v0 h0,sy D w v1 h1,trivial⟩
theorem qpsub_ok {n m:Nat} {q p:Nat->RawR} {L:Nat} {v:Nat->Rat} (hv:∀ i,i<max n m->Q.qx n (fun i=>(q i).val) i-Q.qx m (fun i=>(p i).val) i=v i) (hn:n≤1048576) (hm:m≤1048576) (hq:∀ i,i<n->(q i).Fit L) (hp:∀ i,i<m->(p i).Fit L) (h1L:1≤L) (hL:L+L+4≤LIM):FnOK Tryz.prog true 94 [.c (ql n q),.c (ql m p),.c (.fn 50)] (.c (nql (Q.tq v (max n m)) v)):=by
 obtain⟨M,hM⟩:∃ M,M=max n m:=⟨_,rfl⟩
 rw[← hM]at hv ⊢
 have a1:∀ i,i<M->i<n->i<m->FnOK Tryz.prog true 50 [.g (rr (q i)),.g (rr (p i))] (.g (nq (v i))):=fun i h h1 h2=>qsub_any h1L (hq i h1) (hp i h2) (Sub.refl _) (Sub.refl _) hL (by rw[← hv i h,Q.qx_lt h1,Q.qx_lt h2])
 have a2:∀ i,i<M->i<n->¬ i<m->FnOK Tryz.prog true 50 [.g (rr (q i)),.g zcells] (.g (nq (v i))):=fun i h h1 h2=>qsub_any h1L (hq i h1) (zraw_fit L) (Sub.refl _) zsub hL (by rw[← hv i h,Q.qx_lt h1,zraw_val];unfold Q.qx;rw[if_neg h2])
 have a3:∀ i,i<M->¬ i<n->i<m->FnOK Tryz.prog true 50 [.g zcells,.g (rr (p i))] (.g (nq (v i))):=fun i h h1 h2=>qsub_any h1L (zraw_fit L) (hp i h2) zsub (Sub.refl _) hL (by rw[← hv i h,Q.qx_lt h2,zraw_val];unfold Q.qx;rw[if_neg h1])
 have hMn:M≤1048576:=by omega
 have h2:=qtrim_nql (v:=v) hMn
 have eM:(if((m:Nat):Int) > ((n:Nat):Int)then((m:Nat):Int)else((n:Nat):Int))=(M:Nat):=by split <;> omega
 have eM2:(if((m:Nat):Int) > ((n:Nat):Int)then((m:Nat):Int)else((n:Nat):Int)).toNat=M:=by rw[eM];omega
 clear hv hq hp
 generalize Q.tq v M=N at *
 have hT:∀ i,i=M->FnOK Tryz.prog true 100 [.c (.row 4 M fun k j=>(qpF v i k).getD j .any)] (.c (nql N v)):=fun i e=>arg_ok h2 fun D w vs h=>by
  match vs,h with
  | [v1],⟨h1,_⟩=>exact⟨subRowG rfl (fun k j hk hj=>by rw[e];exact qp_all hk j) D w v1 h1,trivial⟩
 refine fn_ok (E:=E1) E1_ok Tryz.func94 rfl mixed (by kernel_rfl) (by kernel_rfl) ?_
 conv=>whnf
 refine⟨by rw[eM];omega,Int.le_refl _,by rw[eM];omega,by show(64:Int)*(if((m:Nat):Int) > ((n:Nat):Int)then((m:Nat):Int)else((n:Nat):Int))≤281474976710656;rw[eM];omega,?_⟩
 conv=>whnf
 refine loop_ints (fun i:Nat=>gst [(0,.c (ql n q)),(1,.c (ql m p)),(2,.c (.fn 50)),(7,.c (.gs 0 0)),(18,.c (.int .i64 M)),(19,.c (.int .i64 i))] [gqp M v i]) (fun i=>M-i) (fun i=>i≤M) 0 rfl (Weak.gen [some 0] rfl ⟨⟨_,rfl,rfl,rfl,eM2,rfl,fun k j hk hj=>?_⟩,trivial⟩ ⟨.inl ⟨_,_,rfl,rfl,fun _ _ _ _=>rfl⟩,.inl ⟨_,_,rfl,rfl,fun _ _ _ _=>rfl⟩,⟨rfl,rfl⟩,⟨_,rfl,rfl,rfl⟩,⟨_,rfl,by show((if((m:Nat):Int) > ((n:Nat):Int)then((m:Nat):Int)else((n:Nat):Int)).toNat:Int)=_;rw[eM2]⟩,⟨_,rfl,rfl⟩,trivial⟩) (Nat.zero_le _) fun i hi=>?_
 ·exact regE (congrArg (fun l=>l.getD j .any) (qp_zero v k).symm) (qp_clos k j)
 have b1:=a1 i
 have b2:=a2 i
 have b3:=a3 i
 conv=>whnf
 refine bcase (fun(h:decide ((i:Int)<M)=true)=>?_) fun(h:decide ((i:Int)<M)=false)=>?_
 ·have h:=of_decide_eq_true h
  have b1:=b1 (by omega)
  have b2:=b2 (by omega)
  have b3:=b3 (by omega)
  conv=>whnf
  refine bcase (fun(c1:decide ((i:Int)<n)=true)=>?_) fun(c1:decide ((i:Int)<n)=false)=>?_
  ·have c1:=of_decide_eq_true c1
   have b1:=b1 (by omega)
   have b2:=b2 (by omega)
   conv=>whnf
   refine⟨by omega,by omega,?_⟩
   conv=>whnf
   refine bcase (fun(c2:decide ((i:Int)<m)=true)=>?_) fun(c2:decide ((i:Int)<m)=false)=>?_
   ·have c2:=of_decide_eq_true c2
    have b1:=b1 (by omega)
    conv=>whnf
    refine⟨by omega,by omega,?_⟩
    conv=>whnf
    refine⟨_,b1,?_⟩
    conv=>whnf
    refine⟨by omega,by show(i:Int)<(M:Int);omega,?_⟩
    conv=>whnf
    refine⟨i64 (by omega) (by omega),?_⟩
    conv=>whnf
    refine⟨i+1,by omega,Weak.gen [some 0] rfl ⟨⟨_,rfl,rfl,rfl,rfl,rfl,fun j k hj hk=>regE ?_ (qp_clos j k)⟩,trivial⟩ ⟨.inl ⟨_,_,rfl,rfl,fun _ _ _ _=>rfl⟩,.inl ⟨_,_,rfl,rfl,fun _ _ _ _=>rfl⟩,⟨rfl,rfl⟩,⟨_,rfl,rfl,rfl⟩,⟨_,rfl,rfl⟩,⟨_,rfl,rfl⟩,trivial⟩,by omega⟩
    exact updG (sz:=4) (g:=qpF v i) (g':=qpF v (i+1)) (l:=nq (v i)) rfl hk (qp_next v i j)
   ·have c2:=of_decide_eq_false c2
    have b2:=b2 (by omega)
    conv=>whnf
    refine⟨_,b2,?_⟩
    conv=>whnf
    refine⟨by omega,by show(i:Int)<(M:Int);omega,?_⟩
    conv=>whnf
    refine⟨i64 (by omega) (by omega),?_⟩
    conv=>whnf
    refine⟨i+1,by omega,Weak.gen [some 0] rfl ⟨⟨_,rfl,rfl,rfl,rfl,rfl,fun j k hj hk=>regE ?_ (qp_clos j k)⟩,trivial⟩ ⟨.inl ⟨_,_,rfl,rfl,fun _ _ _ _=>rfl⟩,.inl ⟨_,_,rfl,rfl,fun _ _ _ _=>rfl⟩,⟨rfl,rfl⟩,⟨_,rfl,rfl,rfl⟩,⟨_,rfl,rfl⟩,⟨_,rfl,rfl⟩,trivial⟩,by omega⟩
    exact updG (sz:=4) (g:=qpF v i) (g':=qpF v (i+1)) (l:=nq (v i)) rfl hk (qp_next v i j)
  ·have c1:=of_decide_eq_false c1
   have c2:i<m:=by omega
   have b3:=b3 (by omega) c2
   conv=>whnf
   refine bpos (show decide ((i:Int)<m)=true from decide_eq_true (by omega)) ?_
   conv=>whnf
   refine⟨by omega,by omega,?_⟩
   conv=>whnf
   refine⟨_,b3,?_⟩
   conv=>whnf
   refine⟨by omega,by show(i:Int)<(M:Int);omega,?_⟩
   conv=>whnf
   refine⟨i64 (by omega) (by omega),?_⟩
   conv=>whnf
   refine⟨i+1,by omega,Weak.gen [some 0] rfl ⟨⟨_,rfl,rfl,rfl,rfl,rfl,fun j k hj hk=>regE ?_ (qp_clos j k)⟩,trivial⟩ ⟨.inl ⟨_,_,rfl,rfl,fun _ _ _ _=>rfl⟩,.inl ⟨_,_,rfl,rfl,fun _ _ _ _=>rfl⟩,⟨rfl,rfl⟩,⟨_,rfl,rfl,rfl⟩,⟨_,rfl,rfl⟩,⟨_,rfl,rfl⟩,trivial⟩,by omega⟩
   exact updG (sz:=4) (g:=qpF v i) (g':=qpF v (i+1)) (l:=nq (v i)) rfl hk (qp_next v i j)
 ·have h:=of_decide_eq_false h
  have g:=hT i (by omega)
  conv=>whnf
  refine .inr ⟨fun k j _ _=>qp_clos k j,?_⟩
  conv=>whnf
  refine⟨_,g,?_⟩
  conv=>whnf
  exact⟨rfl,Sub.refl _⟩
theorem qpSub_ok {n m:Nat} {q p:Nat->RawR} {L:Nat} {v:Nat->Rat} (hv:∀ i,i<max n m->Q.qx n (fun i=>(q i).val) i-Q.qx m (fun i=>(p i).val) i=v i) (hn:n≤1048576) (hm:m≤1048576) (hq:∀ i,i<n->(q i).Fit L) (hp:∀ i,i<m->(p i).Fit L) (h1L:1≤L) (hL:L+L+4≤LIM):FnOK Tryz.prog true 42 [.c (ql n q),.c (ql m p)] (.c (nql (Q.tq v (max n m)) v)):=by
 have h:=qpsub_ok hv hn hm hq hp h1L hL
 refine fn_ok (E:=E1) E1_ok Tryz.func42 rfl mixed (by kernel_rfl) (by kernel_rfl) ?_
 conv=>whnf
 refine⟨_,h,?_⟩
 conv=>whnf
 exact⟨rfl,Sub.refl _⟩
theorem merge_scale {n:Nat} {q:Nat->RawR} {z:Nat->Rat} {u:Nat->Cell} (hn:n≤1048576) (call:∀ a,a<n->FnOK Tryz.prog true 95 [.g (rr (q a)),.g zcells,.c (.xp 4 u)] (.g (nq (z a)))):FnOK Tryz.prog true 94 [.c (ql n q),.c .nil,.c (.cl 95 1 fun _ => .xp 4 u)] (.c (nql (Q.tq z n) z)):=by
 have h2:=qtrim_nql (v:=z) hn
 have eM:(if((0:Nat):Int) > ((n:Nat):Int)then((0:Nat):Int)else((n:Nat):Int))=(n:Nat):=by split <;> omega
 have eM2:(if((0:Nat):Int) > ((n:Nat):Int)then((0:Nat):Int)else((n:Nat):Int)).toNat=n:=by rw[eM];omega
 generalize Q.tq z n=N at *
 have hT:∀ i,i=n->FnOK Tryz.prog true 100 [.c (.row 4 n fun k j=>(qpF z i k).getD j .any)] (.c (nql N z)):=fun i e=>arg_ok h2 fun D w vs h=>by
  match vs,h with
  | [v1],⟨h1,_⟩=>exact⟨subRowG rfl (fun k j hk hj=>by rw[e];exact qp_all hk j) D w v1 h1,trivial⟩
 refine fn_ok (E:=E1) E1_ok Tryz.func94 rfl mixed (by kernel_rfl) (by kernel_rfl) ?_
 conv=>whnf
 refine⟨by rw[eM];omega,Int.le_refl _,by rw[eM];omega,by show(64:Int)*(if((0:Nat):Int) > ((n:Nat):Int)then((0:Nat):Int)else((n:Nat):Int))≤281474976710656;rw[eM];omega,?_⟩
 conv=>whnf
 refine loop_ints (fun i:Nat=>gst [(0,.c (ql n q)),(1,.c .nil),(2,.c (.cl 95 1 fun _ => .xp 4 u)),(7,.c (.gs 0 0)),(18,.c (.int .i64 n)),(19,.c (.int .i64 i))] [gqp n z i]) (fun i=>n-i) (fun i=>i≤n) 0 rfl (Weak.gen [some 0] rfl ⟨⟨_,rfl,rfl,rfl,eM2,rfl,fun k j hk hj=>?_⟩,trivial⟩ ⟨.inl ⟨_,_,rfl,rfl,fun _ _ _ _=>rfl⟩,⟨rfl,rfl⟩,⟨_,rfl,fun _ _=>⟨rfl,rfl⟩⟩,⟨_,rfl,rfl,rfl⟩,⟨_,rfl,by show((if((0:Nat):Int) > ((n:Nat):Int)then((0:Nat):Int)else((n:Nat):Int)).toNat:Int)=_;omega⟩,⟨_,rfl,rfl⟩,trivial⟩) (Nat.zero_le _) fun i hi=>?_
 ·exact regE (congrArg (fun l=>l.getD j .any) (qp_zero z k).symm) (qp_clos k j)
 have call:=call i
 conv=>whnf
 refine bcase (fun(h:decide ((i:Int)<n)=true)=>?_) fun(h:decide ((i:Int)<n)=false)=>?_
 ·have h:=of_decide_eq_true h
  have call:=call (by omega)
  conv=>whnf
  refine bpos (show decide ((i:Int)<n)=true from decide_eq_true (by omega)) ?_
  conv=>whnf
  refine⟨by omega,by omega,?_⟩
  conv=>whnf
  refine⟨_,call,?_⟩
  conv=>whnf
  refine⟨by omega,by show(i:Int)<(n:Int);omega,?_⟩
  conv=>whnf
  refine⟨i64 (by omega) (by omega),?_⟩
  conv=>whnf
  refine⟨i+1,by omega,Weak.gen [some 0] rfl ⟨⟨_,rfl,rfl,rfl,rfl,rfl,fun j k hj hk=>regE ?_ (qp_clos j k)⟩,trivial⟩ ⟨.inl ⟨_,_,rfl,rfl,fun _ _ _ _=>rfl⟩,⟨rfl,rfl⟩,⟨_,rfl,fun _ _=>⟨rfl,rfl⟩⟩,⟨_,rfl,rfl,rfl⟩,⟨_,rfl,rfl⟩,⟨_,rfl,rfl⟩,trivial⟩,by omega⟩
  exact updG (sz:=4) (g:=qpF z i) (g':=qpF z (i+1)) (l:=nq (z i)) rfl hk (qp_next z i j)
 ·have h:=of_decide_eq_false h
  have g:=hT i (by omega)
  conv=>whnf
  refine .inr ⟨fun k j _ _=>qp_clos k j,?_⟩
  conv=>whnf
  refine⟨_,g,?_⟩
  conv=>whnf
  exact⟨rfl,Sub.refl _⟩
end Rf
end Go.Proofs.YtkmbnldginonbaaGreat
/- Commutative rings of one's own, identities in them by reflection, sums. Plain: no program. -/
namespace Go.Proofs.YtkmbnldginonbaaGreat
class Crg (α : Type) extends Add α, Mul α, Neg α, _root_.Sub α, Zero α, One α where
 add_assoc:∀ a b c:α,a+b+c=a+(b+c)
 add_comm:∀ a b:α,a+b=b+a
 add_zero:∀ a:α,a+0=a
 add_neg:∀ a:α,a + -a=0
 sub_def:∀ a b:α,a-b=a + -b
 mul_assoc:∀ a b c:α,a*b*c=a*(b*c)
 mul_comm:∀ a b:α,a*b=b*a
 mul_one:∀ a:α,a*1=a
 mul_add:∀ a b c:α,a*(b+c)=a*b+a*c
namespace Crg
section
variable {α:Type} [Crg α]
theorem zero_add (a:α):0+a=a:=by rw[add_comm,add_zero]
theorem one_mul (a:α):1*a=a:=by rw[mul_comm,mul_one]
theorem neg_add (a:α) : -a+a=0:=by rw[add_comm,add_neg]
theorem add_mul (a b c:α):(a+b)*c=a*c+b*c:=by rw[mul_comm,mul_add,mul_comm c,mul_comm c]
theorem add_left_cancel {a b c:α} (h:a+b=a+c):b=c:=by
 have h:=congrArg (-a+·) h
 simp only[← add_assoc,neg_add,zero_add]at h
 exact h
theorem add_right_cancel {a b c:α} (h:b+a=c+a):b=c:=by
 rw[add_comm b,add_comm c]at h
 exact add_left_cancel h
theorem mul_zero (a:α):a*0=0:=by
 have h:a*0+a*0=a*0+0:=by rw[← mul_add,add_zero,add_zero]
 exact add_left_cancel h
theorem zero_mul (a:α):0*a=0:=by rw[mul_comm,mul_zero]
theorem neg_eq {a b:α} (h:a+b=0):b = -a:=add_left_cancel (h.trans (add_neg a).symm)
theorem neg_zero : -(0:α)=0:=(neg_eq (add_zero 0)).symm
theorem neg_neg (a:α) : -(-a)=a:=(neg_eq (neg_add a)).symm
theorem mul_neg (a b:α):a * -b = -(a*b):=neg_eq (by rw[← mul_add,add_neg,mul_zero])
theorem neg_mul (a b:α) : -a*b = -(a*b):=by rw[mul_comm,mul_neg,mul_comm]
theorem sub_zero (a:α):a-0=a:=by rw[sub_def,neg_zero,add_zero]
theorem sub_self (a:α):a-a=0:=by rw[sub_def,add_neg]
theorem sub_eq_zero {a b:α}:a-b=0↔a=b:=by
 rw[sub_def]
 refine⟨fun h=>?_,fun h=>by rw[h,add_neg]⟩
 rw[add_comm]at h
 have:=neg_eq h
 rw[neg_neg]at this
 exact this
theorem add_left_comm (a b c:α):a+(b+c)=b+(a+c):=by rw[← add_assoc,add_comm a,add_assoc]
theorem mul_left_comm (a b c:α):a*(b*c)=b*(a*c):=by rw[← mul_assoc,mul_comm a,mul_assoc]
def pw (a : α) : Nat → α
 | 0=>1
 | n+1=>pw a n*a
def sm (f : Nat → α) : Nat → α
 | 0=>0
 | n+1=>sm f n+f n
theorem sm_congr {f g : Nat → α} : ∀ {n : Nat}, (∀ i, i < n → f i = g i) → sm f n = sm g n
 | 0,_=>rfl
 | n+1,h=>by
  show sm f n+f n=sm g n+g n
  rw[sm_congr fun i hi=>h i (by omega),h n (by omega)]
theorem sm_zero {f:Nat->α} {n:Nat} (h:∀ i,i<n->f i=0):sm f n=0:=by
 induction n with
 | zero=>rfl
 | succ n ih =>
  show sm f n+f n=0
  rw[ih fun i hi=>h i (by omega),h n (by omega),add_zero]
theorem sm_add (f g : Nat → α) : ∀ n, sm (fun i => f i + g i) n = sm f n + sm g n
 | 0=>(add_zero _).symm
 | n+1=>by
  show sm (fun i=>f i+g i) n+(f n+g n)=sm f n+f n+(sm g n+g n)
  rw[sm_add f g n,add_assoc,add_assoc,add_left_comm (sm g n)]
theorem mul_sm (c : α) (f : Nat → α) : ∀ n, c * sm f n = sm (fun i => c * f i) n
 | 0=>mul_zero c
 | n+1=>by
  show c*(sm f n+f n)=_+_
  rw[mul_add,mul_sm c f n]
theorem sm_mul (c:α) (f:Nat->α) (n:Nat):sm f n*c=sm (fun i=>f i*c) n:=by
 rw[mul_comm,mul_sm]
 exact sm_congr fun i _=>mul_comm _ _
theorem sm_neg (f : Nat → α) : ∀ n, sm (fun i => -f i) n = -sm f n
 | 0=>neg_zero.symm
 | n+1=>by
  show sm (fun i => -f i) n + -f n = -(sm f n+f n)
  rw[sm_neg f n]
  refine neg_eq ?_
  rw[add_assoc,add_left_comm (f n),add_neg,add_zero,add_neg]
theorem sm_head (f : Nat → α) : ∀ n, sm f (n + 1) = f 0 + sm (fun i => f (i + 1)) n
 | 0=>by show 0+f 0=f 0+0;rw[zero_add,add_zero]
 | n+1=>by
  show sm f (n+1)+f (n+1)=f 0+(sm (fun i=>f (i+1)) n+f (n+1))
  rw[sm_head f n,add_assoc]
theorem sm_rev : ∀ (n : Nat) (f : Nat → α), sm f n = sm (fun i => f (n - 1 - i)) n
 | 0,_=>rfl
 | n+1,f=>by
  rw[sm_head f n,sm_rev n fun i=>f (i+1)]
  show f 0+_=sm (fun i=>f (n+1-1-i)) n+f (n+1-1-n)
  rw[show n+1-1-n=0 by omega,add_comm]
  congr 1
  refine sm_congr fun i hi=>?_
  rw[show n-1-i+1=n+1-1-i by omega]
theorem sm_more {f : Nat → α} {n : Nat} (h : ∀ i, n ≤ i → f i = 0) : ∀ {m : Nat}, n ≤ m → sm f m = sm f n
 | 0,hm=>by rw[Nat.le_zero.1 hm]
 | m+1,hm=>by
  rcases Nat.lt_or_ge m n with h1 | h1
  ·rw[show n=m+1 by omega]
  ·show sm f m+f m=_
   rw[h m h1,add_zero,sm_more h h1]
theorem sm_one {f:Nat->α} {n k:Nat} (hk:k<n) (h:∀ i,i<n->i≠k->f i=0):sm f n=f k:=by
 induction n with
 | zero=>omega
 | succ n ih =>
  show sm f n+f n=f k
  by_cases e:k=n
  ·subst e
   rw[sm_zero fun i hi=>h i (by omega) (by omega),zero_add]
  ·rw[ih (by omega) fun i hi=>h i (by omega),h n (by omega) (fun h=>e h.symm),add_zero]
theorem sm_swap (f : Nat → Nat → α) (m : Nat) : ∀ n, sm (fun i => sm (f i) m) n = sm (fun j => sm (fun i => f i j) n) m
 | 0=>by
  rw[sm_zero (f:=fun j=>sm (fun i=>f i j) 0) fun _ _=>rfl]
  rfl
 | n+1=>by
  show sm (fun i=>sm (f i) m) n+sm (f n) m=sm (fun j=>sm (fun i=>f i j) n+f n j) m
  rw[sm_swap f m n,sm_add]
theorem sm_tri (f : Nat → Nat → α) : ∀ n, sm (fun i => sm (fun j => f j (i - j)) (i + 1)) n = sm (fun j => sm (fun l => f j l) (n - j)) n
 | 0=>rfl
 | n+1=>by
  show sm (fun i=>sm (fun j=>f j (i-j)) (i+1)) n+sm (fun j=>f j (n-j)) (n+1)=sm (fun j=>sm (fun l=>f j l) (n+1-j)) n+sm (fun l=>f n l) (n+1-n)
  rw[sm_tri f n]
  have e:sm (fun j=>sm (fun l=>f j l) (n+1-j)) n=sm (fun j=>sm (fun l=>f j l) (n-j)) n+sm (fun j=>f j (n-j)) n:=by
   rw[← sm_add]
   refine sm_congr fun j hj=>?_
   rw[show n+1-j=n-j+1 by omega]
   rfl
  have e2:sm (fun l=>f n l) (n+1-n)=f n (n-n):=by
   rw[show n+1-n=1 by omega,Nat.sub_self]
   exact zero_add _
  rw[e,e2,add_assoc]
  rfl
theorem sm_split (f : Nat → α) (n : Nat) : ∀ m, sm f (n + m) = sm f n + sm (fun i => f (n + i)) m
 | 0=>(add_zero _).symm
 | m+1=>by
  show sm f (n+m)+f (n+m)=sm f n+(sm (fun i=>f (n+i)) m+f (n+m))
  rw[sm_split f n m,add_assoc]
end
/-! ### Identities -/
inductive RE where
 | v (i:Nat)
 | z
 | o
 | add (a b:RE)
 | mul (a b:RE)
 | neg (a:RE)
 | sub (a b:RE)
instance:Add RE:=⟨.add⟩
instance:Mul RE:=⟨.mul⟩
instance:Neg RE:=⟨.neg⟩
instance:_root_.Sub RE:=⟨.sub⟩
instance:OfNat RE 0:=⟨.z⟩
instance:OfNat RE 1:=⟨.o⟩
abbrev t0:RE := .v 0
abbrev t1:RE := .v 1
abbrev t2:RE := .v 2
abbrev t3:RE := .v 3
abbrev t4:RE := .v 4
abbrev t5:RE := .v 5
abbrev t6:RE := .v 6
abbrev t7:RE := .v 7
def insN (a : Nat) : List Nat → List Nat
 | []=>[a]
 | b :: l=>if Nat.ble a b then a :: b :: l else b :: insN a l
def mergeN (l m:List Nat):List Nat:=l.foldr insN m
def leN : List Nat → List Nat → Bool
 | [],_=>true
 | _ :: _,[]=>false
 | a :: l,b :: m=>if Nat.blt a b then true else if Nat.blt b a then false else leN l m
def insL (a : List Nat) : List (List Nat) → List (List Nat)
 | []=>[a]
 | b :: l=>if leN a b then a :: b :: l else b :: insL a l
def sortL (l:List (List Nat)):List (List Nat):=l.foldr insL []
def prodL (l m:List (List Nat)):List (List Nat):=l.foldr (fun x r=>m.map (mergeN x)++r) []
def RE.nf : RE → List (List Nat) × List (List Nat)
 | .v i=>([[i]],[])
 | .z=>([],[])
 | .o=>([[]],[])
 | .add a b=>(a.nf.1++b.nf.1,a.nf.2++b.nf.2)
 | .neg a=>(a.nf.2,a.nf.1)
 | .sub a b=>(a.nf.1++b.nf.2,a.nf.2++b.nf.1)
 | .mul a b=>(prodL a.nf.1 b.nf.1++prodL a.nf.2 b.nf.2,prodL a.nf.1 b.nf.2++prodL a.nf.2 b.nf.1)
def eqL : List (List Nat) → List (List Nat) → Bool
 | [],[]=>true
 | a :: l,b :: m=>leN a b&&leN b a&&eqL l m
 | _,_=>false
def RE.chk (a b:RE):Bool:=eqL (sortL (a.nf.1++b.nf.2)) (sortL (b.nf.1++a.nf.2))
section
variable {α:Type} [Crg α]
def RE.ev (ρ : List α) : RE → α
 | .v i=>ρ.getD i 0
 | .z=>0
 | .o=>1
 | .add a b=>a.ev ρ+b.ev ρ
 | .mul a b=>a.ev ρ*b.ev ρ
 | .neg a => -a.ev ρ
 | .sub a b=>a.ev ρ-b.ev ρ
def mon (ρ : List α) : List Nat → α
 | []=>1
 | i :: l=>ρ.getD i 0*mon ρ l
def tot (ρ : List α) : List (List Nat) → α
 | []=>0
 | a :: l=>mon ρ a+tot ρ l
theorem mon_ins (ρ : List α) (a : Nat) : ∀ l, mon ρ (insN a l) = ρ.getD a 0 * mon ρ l
 | []=>rfl
 | b :: l=>by
  unfold insN
  split
  ·rfl
  ·show ρ.getD b 0*mon ρ (insN a l)=_
   rw[mon_ins ρ a l,mul_left_comm]
   rfl
theorem mon_merge (ρ : List α) (m : List Nat) : ∀ l, mon ρ (mergeN l m) = mon ρ l * mon ρ m
 | []=>(one_mul _).symm
 | a :: l=>by
  show mon ρ (insN a (mergeN l m))=ρ.getD a 0*mon ρ l*mon ρ m
  rw[mon_ins,mon_merge ρ m l,mul_assoc]
theorem tot_append (ρ : List α) (m : List (List Nat)) : ∀ l, tot ρ (l ++ m) = tot ρ l + tot ρ m
 | []=>(zero_add _).symm
 | a :: l=>by
  show mon ρ a+tot ρ (l++m)=mon ρ a+tot ρ l+tot ρ m
  rw[tot_append ρ m l,add_assoc]
theorem tot_map (ρ : List α) (x : List Nat) : ∀ m, tot ρ (m.map (mergeN x)) = mon ρ x * tot ρ m
 | []=>(mul_zero _).symm
 | a :: m=>by
  show mon ρ (mergeN x a)+tot ρ (m.map (mergeN x))=mon ρ x*(mon ρ a+tot ρ m)
  rw[mon_merge,tot_map ρ x m,mul_add]
theorem tot_prod (ρ : List α) (m : List (List Nat)) : ∀ l, tot ρ (prodL l m) = tot ρ l * tot ρ m
 | []=>(zero_mul _).symm
 | a :: l=>by
  show tot ρ (m.map (mergeN a)++prodL l m)=(mon ρ a+tot ρ l)*tot ρ m
  rw[tot_append,tot_map,tot_prod ρ m l,add_mul]
theorem tot_ins (ρ : List α) (a : List Nat) : ∀ l, tot ρ (insL a l) = mon ρ a + tot ρ l
 | []=>rfl
 | b :: l=>by
  unfold insL
  split
  ·rfl
  ·show mon ρ b+tot ρ (insL a l)=_
   rw[tot_ins ρ a l,add_left_comm]
   rfl
theorem tot_sort (ρ : List α) : ∀ l, tot ρ (sortL l) = tot ρ l
 | []=>rfl
 | a :: l=>by
  show tot ρ (insL a (sortL l))=_
  rw[tot_ins,tot_sort ρ l]
  rfl
theorem leN_eq : ∀ {l m : List Nat}, leN l m = true → leN m l = true → l = m
 | [],[],_,_=>rfl
 | [],_ :: _,_,h=>by cases h
 | _ :: _,[],h,_=>by cases h
 | a :: l,b :: m,h,k=>by
  unfold leN at h k
  by_cases e1:Nat.blt a b=true
  ·rw[if_pos e1]at k
   rw[Nat.blt_eq]at e1
   rw[if_neg (by rw[Nat.blt_eq];omega)]at k
   cases k
  ·by_cases e2:Nat.blt b a=true
   ·rw[if_neg e1,if_pos e2]at h
    cases h
   ·rw[if_neg e1,if_neg e2]at h
    rw[if_neg e2,if_neg e1]at k
    rw[Nat.blt_eq]at e1 e2
    rw[leN_eq h k,show a=b by omega]
theorem eqL_eq : ∀ {l m : List (List Nat)}, eqL l m = true → l = m
 | [],[],_=>rfl
 | [],_ :: _,h=>by cases h
 | _ :: _,[],h=>by cases h
 | a :: l,b :: m,h=>by
  unfold eqL at h
  simp only[Bool.and_eq_true]at h
  rw[leN_eq h.1.1 h.1.2,eqL_eq h.2]
theorem RE.ev_nf (ρ : List α) : ∀ e : RE, e.ev ρ + tot ρ e.nf.2 = tot ρ e.nf.1
 | .v i=>by show ρ.getD i 0+0=ρ.getD i 0*1+0;rw[mul_one]
 | .z=>rfl |> fun h=>(add_zero (0:α)).trans h
 | .o=>rfl
 | .add a b=>by
  show a.ev ρ+b.ev ρ+tot ρ (a.nf.2++b.nf.2)=tot ρ (a.nf.1++b.nf.1)
  rw[tot_append,tot_append,← ev_nf ρ a,← ev_nf ρ b,add_assoc,add_assoc,add_left_comm (b.ev ρ)]
 | .neg a=>by
  show -a.ev ρ+tot ρ a.nf.1=tot ρ a.nf.2
  rw[← ev_nf ρ a,← add_assoc,neg_add,zero_add]
 | .sub a b=>by
  show a.ev ρ-b.ev ρ+tot ρ (a.nf.2++b.nf.1)=tot ρ (a.nf.1++b.nf.2)
  rw[tot_append,tot_append,← ev_nf ρ a,← ev_nf ρ b,sub_def,add_assoc,add_assoc]
  congr 1
  rw[add_left_comm (tot ρ a.nf.2),← add_assoc (-b.ev ρ),neg_add,zero_add]
 | .mul a b=>by
  show a.ev ρ*b.ev ρ+tot ρ (prodL a.nf.1 b.nf.2++prodL a.nf.2 b.nf.1)=tot ρ (prodL a.nf.1 b.nf.1++prodL a.nf.2 b.nf.2)
  rw[tot_append,tot_append,tot_prod,tot_prod,tot_prod,tot_prod,← ev_nf ρ a,← ev_nf ρ b]
  simp only[mul_add,add_mul]
  generalize a.ev ρ=x
  generalize b.ev ρ=y
  generalize tot ρ a.nf.2=u
  generalize tot ρ b.nf.2=w
  simp only[add_assoc]
  congr 1
  rw[add_left_comm (u*w),add_comm (u*w),← add_assoc,add_comm (x*w),add_assoc]
theorem RE.eq (ρ:List α) (a b:RE) (h:RE.chk a b=true):a.ev ρ=b.ev ρ:=by
 have h:=congrArg (tot ρ) (eqL_eq h)
 rw[tot_sort,tot_sort,tot_append,tot_append,← ev_nf ρ a,← ev_nf ρ b]at h
 rw[add_assoc,add_assoc,add_comm (tot ρ b.nf.2)]at h
 exact add_right_cancel h
end
end Crg
end Go.Proofs.YtkmbnldginonbaaGreat
/- Polynomials over a field: the ring, degrees, division, common divisors, irreducible ones. Plain: no program. -/
namespace Go.Proofs.YtkmbnldginonbaaGreat
open Crg
class Fld (K : Type) extends Crg K where
 inv:K->K
 mul_inv:∀ a:K,a≠0->a*inv a=1
 one_ne:(1:K)≠0
theorem Fld.domain {K:Type} [Fld K] {a b:K} (h:a*b=0):a=0∨b=0:=by
 by_cases e:a=0
 ·exact .inl e
 ·refine .inr ?_
  have:=congrArg (Fld.inv a*·) h
  simp only[mul_zero,← Crg.mul_assoc]at this
  rw[Crg.mul_comm (Fld.inv a),Fld.mul_inv a e,one_mul]at this
  exact this
structure Pol (K : Type) [Crg K] where
 f:Nat->K
 fin:∃ n,∀ j,n≤j->f j=0
namespace Pol
section
variable {K:Type} [Crg K]
theorem ext {a b:Pol K} (h:∀ i,a.f i=b.f i):a=b:=by
 cases a;cases b
 congr
 exact funext h
def cv (f g:Nat->K) (k:Nat):K:=sm (fun i=>f i*g (k-i)) (k+1)
theorem cv_comm (f g:Nat->K) (k:Nat):cv f g k=cv g f k:=by
 unfold cv
 rw[sm_rev]
 refine sm_congr fun i hi=>?_
 show f (k-i)*g (k-(k-i))=g i*f (k-i)
 rw[show k-(k-i)=i by omega,Crg.mul_comm]
theorem cv_add (f g h:Nat->K) (k:Nat):cv f (fun i=>g i+h i) k=cv f g k+cv f h k:=by
 unfold cv
 rw[← sm_add]
 exact sm_congr fun i _=>mul_add _ _ _
theorem cv_assoc (f g h:Nat->K) (k:Nat):cv (cv f g) h k=cv f (cv g h) k:=by
 unfold cv
 have e1:sm (fun i=>sm (fun i_1=>f i_1*g (i-i_1)) (i+1)*h (k-i)) (k+1)=sm (fun i=>sm (fun j=>f j*g (i-j)*h (k-(j+(i-j)))) (i+1)) (k+1):=by
  refine sm_congr fun i _=>?_
  rw[sm_mul]
  refine sm_congr fun j hj=>?_
  rw[show j+(i-j)=i by omega]
 rw[e1,sm_tri (fun j l=>f j*g l*h (k-(j+l)))]
 refine sm_congr fun j hj=>?_
 rw[mul_sm,show k+1-j=k-j+1 by omega]
 refine sm_congr fun l hl=>?_
 rw[Crg.mul_assoc,show k-(j+l)=k-j-l by omega]
theorem cv_fin {f g:Nat->K} {n m:Nat} (hf:∀ j,n≤j->f j=0) (hg:∀ j,m≤j->g j=0) (k:Nat) (hk:n+m-1≤k):cv f g k=0:=by
 refine sm_zero fun i hi=>?_
 rcases Nat.lt_or_ge i n with h | h
 ·rw[hg (k-i) (by omega),mul_zero]
 ·rw[hf i h,zero_mul]
instance : Crg (Pol K) where
 zero:=⟨fun _=>0,0,fun _ _=>rfl⟩
 one:=⟨fun i=>if i=0 then 1 else 0,1,fun j hj=>if_neg (by omega)⟩
 add a b:=⟨fun i=>a.f i+b.f i,by
  obtain⟨n,hn⟩:=a.fin
  obtain⟨m,hm⟩:=b.fin
  exact⟨max n m,fun j hj=>by rw[hn j (by omega),hm j (by omega),Crg.add_zero]⟩⟩
 mul a b:=⟨cv a.f b.f,by
  obtain⟨n,hn⟩:=a.fin
  obtain⟨m,hm⟩:=b.fin
  exact⟨n+m,fun j hj=>cv_fin hn hm j (by omega)⟩⟩
 neg a:=⟨fun i => -a.f i,by
  obtain⟨n,hn⟩:=a.fin
  exact⟨n,fun j hj=>by rw[hn j hj,neg_zero]⟩⟩
 sub a b:=⟨fun i=>a.f i-b.f i,by
  obtain⟨n,hn⟩:=a.fin
  obtain⟨m,hm⟩:=b.fin
  exact⟨max n m,fun j hj=>by rw[hn j (by omega),hm j (by omega),sub_self]⟩⟩
 add_assoc a b c:=ext fun i=>Crg.add_assoc _ _ _
 add_comm a b:=ext fun i=>Crg.add_comm _ _
 add_zero a:=ext fun i=>Crg.add_zero _
 add_neg a:=ext fun i=>Crg.add_neg _
 sub_def a b:=ext fun i=>Crg.sub_def _ _
 mul_assoc a b c:=ext fun i=>cv_assoc _ _ _ _
 mul_comm a b:=ext fun i=>cv_comm _ _ _
 mul_one a:=ext fun i=>by
  show cv a.f (fun i=>if i=0 then 1 else 0) i=a.f i
  unfold cv
  rw[sm_one (k:=i) (by omega) fun j hj hne=>by dsimp only;rw[if_neg (by omega),mul_zero]]
  dsimp only
  rw[if_pos (Nat.sub_self i),Crg.mul_one]
 mul_add a b c:=ext fun i=>cv_add _ _ _ _
theorem f_add (a b:Pol K) (i:Nat):(a+b).f i=a.f i+b.f i:=rfl
theorem f_sub (a b:Pol K) (i:Nat):(a-b).f i=a.f i-b.f i:=rfl
theorem f_one (i:Nat):(1:Pol K).f i=if i=0 then 1 else 0:=rfl
def mn (c:K) (k:Nat):Pol K:=⟨fun i=>if i=k then c else 0,k+1,fun j hj=>if_neg (by omega)⟩
abbrev C (c:K):Pol K:=mn c 0
theorem mn_mul (c:K) (k:Nat) (a:Pol K) (i:Nat):(mn c k*a).f i=if k≤i then c*a.f (i-k)else 0:=by
 show cv (fun i=>if i=k then c else 0) a.f i=_
 unfold cv
 split
 ·rw[sm_one (k:=k) (by omega) fun j hj hne=>by dsimp only;rw[if_neg hne,zero_mul]]
  dsimp only
  rw[if_pos rfl]
 ·exact sm_zero fun j hj=>by dsimp only;rw[if_neg (by omega),zero_mul]
theorem C_mul (c:K) (a:Pol K) (i:Nat):(C c*a).f i=c*a.f i:=by rw[mn_mul,if_pos (Nat.zero_le _)];rfl
open Classical in
theorem ex_len (a:Pol K):∃ n,(∀ j,n≤j->a.f j=0)/\∀ k,n=k+1->a.f k≠0:=by
 obtain⟨n,hn⟩:=a.fin
 induction n with
 | zero=>exact⟨0,hn,fun k h=>by omega⟩
 | succ n ih =>
  by_cases h:a.f n=0
  ·exact ih fun j hj=>by
    by_cases e:j=n
    ·rw[e,h]
    ·exact hn j (by omega)
  ·exact⟨n+1,hn,fun k hk=>by rw[show k=n by omega];exact h⟩
noncomputable def len (a:Pol K):Nat:=(ex_len a).choose
theorem len_out (a:Pol K):∀ j,a.len≤j->a.f j=0:=(ex_len a).choose_spec.1
theorem len_top (a:Pol K) {k:Nat} (h:a.len=k+1):a.f k≠0:=(ex_len a).choose_spec.2 k h
theorem len_le {a:Pol K} {n:Nat} (h:∀ j,n≤j->a.f j=0):a.len≤n:=by
 rcases Nat.lt_or_ge n a.len with h1 | h1
 ·exact absurd (h (a.len-1) (by omega)) (len_top a (by omega))
 ·exact h1
theorem len_eq {a:Pol K} {k:Nat} (h:∀ j,k+1≤j->a.f j=0) (ht:a.f k≠0):a.len=k+1:=by
 have h1:=len_le h
 rcases Nat.lt_or_ge k a.len with h2 | h2
 ·omega
 ·exact absurd (len_out a k h2) ht
theorem len_zero:(0:Pol K).len=0:=Nat.le_zero.1 (len_le fun _ _=>rfl)
theorem len_nil {a:Pol K} (h:a.len=0):a=0:=ext fun i=>len_out a i (by omega)
theorem len_pos {a:Pol K} (h:a≠0):0<a.len:=Nat.pos_of_ne_zero fun e=>h (len_nil e)
theorem ne_of_len {a:Pol K} (h:0<a.len):a≠0:=fun e=>by rw[e,len_zero]at h;omega
theorem len_add (a b:Pol K):(a+b).len≤max a.len b.len:=len_le fun j hj=>by
 rw[f_add,len_out a j (by omega),len_out b j (by omega),Crg.add_zero]
theorem len_sub (a b:Pol K):(a-b).len≤max a.len b.len:=len_le fun j hj=>by
 rw[f_sub,len_out a j (by omega),len_out b j (by omega),sub_self]
theorem len_mn (c:K) (k:Nat):(mn c k:Pol K).len≤k+1:=len_le fun j hj=>if_neg (by omega)
theorem top_mul {a b:Pol K} {k l:Nat} (ha:a.len≤k+1) (hb:b.len≤l+1):(a*b).f (k+l)=a.f k*b.f l:=by
 show cv a.f b.f (k+l)=_
 unfold cv
 rw[sm_one (k:=k) (by omega) fun j hj hne=>?_]
 ·rw[show k+l-k=l by omega]
 ·rcases Nat.lt_or_ge j k with h | h
  ·rw[len_out b (k+l-j) (by omega),mul_zero]
  ·rw[len_out a j (by omega),zero_mul]
noncomputable def lead (a:Pol K):K:=a.f (a.len-1)
theorem lead_ne {a:Pol K} (h:a≠0):a.lead≠0:=len_top a (by have:=len_pos h;omega)
def Monic (a:Pol K):Prop:=0<a.len/\a.lead=1
def Dvs (a b:Pol K):Prop:=∃ c,b=a*c
end
section
variable {K:Type} [Fld K]
theorem len_mul {a b:Pol K} (ha:a≠0) (hb:b≠0):(a*b).len+1=a.len+b.len:=by
 have h1:=len_pos ha
 have h2:=len_pos hb
 have e:=len_eq (a:=a*b) (k:=a.len-1+(b.len-1)) (fun j hj=>cv_fin (len_out a) (len_out b) j (by omega)) (by
  rw[top_mul (by omega) (by omega)]
  intro h
  rcases Fld.domain h with h | h
  ·exact lead_ne ha h
  ·exact lead_ne hb h)
 omega
theorem domain {a b:Pol K} (h:a*b=0):a=0∨b=0:=by
 by_cases ha:a=0
 ·exact .inl ha
 by_cases hb:b=0
 ·exact .inr hb
 have:=len_mul ha hb
 have:=len_pos ha
 have:=len_pos hb
 rw[h,len_zero]at *
 omega
theorem cancel {a b c:Pol K} (ha:a≠0) (h:a*b=a*c):b=c:=by
 have:a*(b-c)=0:=by
  rw[show a*(b-c)=a*b-a*c from RE.eq [a,b,c] (t0*(t1-t2)) (t0*t1-t0*t2) rfl,h,sub_self]
 exact sub_eq_zero.1 ((domain this).resolve_left ha)
theorem Dvs.len {a b:Pol K} (h:Dvs a b) (hb:b≠0):a.len≤b.len:=by
 obtain⟨c,rfl⟩:=h
 have ha:a≠0:=fun e=>hb (by rw[e,zero_mul])
 have hc:c≠0:=fun e=>hb (by rw[e,mul_zero])
 have:=len_mul ha hc
 have:=len_pos hc
 omega
theorem one_ne:(1:Pol K)≠0:=fun e=>Fld.one_ne (K:=K) (by
 have:=congrArg (fun a:Pol K=>a.f 0) e
 exact this)
theorem len_C {c:K} (h:c≠0):(C c:Pol K).len=1:=len_eq (fun j hj=>if_neg (by omega)) (by show(if 0=0 then c else 0)≠0;rw[if_pos rfl];exact h)
theorem len_one:(1:Pol K).len=1:=len_C Fld.one_ne
theorem eq_C {a:Pol K} (h:a.len≤1):a=C (a.f 0):=ext fun i=>by
 show a.f i=if i=0 then a.f 0 else 0
 split
 ·rename_i e;rw[e]
 ·exact len_out a i (by omega)
theorem divide (b : Pol K) (hb : b ≠ 0) : ∀ (n : Nat) (a : Pol K), a.len ≤ n → ∃ q r, a = q * b + r ∧ r.len < b.len
 | 0,a,h=>⟨0,a,by rw[zero_mul,zero_add],by have:=len_pos hb;omega⟩
 | n+1,a,h=>by
  rcases Nat.lt_or_ge a.len b.len with h1 | h1
  ·exact⟨0,a,by rw[zero_mul,zero_add],h1⟩
  have h2:=len_pos hb
  have hl:=lead_ne hb
  let m:Pol K:=mn (a.lead*Fld.inv b.lead) (a.len-b.len)
  have hs:(a-m*b).len≤n:=len_le fun j hj=>by
   rw[f_sub,mn_mul]
   rcases Nat.lt_or_ge j a.len with h3 | h3
   ·have e:j=a.len-1:=by omega
    rw[if_pos (by omega),show j-(a.len-b.len)=b.len-1 by omega]
    show a.f j-a.lead*Fld.inv b.lead*b.lead=0
    rw[Crg.mul_assoc,Crg.mul_comm (Fld.inv b.lead),Fld.mul_inv _ hl,Crg.mul_one,e]
    exact sub_self _
   ·rw[len_out a j h3,if_pos (by omega),len_out b _ (by omega),mul_zero,sub_self]
  obtain⟨q,r,e,hr⟩:=divide b hb n (a-m*b) hs
  refine⟨m+q,r,?_,hr⟩
  have:a=m*b+(a-m*b):=RE.eq [a,m,b] t0 (t1*t2+(t0-t1*t2)) rfl
  rw[this,e]
  exact RE.eq [m,b,q,r] (t0*t1+(t2*t1+t3)) ((t0+t2)*t1+t3) rfl
theorem div_ex (a:Pol K) {b:Pol K} (hb:b≠0):∃ q r,a=q*b+r/\r.len<b.len:=divide b hb a.len a (Nat.le_refl _)
end
end Pol
end Go.Proofs.YtkmbnldginonbaaGreat
/- The field of p elements; polynomials over it modulo an irreducible one: Fermat, Frobenius, the number of roots. Plain: no program. -/
namespace Go.Proofs.YtkmbnldginonbaaGreat
open Crg
class Prm (p : Int) : Prop where
 two:2≤p
 inv:∀ a:Int,a%p≠0->∃ b:Int,(a*b)%p=1
namespace Zp
section
variable {p:Int} [hp:Prm p]
end
end Zp
namespace Crg
section
variable {α:Type} [Crg α]
def nc : Nat → α
 | 0=>0
 | n+1=>nc n+1
theorem nc_add (m : Nat) : ∀ n, (nc (m + n) : α) = nc m + nc n
 | 0=>(add_zero _).symm
 | n+1=>by
  show nc (m+n)+1=nc m+(nc n+1)
  rw[nc_add m n,add_assoc]
end
end Crg
end Go.Proofs.YtkmbnldginonbaaGreat
/- Polynomials over the field of p elements modulo an irreducible one. Plain: no program. -/
namespace Go.Proofs.YtkmbnldginonbaaGreat
open Crg
namespace Pol
section
variable {K:Type} [Crg K]
def X:Pol K:=mn 1 1
theorem C_zero:(C 0:Pol K)=0:=ext fun i=>by
 show(if i=0 then(0:K)else 0)=0
 split <;> rfl
end
end Pol
section
variable {p:Int} [hp:Prm p]
end
section
variable {p:Int} [hp:Prm p] {α:Type} [Crg α]
end
section
variable {p:Int} [hp:Prm p]
open Pol
end
/-! ### Roots modulo an irreducible polynomial -/
section
variable {R:Type} [Crg R]
def hv (y : R) : List R → R
 | []=>0
 | c :: l=>c+y*hv y l
end
end Go.Proofs.YtkmbnldginonbaaGreat
/- Polynomials over the field of p elements by their digits; Fermat modulo an irreducible polynomial; which irreducible polynomials divide x^(p^d) - x. Plain: no program. -/
namespace Go.Proofs.YtkmbnldginonbaaGreat
open Crg Pol
section
variable {p:Int} [hp:Prm p]
end
/-! ### Remainders -/
namespace Pol
section
variable {K:Type} [Fld K]
end
end Pol
section
variable {p:Int} [hp:Prm p]
end
end Go.Proofs.YtkmbnldginonbaaGreat
/- The derivative; polynomials without square divisors; irreducible polynomials of each degree. Plain: no program. -/
namespace Go.Proofs.YtkmbnldginonbaaGreat
open Crg
namespace Pol
section
variable {K:Type} [Crg K]
end
section
variable {K:Type} [Fld K]
end
end Pol
open Pol
section
variable {p:Int} [hp:Prm p]
end
end Go.Proofs.YtkmbnldginonbaaGreat
/- Values of polynomials; reciprocity of irreducible polynomials over the field of p elements. Plain: no program. -/
namespace Go.Proofs.YtkmbnldginonbaaGreat
open Crg
structure Hm {A B : Type} [Crg A] [Crg B] (φ : A → B) : Prop where
 add:∀ a b,φ (a+b)=φ a+φ b
 mul:∀ a b,φ (a*b)=φ a*φ b
 one:φ 1=1
namespace Hm
variable {A B:Type} [Crg A] [Crg B] {φ:A->B}
theorem zero (h:Hm φ):φ 0=0:=by
 have:=h.add 0 0
 rw[add_zero]at this
 exact add_left_cancel (a:=φ 0) (by rw[add_zero];exact this.symm)
theorem neg (h:Hm φ) (a:A):φ (-a) = -φ a:=neg_eq (by rw[← h.add,add_neg,h.zero])
theorem sub (h:Hm φ) (a b:A):φ (a-b)=φ a-φ b:=by rw[sub_def,h.add,h.neg,← sub_def]
end Hm
namespace Pol
section
variable {A B:Type} [Crg A] [Crg B]
noncomputable def ev (φ:A->B) (y:B) (a:Pol A):B:=sm (fun i=>φ (a.f i)*pw y i) a.len
noncomputable def up (a:Pol A):Pol (Pol A):=ev (fun c=>C (C c)) X a
end
section
variable {R:Type} [Crg R]
end
end Pol
end Go.Proofs.YtkmbnldginonbaaGreat
/- Matrices over a commutative ring: products, powers, traces; companion matrices and Newton's identities. Plain: no program. -/
namespace Go.Proofs.YtkmbnldginonbaaGreat
open Crg Pol
namespace Mx
section
variable {R:Type} {n:Nat} {A B C:Nat->Nat->R}
def Eqn (n:Nat) (A B:Nat->Nat->R):Prop:=∀ i j,i<n->j<n->A i j=B i j
theorem Eqn.refl (A:Nat->Nat->R):Eqn n A A:=fun _ _ _ _=>rfl
theorem Eqn.symm (h:Eqn n A B):Eqn n B A:=fun i j hi hj=>(h i j hi hj).symm
theorem Eqn.trans (h:Eqn n A B) (k:Eqn n B C):Eqn n A C:=fun i j hi hj=>(h i j hi hj).trans (k i j hi hj)
end
section
variable {R:Type} [Crg R]
def mm (n:Nat) (A B:Nat->Nat->R) (i j:Nat):R:=sm (fun a=>A i a*B a j) n
def mI (i j:Nat):R:=if i=j then 1 else 0
def mpw (n : Nat) (A : Nat → Nat → R) : Nat → Nat → Nat → R
 | 0=>mI
 | k+1=>mm n A (mpw n A k)
def tr (n:Nat) (A:Nat->Nat->R):R:=sm (fun i=>A i i) n
variable {n:Nat} {A B C D:Nat->Nat->R}
theorem mm_assoc (n:Nat) (A B C:Nat->Nat->R) (i j:Nat):mm n (mm n A B) C i j=mm n A (mm n B C) i j:=by
 show sm (fun b=>sm (fun a=>A i a*B a b) n*C b j) n=sm (fun a=>A i a*sm (fun b=>B a b*C b j) n) n
 rw[sm_congr fun b _=>sm_mul (C b j) (fun a=>A i a*B a b) n,sm_congr fun a _=>mul_sm (A i a) (fun b=>B a b*C b j) n,sm_swap (fun b a=>A i a*B a b*C b j) n n]
 exact sm_congr fun a _=>sm_congr fun b _=>mul_assoc _ _ _
theorem mm_congr (h:Eqn n A C) (k:Eqn n B D):Eqn n (mm n A B) (mm n C D):=fun i j hi hj=>sm_congr fun a ha=>by rw[h i a hi ha,k a j ha hj]
theorem I_mm {i:Nat} (hi:i<n) (j:Nat):mm n mI A i j=A i j:=by
 show sm (fun a=>(if i=a then 1 else 0)*A a j) n=_
 rw[sm_one hi fun a _ ha=>by rw[if_neg fun e=>ha e.symm,zero_mul],if_pos rfl,one_mul]
theorem mm_I {j:Nat} (hj:j<n) (i:Nat):mm n A mI i j=A i j:=by
 show sm (fun a=>A i a*(if a=j then 1 else 0)) n=_
 rw[sm_one hj fun a _ ha=>by rw[if_neg ha,mul_zero],if_pos rfl,mul_one]
theorem tr_congr (h:Eqn n A B):tr n A=tr n B:=sm_congr fun i hi=>h i i hi hi
theorem tr_mm (n:Nat) (A B:Nat->Nat->R):tr n (mm n A B)=tr n (mm n B A):=by
 show sm (fun i=>sm (fun a=>A i a*B a i) n) n=sm (fun i=>sm (fun a=>B i a*A a i) n) n
 rw[sm_swap (fun i a=>A i a*B a i) n n]
 exact sm_congr fun a _=>sm_congr fun b _=>mul_comm _ _
theorem mm_sm (f:Nat->Nat->Nat->R) (m i j:Nat):mm n A (fun a b=>sm (fun t=>f t a b) m) i j=sm (fun t=>mm n A (f t) i j) m:=by
 show sm (fun a=>A i a*sm (fun t=>f t a j) m) n=_
 rw[sm_congr fun a _=>mul_sm (A i a) (fun t=>f t a j) m]
 exact sm_swap (fun a t=>A i a*f t a j) m n
theorem mm_sc (c:R) (i j:Nat):mm n A (fun a b=>c*B a b) i j=c*mm n A B i j:=by
 show sm (fun a=>A i a*(c*B a j)) n=c*sm (fun a=>A i a*B a j) n
 rw[mul_sm]
 exact sm_congr fun a _=>mul_left_comm _ _ _
theorem tr_sm (f:Nat->Nat->Nat->R) (m:Nat):tr n (fun a b=>sm (fun t=>f t a b) m)=sm (fun t=>tr n (f t)) m:=sm_swap (fun i t=>f t i i) m n
theorem tr_sc (c:R):tr n (fun a b=>c*A a b)=c*tr n A:=(mul_sm c (fun i=>A i i) n).symm
theorem nc_sm : ∀ n : Nat, sm (fun _ => (1 : R)) n = nc n
 | 0=>rfl
 | n+1=>by
  show sm (fun _=>(1:R)) n+1=nc n+1
  rw[nc_sm n]
theorem tr_I (n:Nat):tr n (mI:Nat->Nat->R)=nc n:=by
 rw[← nc_sm]
 exact sm_congr fun i _=>if_pos rfl
theorem mpw_link {T : Nat → Nat → R} (h : Eqn n (mm n A T) (mm n T B)) : ∀ k, Eqn n (mm n (mpw n A k) T) (mm n T (mpw n B k))
 | 0=>fun i j hi hj=>by rw[show mpw n A 0=mI from rfl,show mpw n B 0=mI from rfl,I_mm hi,mm_I hj]
 | k+1=>by
  have e1:Eqn n (mm n (mpw n A (k+1)) T) (mm n A (mm n T (mpw n B k))):=fun i j hi hj=>by
   show mm n (mm n A (mpw n A k)) T i j=_
   rw[mm_assoc]
   exact mm_congr (Eqn.refl A) (mpw_link h k) i j hi hj
  have e2:Eqn n (mm n A (mm n T (mpw n B k))) (mm n (mm n T B) (mpw n B k)):=fun i j hi hj=>by
   rw[← mm_assoc]
   exact mm_congr h (Eqn.refl _) i j hi hj
  exact(e1.trans e2).trans fun i j _ _=>mm_assoc n T B _ i j
theorem tr_link {T S:Nat->Nat->R} (h:Eqn n (mm n A T) (mm n T B)) (h1:Eqn n (mm n T S) mI) (h2:Eqn n (mm n S T) mI) (k:Nat):tr n (mpw n B k)=tr n (mpw n A k):=by
 have e1:Eqn n (mpw n B k) (mm n S (mm n T (mpw n B k))):=fun i j hi hj=>by
  rw[← mm_assoc,mm_congr h2 (Eqn.refl _) i j hi hj,I_mm hi]
 have e2:Eqn n (mm n S (mm n T (mpw n B k))) (mm n S (mm n (mpw n A k) T)):=mm_congr (Eqn.refl _) (mpw_link h k).symm
 rw[tr_congr (e1.trans e2),tr_mm]
 refine tr_congr fun i j hi hj=>?_
 rw[mm_assoc,mm_congr (Eqn.refl _) h1 i j hi hj,mm_I hj]
def cm (n:Nat) (c:Nat->R) (j i:Nat):R:=(if j=i+1 then 1 else 0)-(if i+1=n then c j else 0)
theorem cm_mm {c:Nat->R} {T:Nat->Nat->R} {j k:Nat} (hj:j<n):mm n (cm n c) T j k=(if 1≤j then T (j-1) k else 0)-c j*T (n-1) k:=by
 have e:∀ a,cm n c j a*T a k=(if j=a+1 then 1 else 0)*T a k + -((if a+1=n then c j else 0)*T a k):=fun a=>by
  show((if j=a+1 then 1 else 0)-(if a+1=n then c j else 0))*T a k=_
  rw[sub_def,add_mul,neg_mul]
 show sm (fun a=>cm n c j a*T a k) n=_
 rw[sm_congr fun a _=>e a,sm_add,sm_neg]
 have e2:sm (fun a=>(if a+1=n then c j else 0)*T a k) n=c j*T (n-1) k:=by
  rw[sm_one (k:=n-1) (by omega) fun a _ ha=>by rw[if_neg (by omega),zero_mul],if_pos (by omega)]
 have e1:sm (fun a=>(if j=a+1 then 1 else 0)*T a k) n=if 1≤j then T (j-1) k else 0:=by
  split
  ·rw[sm_one (k:=j-1) (by omega) fun a _ ha=>by rw[if_neg (by omega),zero_mul],if_pos (by omega),one_mul]
  ·exact sm_zero fun a _=>by rw[if_neg (by omega),zero_mul]
 rw[e1,e2,← sub_def]
def gr (n : Nat) (c : Nat → R) : Nat → Nat → Nat → R
 | 0=>mI
 | r+1=>fun j i=>mm n (cm n c) (gr n c r) j i+c (n-1-r)*mI j i
def uu (n:Nat) (c:Nat->R) (r j i:Nat):R:=if i+r<n then(if i≤j then c (n-r+(j-i))else 0)else(if i+r-n≤j/\j<i then -c (j-(i+r-n))else 0)
theorem gr_eq {c : Nat → R} (h1 : c n = 1) (h0 : ∀ m, n < m → c m = 0) : ∀ r, r ≤ n → Eqn n (gr n c r) (uu n c r)
 | 0,_=>fun j i hj hi=>by
  show(if j=i then 1 else 0)=uu n c 0 j i
  unfold uu
  rw[if_pos (show i+0<n by omega)]
  by_cases e:j=i
  ·rw[if_pos e,if_pos (show i≤j by omega),show n-0+(j-i)=n by omega,h1]
  ·rw[if_neg e]
   split
   ·rw[h0 _ (by omega)]
   ·rfl
 | r+1,hr=>fun j i hj hi=>by
  have ih:=gr_eq h1 h0 r (by omega)
  show mm n (cm n c) (gr n c r) j i+c (n-1-r)*mI j i=_
  rw[mm_congr (Eqn.refl (cm n c)) ih j i hj hi,cm_mm hj]
  have eI:c (n-1-r)*mI j i=if j=i then c (n-1-r)else 0:=by
   unfold mI
   split
   ·rw[mul_one]
   ·rw[mul_zero]
  rw[eI]
  unfold uu
  rcases Nat.lt_or_ge (i+(r+1)) n with h | h
  ·-- the column is not yet wrapped
   rw[if_pos (show i+r<n by omega),if_pos (show i+r<n by omega),if_pos (show i+(r+1)<n by omega),if_pos (show i≤n-1 by omega),h0 (n-r+(n-1-i)) (by omega),mul_zero,sub_zero]
   rcases Nat.lt_trichotomy j i with h3 | h3 | h3
   ·rw[if_neg (show ¬ j=i by omega),add_zero,if_neg (show ¬ i≤j by omega)]
    split
    ·rw[if_neg (by omega)]
    ·rfl
   ·rw[if_pos h3,if_pos (show i≤j by omega),show n-(r+1)+(j-i)=n-1-r by omega]
    split
    ·rw[if_neg (by omega),zero_add]
    ·rw[zero_add]
   ·rw[if_neg (show ¬ j=i by omega),add_zero,if_pos (show 1≤j by omega),if_pos (show i≤j-1 by omega),if_pos (show i≤j by omega),show n-r+(j-1-i)=n-(r+1)+(j-i)by omega]
  ·rw[if_neg (show ¬ i+(r+1)<n by omega)]
   by_cases hk:i+r<n
   ·-- the column that wraps now
    rw[if_pos hk,if_pos hk,if_pos (show i≤n-1 by omega),show n-r+(n-1-i)=n by omega,h1,mul_one,show i+(r+1)-n=0 by omega,Nat.sub_zero]
    rcases Nat.lt_trichotomy j i with h3 | h3 | h3
    ·rw[if_neg (show ¬ j=i by omega),add_zero,if_pos (show 0≤j/\j<i by omega)]
     split
     ·rw[if_neg (by omega),sub_def,zero_add]
     ·rw[sub_def,zero_add]
    ·rw[if_pos h3,if_neg (show ¬(0≤j/\j<i)by omega),show n-1-r=j by omega]
     split
     ·rw[if_neg (by omega),sub_def,zero_add,neg_add]
     ·rw[sub_def,zero_add,neg_add]
    ·rw[if_neg (show ¬ j=i by omega),add_zero,if_neg (show ¬(0≤j/\j<i)by omega),if_pos (show 1≤j by omega),if_pos (show i≤j-1 by omega),show n-r+(j-1-i)=j by omega,sub_self]
   ·rw[if_neg hk,if_neg hk,if_neg (show ¬(i+r-n≤n-1/\n-1<i)by omega),mul_zero,sub_zero]
    rcases Nat.lt_trichotomy j i with h3 | h3 | h3
    ·rw[if_neg (show ¬ j=i by omega),add_zero]
     by_cases h4:i+(r+1)-n≤j/\j<i
     ·rw[if_pos h4,if_pos (show 1≤j by omega),if_pos (show i+r-n≤j-1/\j-1<i by omega),show j-1-(i+r-n)=j-(i+(r+1)-n)by omega]
     ·rw[if_neg h4]
      split
      ·rw[if_neg (by omega)]
      ·rfl
    ·rw[if_pos h3,if_neg (show ¬(i+(r+1)-n≤j/\j<i)by omega),if_pos (show 1≤j by omega),if_pos (show i+r-n≤j-1/\j-1<i by omega),show j-1-(i+r-n)=n-1-r by omega,neg_add]
    ·rw[if_neg (show ¬ j=i by omega),add_zero,if_neg (show ¬(i+(r+1)-n≤j/\j<i)by omega),if_pos (show 1≤j by omega),if_neg (by omega)]
theorem gr_sum {c : Nat → R} (h1 : c n = 1) : ∀ r, r ≤ n → Eqn n (gr n c r) fun a b => sm (fun t => c (n - r + t) * mpw n (cm n c) t a b) (r + 1)
 | 0,_=>fun i j hi hj=>by
  show mI i j=0+c (n-0+0)*mI i j
  rw[Nat.sub_zero,Nat.add_zero,h1,zero_add,one_mul]
 | r+1,hr=>fun i j hi hj=>by
  show mm n (cm n c) (gr n c r) i j+c (n-1-r)*mI i j=sm (fun t=>c (n-(r+1)+t)*mpw n (cm n c) t i j) (r+1+1)
  rw[mm_congr (Eqn.refl (cm n c)) (gr_sum h1 r (by omega)) i j hi hj,mm_sm,sm_head (fun t=>c (n-(r+1)+t)*mpw n (cm n c) t i j),show n-(r+1)+0=n-1-r by omega,add_comm]
  refine congrArg (c (n-1-r)*mI i j+·) ?_
  refine sm_congr fun t ht=>?_
  rw[mm_sc,show n-(r+1)+(t+1)=n-r+t by omega]
  rfl
theorem newton_cm {c:Nat->R} (h1:c n=1) (h0:∀ m,n<m->c m=0) {r:Nat} (hr:r≤n):sm (fun t=>c (n-r+t)*tr n (mpw n (cm n c) t)) (r+1)=nc (n-r)*c (n-r):=by
 have e1:sm (fun t=>c (n-r+t)*tr n (mpw n (cm n c) t)) (r+1)=tr n (gr n c r):=by
  rw[tr_congr (gr_sum h1 r hr),tr_sm]
  exact sm_congr fun t _=>(tr_sc _).symm
 rw[e1,tr_congr (gr_eq h1 h0 r hr)]
 show sm (fun i=>uu n c r i i) n=_
 have e2:∀ i,i<n->uu n c r i i=if i<n-r then c (n-r)else 0:=fun i hi=>by
  unfold uu
  by_cases h:i+r<n
  ·rw[if_pos h,if_pos (Nat.le_refl i),if_pos (show i<n-r by omega),Nat.sub_self,Nat.add_zero]
  ·rw[if_neg h,if_neg (show ¬(i+r-n≤i/\i<i)by omega),if_neg (show ¬ i<n-r by omega)]
 rw[sm_congr e2]
 have e3:sm (fun i=>if i<n-r then c (n-r)else 0) n=sm (fun i=>if i<n-r then c (n-r)else 0) (n-r):=sm_more (fun i hi=>if_neg (by omega)) (by omega)
 rw[e3,sm_congr fun i hi=>if_pos hi,← nc_sm,sm_mul]
 exact sm_congr fun i _=>(one_mul _).symm
theorem root_cm {c:Nat->R} (h1:c n=1) (h0:∀ m,n<m->c m=0):Eqn n (fun a b=>sm (fun t=>c t*mpw n (cm n c) t a b) (n+1)) fun _ _=>0:=fun i j hi hj=>by
 have h:=gr_sum h1 n (Nat.le_refl n) i j hi hj
 rw[gr_eq h1 h0 n (Nat.le_refl n) i j hi hj]at h
 have e:uu n c n i j=0:=by
  unfold uu
  rw[if_neg (by omega),if_neg (by omega)]
 rw[e]at h
 show sm (fun t=>c t*mpw n (cm n c) t i j) (n+1)=0
 rw[h]
 exact sm_congr fun t _=>by rw[Nat.sub_self,Nat.zero_add]
end
end Mx
end Go.Proofs.YtkmbnldginonbaaGreat
/- Hessenberg matrices: the polynomials of the leading blocks; Newton's identities and the theorem of Cayley and Hamilton for them. Plain: no program. -/
namespace Go.Proofs.YtkmbnldginonbaaGreat
open Crg Pol
namespace Mx
section
variable {R:Type} [Crg R]
noncomputable def hps (W : Nat → Nat → R) : Nat → Nat → Pol R
 | 0=>fun _=>1
 | k+1=>fun i=>if i≤k then hps W k i else X*hps W k k-sm (fun i=>C (W i k)*hps W k i) (k+1)
noncomputable def hp (W:Nat->Nat->R) (k:Nat):Pol R:=hps W k k
variable {W:Nat->Nat->R} {n:Nat}
theorem hps_le (W : Nat → Nat → R) : ∀ {k i : Nat}, i ≤ k → hps W k i = hp W i
 | 0,i,h=>by
  obtain rfl:i=0:=by omega
  rfl
 | k+1,i,h=>by
  rcases Nat.lt_or_ge i (k+1)with h1 | h1
  ·show(if i≤k then hps W k i else _)=_
   rw[if_pos (by omega),hps_le W (by omega)]
  ·obtain rfl:i=k+1:=by omega
   rfl
theorem hp_succ (W:Nat->Nat->R) (k:Nat):hp W (k+1)=X*hp W k-sm (fun i=>C (W i k)*hp W i) (k+1):=by
 show(if k+1≤k then hps W k (k+1)else X*hps W k k-sm (fun i=>C (W i k)*hps W k i) (k+1))=_
 rw[if_neg (by omega)]
 show X*hp W k-_=_
 rw[sm_congr fun i hi=>by rw[hps_le W (show i≤k by omega)]]
theorem sm_f (f : Nat → Pol R) (j : Nat) : ∀ m, (sm f m).f j = sm (fun i => (f i).f j) m
 | 0=>rfl
 | m+1=>by
  show(sm f m+f m).f j=sm (fun i=>(f i).f j) m+(f m).f j
  rw[f_add,sm_f f j m]
theorem X_mul_at (a:Pol R) (j:Nat):(X*a).f j=if 1≤j then a.f (j-1)else 0:=by
 show(mn 1 1*a).f j=_
 rw[mn_mul]
 split
 ·rw[one_mul]
 ·rfl
theorem hp_at (W:Nat->Nat->R) (k j:Nat):(hp W (k+1)).f j=(if 1≤j then(hp W k).f (j-1)else 0)-sm (fun i=>W i k*(hp W i).f j) (k+1):=by
 rw[hp_succ,f_sub,X_mul_at,sm_f]
 rw[sm_congr fun i _=>C_mul (W i k) (hp W i) j]
theorem hp_deg (W:Nat->Nat->R):∀ k,(∀ j,k<j->(hp W k).f j=0)/\(hp W k).f k=1:=by
 have key:∀ m k,k≤m->(∀ j,k<j->(hp W k).f j=0)/\(hp W k).f k=1:=by
  intro m
  induction m with
  | zero =>
   intro k hk
   obtain rfl:k=0:=by omega
   exact⟨fun j hj=>(f_one j).trans (if_neg (by omega)),rfl⟩
  | succ m ih =>
   intro k hk
   rcases Nat.lt_or_ge k (m+1)with h | h
   ·exact ih k (by omega)
   ·obtain rfl:k=m+1:=by omega
    refine⟨fun j hj=>?_,?_⟩
    ·rw[hp_at,if_pos (by omega),(ih m (Nat.le_refl m)).1 _ (by omega),sm_zero fun i hi=>by rw[(ih i (by omega)).1 j (by omega),mul_zero],sub_self]
    ·rw[hp_at,if_pos (by omega),Nat.add_sub_cancel,(ih m (Nat.le_refl m)).2,sm_zero fun i hi=>by rw[(ih i (by omega)).1 _ (by omega),mul_zero],sub_zero]
 exact fun k=>key k k (Nat.le_refl k)
def um (W:Nat->Nat->R) (i k:Nat):R:=if i=k+1 then 1 else if i≤k then W i k else 0
theorem um_sum (f:Nat->R) {k:Nat} (hk:k<n):sm (fun a=>f a*um W a k) n=sm (fun a=>f a*W a k) (k+1)+(if k+1<n then f (k+1)else 0):=by
 have e0:sm (fun a=>f a*um W a k) (k+1)=sm (fun a=>f a*W a k) (k+1):=sm_congr fun a ha=>by
  unfold um
  rw[if_neg (by omega),if_pos (by omega)]
 split
 ·next h =>
  rw[sm_more (n:=k+2) (fun a ha=>by
   unfold um
   rw[if_neg (by omega),if_neg (by omega),mul_zero]) (by omega)]
  show sm (fun a=>f a*um W a k) (k+1)+f (k+1)*um W (k+1) k=_
  rw[e0,show um W (k+1) k=1 from if_pos rfl,mul_one]
 ·obtain rfl:n=k+1:=by omega
  rw[e0,add_zero]
noncomputable def tm (W:Nat->Nat->R) (j k:Nat):R:=(hp W k).f j
theorem tm_link (W:Nat->Nat->R) (n:Nat):Eqn n (mm n (cm n (hp W n).f) (tm W)) (mm n (tm W) (um W)):=fun j k hj hk=>by
 rw[cm_mm hj]
 show _=sm (fun a=>tm W j a*um W a k) n
 rw[um_sum (fun a=>tm W j a) hk]
 have e:(if 1≤j then tm W (j-1) k else 0)=tm W j (k+1)+sm (fun a=>tm W j a*W a k) (k+1):=by
  show _=(hp W (k+1)).f j+_
  rw[hp_at,sub_def,add_assoc,show sm (fun a=>tm W j a*W a k) (k+1)=sm (fun i=>W i k*(hp W i).f j) (k+1)from sm_congr fun i _=>mul_comm _ _,neg_add,add_zero]
  rfl
 rw[e]
 by_cases h:k+1<n
 ·rw[if_pos h,show tm W (n-1) k=0 from(hp_deg W k).1 _ (by omega),mul_zero,sub_zero,add_comm]
 ·obtain rfl:n=k+1:=by omega
  rw[if_neg h,add_zero,show tm W (k+1-1) k=1 from(hp_deg W k).2,mul_one]
  show tm W j (k+1)+_-tm W j (k+1)=_
  rw[sub_def,add_comm (tm W j (k+1)),add_assoc,add_neg,add_zero]
def sv (n:Nat) (W:Nat->Nat->R) (j k:Nat):R:=mpw n (um W) k j 0
theorem cm_e {c : Nat → R} : ∀ k, k < n → ∀ j, j < n → mpw n (cm n c) k j 0 = if j = k then 1 else 0
 | 0,_,j,_=>rfl
 | k+1,hk,j,hj=>by
  show mm n (cm n c) (mpw n (cm n c) k) j 0=_
  rw[cm_mm hj,cm_e k (by omega) (n-1) (by omega),if_neg (show ¬ n-1=k by omega),mul_zero,sub_zero]
  split
  ·rw[cm_e k (by omega) (j-1) (by omega)]
   by_cases e:j=k+1
   ·rw[if_pos (by omega),if_pos e]
   ·rw[if_neg (by omega),if_neg e]
  ·rw[if_neg (by omega)]
theorem tm_sv (W:Nat->Nat->R) (n:Nat):Eqn n (mm n (tm W) (sv n W)) mI:=fun j k hj hk=>by
 show mm n (tm W) (mpw n (um W) k) j 0=_
 rw[← mpw_link (tm_link W n) k j 0 hj (by omega)]
 show sm (fun a=>mpw n (cm n (hp W n).f) k j a*(hp W 0).f a) n=_
 rw[sm_one (k:=0) (by omega) fun a _ ha=>by rw[(hp_deg W 0).1 a (by omega),mul_zero],(hp_deg W 0).2,mul_one,cm_e k hk j hj]
 rfl
theorem sv_tm (W:Nat->Nat->R) (n:Nat):∀ k,k<n->∀ j,j<n->mm n (sv n W) (tm W) j k=mI j k:=by
 have key:∀ m k,k≤m->k<n->∀ j,j<n->mm n (sv n W) (tm W) j k=mI j k:=by
  intro m
  induction m with
  | zero =>
   intro k hk hn j hj
   obtain rfl:k=0:=by omega
   show sm (fun a=>sv n W j a*(hp W 0).f a) n=_
   rw[sm_one (k:=0) hn fun a _ ha=>by rw[(hp_deg W 0).1 a (by omega),mul_zero],(hp_deg W 0).2,mul_one]
   rfl
  | succ m ih =>
   intro k hk hn j hj
   rcases Nat.lt_or_ge k (m+1)with h | h
   ·exact ih k (by omega) hn j hj
   ·obtain rfl:k=m+1:=by omega
    -- the next polynomial: multiplied by x, less the sum
    have e1:mm n (sv n W) (tm W) j (m+1)=sm (fun a=>sv n W j a*(if 1≤a then tm W (a-1) m else 0)) n-sm (fun i=>W i m*mm n (sv n W) (tm W) j i) (m+1):=by
     have e2:∀ a,sv n W j a*tm W a (m+1)=sv n W j a*(if 1≤a then tm W (a-1) m else 0) + -(sm (fun i=>W i m*(sv n W j a*tm W a i)) (m+1)):=fun a=>by
      show sv n W j a*(hp W (m+1)).f a=_
      rw[hp_at,sub_def,mul_add,mul_neg,mul_sm]
      refine congrArg (_ + -·) (sm_congr fun i _=>?_)
      exact mul_left_comm _ _ _
     show sm (fun a=>sv n W j a*tm W a (m+1)) n=_
     rw[sm_congr fun a _=>e2 a,sm_add,sm_neg,← sub_def,sm_swap (fun a i=>W i m*(sv n W j a*tm W a i)) (m+1) n]
     refine congrArg (_-·) (sm_congr fun i _=>?_)
     exact(mul_sm _ _ _).symm
    have e3:sm (fun a=>sv n W j a*(if 1≤a then tm W (a-1) m else 0)) n=mm n (um W) (fun x y=>mm n (sv n W) (tm W) x y) j m:=by
     obtain⟨q,rfl⟩:∃ q,n=q+1:=⟨n-1,by omega⟩
     rw[sm_head,if_neg (by omega),mul_zero,zero_add]
     have e4:∀ a,sv (q+1) W j (a+1)*(if 1≤a+1 then tm W (a+1-1) m else 0)=mm (q+1) (um W) (sv (q+1) W) j a*tm W a m:=fun a=>by
      rw[if_pos (by omega),Nat.add_sub_cancel]
      rfl
     rw[sm_congr fun a _=>e4 a]
     show _=mm (q+1) (um W) (mm (q+1) (sv (q+1) W) (tm W)) j m
     rw[← mm_assoc]
     show _=sm (fun a=>mm (q+1) (um W) (sv (q+1) W) j a*tm W a m) q+mm (q+1) (um W) (sv (q+1) W) j q*tm W q m
     rw[show tm W q m=0 from(hp_deg W m).1 q (by omega),mul_zero,add_zero]
    have e5:mm n (um W) (fun x y=>mm n (sv n W) (tm W) x y) j m=um W j m:=by
     show sm (fun a=>um W j a*mm n (sv n W) (tm W) a m) n=_
     rw[sm_congr fun a ha=>by rw[ih m (Nat.le_refl m) (by omega) a ha]]
     exact mm_I (show m<n by omega) j
    have e6:sm (fun i=>W i m*mm n (sv n W) (tm W) j i) (m+1)=if j≤m then W j m else 0:=by
     rw[sm_congr fun i hi=>by rw[ih i (by omega) (by omega) j hj]]
     split
     ·rw[sm_one (k:=j) (by omega) fun i _ hi=>by rw[show(mI j i:R)=0 from if_neg fun e=>hi e.symm,mul_zero],show(mI j j:R)=1 from if_pos rfl,mul_one]
     ·exact sm_zero fun i hi=>by rw[show(mI j i:R)=0 from if_neg (by omega),mul_zero]
    rw[e1,e3,e5,e6]
    unfold um mI
    by_cases h1:j=m+1
    ·rw[if_pos h1,if_pos h1,if_neg (by omega),sub_zero]
    ·rw[if_neg h1,if_neg h1]
     exact sub_self _
 exact fun k=>key k k (Nat.le_refl k)
theorem newton_um (W:Nat->Nat->R) {n r:Nat} (hr:r≤n):sm (fun t=>(hp W n).f (n-r+t)*tr n (mpw n (um W) t)) (r+1)=nc (n-r)*(hp W n).f (n-r):=by
 rw[← newton_cm (hp_deg W n).2 (hp_deg W n).1 hr]
 refine sm_congr fun t _=>?_
 rw[tr_link (tm_link W n) (tm_sv W n) (fun i j hi hj=>sv_tm W n j hj i hi)]
theorem root_um (W:Nat->Nat->R) (n:Nat):Eqn n (fun a b=>sm (fun t=>(hp W n).f t*mpw n (um W) t a b) (n+1)) fun _ _=>0:=fun i j hi hj=>by
 have e1:Eqn n (mm n (tm W) fun a b=>sm (fun t=>(hp W n).f t*mpw n (um W) t a b) (n+1)) fun _ _=>0:=fun i j hi hj=>by
  rw[mm_sm]
  have e2:∀ t,mm n (tm W) (fun a b=>(hp W n).f t*mpw n (um W) t a b) i j=(hp W n).f t*mm n (mpw n (cm n (hp W n).f) t) (tm W) i j:=fun t=>by
   rw[mm_sc,mpw_link (tm_link W n) t i j hi hj]
  rw[sm_congr fun t _=>e2 t]
  show sm (fun t=>(hp W n).f t*sm (fun a=>mpw n (cm n (hp W n).f) t i a*tm W a j) n) (n+1)=0
  rw[sm_congr fun t _=>mul_sm _ _ _,sm_swap (fun t a=>(hp W n).f t*(mpw n (cm n (hp W n).f) t i a*tm W a j)) n (n+1)]
  refine sm_zero fun a ha=>?_
  rw[sm_congr fun t _=>(mul_assoc ((hp W n).f t) (mpw n (cm n (hp W n).f) t i a) (tm W a j)).symm,← sm_mul]
  have h:=root_cm (hp_deg W n).2 (hp_deg W n).1 i a hi ha
  dsimp only at h
  rw[h,zero_mul]
 have e3:=mm_congr (Eqn.refl (sv n W)) e1 i j hi hj
 rw[← mm_assoc,mm_congr (C:=mI) (fun a b ha hb=>sv_tm W n b hb a ha) (Eqn.refl _) i j hi hj,I_mm hi]at e3
 exact e3.trans (sm_zero fun a _=>mul_zero _)
end
end Mx
end Go.Proofs.YtkmbnldginonbaaGreat
/- Hessenberg matrices over a field, any subdiagonal: through a polynomial parameter. Plain: no program. -/
namespace Go.Proofs.YtkmbnldginonbaaGreat
open Crg Pol
namespace Mx
section
variable {R:Type} [Crg R]
def dd (H : Nat → Nat → R) (i : Nat) : Nat → R
 | 0=>1
 | k+1=>if i≤k then dd H i k*H (k+1) k else 1
theorem dd_self (H : Nat → Nat → R) : ∀ i, dd H i i = 1
 | 0=>rfl
 | i+1=>if_neg (by omega)
theorem dd_succ (H:Nat->Nat->R) {i k:Nat} (h:i≤k):dd H i (k+1)=dd H i k*H (k+1) k:=if_pos h
theorem dd_mul (H : Nat → Nat → R) {i : Nat} : ∀ {k : Nat}, i ≤ k → dd H 0 i * dd H i k = dd H 0 k
 | 0,h=>by
  obtain rfl:i=0:=by omega
  exact mul_one _
 | k+1,h=>by
  rcases Nat.lt_or_ge i (k+1)with h1 | h1
  ·rw[dd_succ H (show i≤k by omega),dd_succ H (Nat.zero_le k),← mul_assoc,dd_mul H (show i≤k by omega)]
  ·obtain rfl:i=k+1:=by omega
   rw[dd_self,mul_one]
def wd (H:Nat->Nat->R) (i k:Nat):R:=dd H i k*H i k
def dg (H:Nat->Nat->R) (i j:Nat):R:=if i=j then dd H 0 i else 0
variable {n:Nat} {H:Nat->Nat->R}
def Hess (n:Nat) (H:Nat->Nat->R):Prop:=∀ i k,i<n->k+1<i->H i k=0
theorem dg_link (h:Hess n H):Eqn n (mm n H (dg H)) (mm n (dg H) (um (wd H))):=fun i k hi hk=>by
 show sm (fun a=>H i a*(if a=k then dd H 0 a else 0)) n=sm (fun a=>(if i=a then dd H 0 i else 0)*um (wd H) a k) n
 rw[sm_one hk fun a _ ha=>by rw[if_neg ha,mul_zero],if_pos rfl,sm_one hi fun a _ ha=>by rw[if_neg fun e=>ha e.symm,zero_mul],if_pos rfl]
 unfold um wd
 by_cases h1:i=k+1
 ·subst h1
  rw[if_pos rfl,mul_one,dd_succ H (Nat.zero_le k),mul_comm]
 ·rw[if_neg h1]
  by_cases h2:i≤k
  ·rw[if_pos h2,← mul_assoc,dd_mul H h2,mul_comm]
  ·rw[if_neg h2,mul_zero,h i k hi (by omega),zero_mul]
theorem dg_pow (h:Hess n H) (t:Nat) {i k:Nat} (hi:i<n) (hk:k<n):mpw n H t i k*dd H 0 k=dd H 0 i*mpw n (um (wd H)) t i k:=by
 have e:=mpw_link (dg_link h) t i k hi hk
 change sm (fun a=>mpw n H t i a*(if a=k then dd H 0 a else 0)) n=sm (fun a=>(if i=a then dd H 0 i else 0)*mpw n (um (wd H)) t a k) n at e
 rwa [sm_one hk fun a _ ha=>by rw[if_neg ha,mul_zero],if_pos rfl,sm_one hi fun a _ ha=>by rw[if_neg fun e=>ha e.symm,zero_mul],if_pos rfl]at e
/-! Maps. -/
variable {S:Type} [Crg S] {φ:R->S}
theorem sm_map (h : Hm φ) (f : Nat → R) : ∀ m, φ (sm f m) = sm (fun i => φ (f i)) m
 | 0=>h.zero
 | m+1=>by
  show φ (sm f m+f m)=_
  rw[h.add,sm_map h f m]
  rfl
theorem nc_map (h : Hm φ) : ∀ m, φ (nc m) = nc m
 | 0=>h.zero
 | m+1=>by
  show φ (nc m+1)=nc m+1
  rw[h.add,nc_map h m,h.one]
theorem mpw_map (h : Hm φ) (n : Nat) (H : Nat → Nat → R) : ∀ t i j, φ (mpw n H t i j) = mpw n (fun a b => φ (H a b)) t i j
 | 0,i,j=>by
  show φ (if i=j then 1 else 0)=if i=j then 1 else 0
  split
  ·exact h.one
  ·exact h.zero
 | t+1,i,j=>by
  show φ (sm (fun a=>H i a*mpw n H t a j) n)=sm (fun a=>φ (H i a)*mpw n (fun a b=>φ (H a b)) t a j) n
  rw[sm_map h]
  exact sm_congr fun a _=>by rw[h.mul,mpw_map h n H t a j]
theorem tr_map (h:Hm φ) (n:Nat) (H:Nat->Nat->R) (t:Nat):φ (tr n (mpw n H t))=tr n (mpw n (fun a b=>φ (H a b)) t):=by
 show φ (sm (fun i=>mpw n H t i i) n)=_
 rw[sm_map h]
 exact sm_congr fun i _=>mpw_map h n H t i i
theorem dd_map (h : Hm φ) (H : Nat → Nat → R) (i : Nat) : ∀ k, φ (dd H i k) = dd (fun a b => φ (H a b)) i k
 | 0=>h.one
 | k+1=>by
  show φ (if i≤k then dd H i k*H (k+1) k else 1)=if i≤k then dd (fun a b=>φ (H a b)) i k*φ (H (k+1) k)else 1
  split
  ·rw[h.mul,dd_map h H i k]
  ·exact h.one
theorem hp_map (h:Hm φ) (W:Nat->Nat->R) (k j:Nat):φ ((hp W k).f j)=(hp (fun a b=>φ (W a b)) k).f j:=by
 have key:∀ m k,k≤m->∀ j,φ ((hp W k).f j)=(hp (fun a b=>φ (W a b)) k).f j:=by
  intro m
  induction m with
  | zero =>
   intro k hk j
   obtain rfl:k=0:=by omega
   show φ ((1:Pol R).f j)=(1:Pol S).f j
   rw[f_one,f_one]
   split
   ·exact h.one
   ·exact h.zero
  | succ m ih =>
   intro k hk j
   rcases Nat.lt_or_ge k (m+1)with h1 | h1
   ·exact ih k (by omega) j
   ·obtain rfl:k=m+1:=by omega
    rw[hp_at,hp_at,h.sub,sm_map h]
    have e1:φ (if 1≤j then(hp W m).f (j-1)else 0)=if 1≤j then(hp (fun a b=>φ (W a b)) m).f (j-1)else 0:=by
     split
     ·exact ih m (Nat.le_refl m) _
     ·exact h.zero
    rw[e1,sm_congr fun i hi=>by rw[h.mul,ih i (by omega) j]]
 exact key k k (Nat.le_refl k) j
end
section
variable {K:Type} [Fld K] {n:Nat} {H:Nat->Nat->K}
theorem at0_hm : Hm (fun a : Pol K => a.f 0) where
 add _ _:=rfl
 mul a b:=by
  show 0+a.f 0*b.f (0-0)=_
  rw[zero_add]
 one:=rfl
noncomputable def ht (H:Nat->Nat->K) (i k:Nat):Pol K:=C (H i k)+(if i=k+1 then X else 0)
theorem ht_at (H:Nat->Nat->K):(fun i k=>(ht H i k).f 0)=H:=by
 funext i k
 show(C (H i k):Pol K).f 0+(if i=k+1 then X else 0:Pol K).f 0=_
 have e:(if i=k+1 then X else 0:Pol K).f 0=0:=by
  split
  ·show(if(0:Nat)=1 then(1:K)else 0)=0
   exact if_neg (by decide)
  ·rfl
 rw[e,add_zero]
 show(if(0:Nat)=0 then H i k else 0)=H i k
 exact if_pos rfl
theorem ht_hess (h:Hess n H):Hess n (ht H):=fun i k hi hk=>by
 show C (H i k)+(if i=k+1 then X else 0)=0
 rw[h i k hi hk,if_neg (by omega),C_zero,add_zero]
theorem ht_ne (H : Nat → Nat → K) : ∀ k, dd (ht H) 0 k ≠ 0
 | 0=>Pol.one_ne
 | k+1=>fun e=>by
  rw[dd_succ _ (Nat.zero_le k)]at e
  rcases Pol.domain e with e | e
  ·exact ht_ne H k e
  ·have e1:(ht H (k+1) k).f 1=0:=by rw[e];rfl
   change (C (H (k+1) k):Pol K).f 1+(if k+1=k+1 then X else 0:Pol K).f 1=0 at e1
   have e2:(C (H (k+1) k):Pol K).f 1=0:=by
    show(if(1:Nat)=0 then H (k+1) k else 0)=0
    exact if_neg (by decide)
   rw[if_pos rfl,e2,zero_add]at e1
   exact Fld.one_ne (K:=K) e1
theorem wd_at (H:Nat->Nat->K):(fun i k=>(wd (ht H) i k).f 0)=wd H:=by
 funext i k
 show(dd (ht H) i k*ht H i k).f 0=dd H i k*H i k
 rw[at0_hm.mul,dd_map (φ:=fun a:Pol K=>a.f 0) at0_hm (ht H) i k,ht_at,congrFun (congrFun (ht_at H) i) k]
theorem tr_um (h:Hess n H) (t:Nat):tr n (mpw n (um (wd (ht H))) t)=tr n (mpw n (ht H) t):=sm_congr fun i hi=>by
 have e:=dg_pow (ht_hess h) t hi hi
 rw[mul_comm]at e
 exact(Pol.cancel (ht_ne H i) e).symm
theorem newton_hess (h:Hess n H) {r:Nat} (hr:r≤n):sm (fun t=>(hp (wd H) n).f (n-r+t)*tr n (mpw n H t)) (r+1)=nc (n-r)*(hp (wd H) n).f (n-r):=by
 have e:=congrArg (fun a:Pol K=>a.f 0) (newton_um (wd (ht H)) hr)
 rw[sm_map (φ:=fun a:Pol K=>a.f 0) at0_hm,at0_hm.mul,nc_map (φ:=fun a:Pol K=>a.f 0) at0_hm,hp_map (φ:=fun a:Pol K=>a.f 0) at0_hm,wd_at]at e
 rw[← e]
 refine sm_congr fun t _=>?_
 rw[tr_um h,at0_hm.mul,hp_map (φ:=fun a:Pol K=>a.f 0) at0_hm,wd_at,tr_map (φ:=fun a:Pol K=>a.f 0) at0_hm,ht_at]
theorem root_hess (h:Hess n H):Eqn n (fun a b=>sm (fun t=>(hp (wd H) n).f t*mpw n H t a b) (n+1)) fun _ _=>0:=fun i k hi hk=>by
 have e:=root_um (wd (ht H)) n i k hi hk
 dsimp only at e
 have e1:sm (fun t=>(hp (wd (ht H)) n).f t*mpw n (ht H) t i k) (n+1)*dd (ht H) 0 k=0:=by
  rw[sm_mul,sm_congr fun t _=>by rw[mul_assoc,dg_pow (ht_hess h) t hi hk,mul_left_comm],← mul_sm,e,mul_zero]
 have e2:=(Pol.domain e1).resolve_right (ht_ne H k)
 have e3:=congrArg (fun a:Pol K=>a.f 0) e2
 rw[sm_map (φ:=fun a:Pol K=>a.f 0) at0_hm]at e3
 show sm (fun t=>(hp (wd H) n).f t*mpw n H t i k) (n+1)=0
 refine Eq.trans (sm_congr fun t _=>?_) e3
 rw[at0_hm.mul,hp_map (φ:=fun a:Pol K=>a.f 0) at0_hm,wd_at,mpw_map (φ:=fun a:Pol K=>a.f 0) at0_hm,ht_at]
theorem newton_eq {c e:Nat->K} {s:Nat->K} (hn:∀ m,1≤m->(nc m:K)≠0) (s0:s 0=nc n) (c1:c n=1) (e1:e n=1) (hc:∀ r,r≤n->sm (fun t=>c (n-r+t)*s t) (r+1)=nc (n-r)*c (n-r)) (he:∀ r,r≤n->sm (fun t=>e (n-r+t)*s t) (r+1)=nc (n-r)*e (n-r)):∀ r,r≤n->c (n-r)=e (n-r):=by
 have key:∀ m r,r≤m->r≤n->c (n-r)=e (n-r):=by
  intro m
  induction m with
  | zero =>
   intro r hr _
   obtain rfl:r=0:=by omega
   rw[Nat.sub_zero,c1,e1]
  | succ m ih =>
   intro r hr hn2
   rcases Nat.lt_or_ge r (m+1)with h | h
   ·exact ih r (by omega) hn2
   ·obtain rfl:r=m+1:=by omega
    have h1:=hc (m+1) hn2
    have h2:=he (m+1) hn2
    rw[sm_head,Nat.add_zero,s0]at h1 h2
    have h3:sm (fun i=>c (n-(m+1)+(i+1))*s (i+1)) (m+1)=sm (fun i=>e (n-(m+1)+(i+1))*s (i+1)) (m+1):=sm_congr fun i hi=>by
     have:=ih (m-i) (by omega) (by omega)
     rw[show n-(m-i)=n-(m+1)+(i+1)by omega]at this
     rw[this]
    rw[h3]at h1
    generalize sm (fun i=>e (n-(m+1)+(i+1))*s (i+1)) (m+1)=Z at h1 h2
    have e5:(nc n:K)=nc (n-(m+1))+nc (m+1):=by rw[← nc_add];congr 1;omega
    rw[e5]at h1 h2
    generalize c (n-(m+1))=x at *
    generalize e (n-(m+1))=y at *
    generalize (nc (n-(m+1)):K)=a at *
    have h4:nc (m+1)*(x-y)=0:=by
     have h6:x*(a+nc (m+1))+Z-a*x=0:=sub_eq_zero.2 h1
     have h7:y*(a+nc (m+1))+Z-a*y=0:=sub_eq_zero.2 h2
     have h8:nc (m+1)*(x-y)=(x*(a+nc (m+1))+Z-a*x)-(y*(a+nc (m+1))+Z-a*y):=RE.eq [nc (m+1),x,y,a,Z] (t0*(t1-t2)) ((t1*(t3+t0)+t4-t3*t1)-(t2*(t3+t0)+t4-t3*t2)) rfl
     rw[h8,h6,h7,sub_self]
    rcases Fld.domain h4 with h5 | h5
    ·exact absurd h5 (hn _ (by omega))
    ·exact sub_eq_zero.1 h5
 exact fun r=>key r r (Nat.le_refl r)
end
end Mx
end Go.Proofs.YtkmbnldginonbaaGreat
/- Similar matrices: exchanges and additions of rows with columns; the rational numbers as a field; the method of Faddeev and LeVerrier. Plain: no program. -/
namespace Go.Proofs.YtkmbnldginonbaaGreat
open Crg Pol
namespace Mx
section
variable {R:Type} [Crg R] {n:Nat} {A B D:Nat->Nat->R}
def Sim (n:Nat) (A B:Nat->Nat->R):Prop:=∃ E F,Eqn n (mm n E F) mI/\Eqn n (mm n F E) mI/\Eqn n (mm n A E) (mm n E B)
theorem Sim.of_eq (h:Eqn n A B):Sim n A B:=⟨mI,mI,fun _ j _ hj=>mm_I hj _,fun _ j _ hj=>mm_I hj _,fun i j hi hj=>by rw[mm_I hj,I_mm hi];exact h i j hi hj⟩
theorem Sim.trans (h:Sim n A B) (k:Sim n B D):Sim n A D:=by
 obtain⟨E,F,h1,h2,h3⟩:=h
 obtain⟨G,J,k1,k2,k3⟩:=k
 refine⟨mm n E G,mm n J F,fun i j hi hj=>?_,fun i j hi hj=>?_,fun i j hi hj=>?_⟩
 ·rw[mm_assoc,mm_congr (Eqn.refl E) (D:=F) (fun a b ha hb=>by rw[← mm_assoc,mm_congr k1 (Eqn.refl F) a b ha hb,I_mm ha]) i j hi hj,h1 i j hi hj]
 ·rw[mm_assoc,mm_congr (Eqn.refl J) (D:=G) (fun a b ha hb=>by rw[← mm_assoc,mm_congr h2 (Eqn.refl G) a b ha hb,I_mm ha]) i j hi hj,k2 i j hi hj]
 ·rw[← mm_assoc,mm_congr h3 (Eqn.refl G) i j hi hj,mm_assoc,mm_congr (Eqn.refl E) k3 i j hi hj,mm_assoc]
theorem Sim.tr (h:Sim n A B) (k:Nat):tr n (mpw n B k)=tr n (mpw n A k):=by
 obtain⟨E,F,h1,h2,h3⟩:=h
 exact tr_link h3 h1 h2 k
theorem Sim.root (h:Sim n A B) {c:Nat->R} {m:Nat} (hr:Eqn n (fun a b=>sm (fun t=>c t*mpw n B t a b) m) fun _ _=>0):Eqn n (fun a b=>sm (fun t=>c t*mpw n A t a b) m) fun _ _=>0:=by
 obtain⟨E,F,h1,h2,h3⟩:=h
 have e1:Eqn n (mm n (fun a b=>sm (fun t=>c t*mpw n A t a b) m) E) fun _ _=>0:=fun i j hi hj=>by
  have e2:mm n (fun a b=>sm (fun t=>c t*mpw n A t a b) m) E i j=mm n E (fun a b=>sm (fun t=>c t*mpw n B t a b) m) i j:=by
   rw[mm_sm]
   show sm (fun a=>sm (fun t=>c t*mpw n A t i a) m*E a j) n=_
   rw[sm_congr fun a _=>sm_mul (E a j) (fun t=>c t*mpw n A t i a) m,sm_swap (fun a t=>c t*mpw n A t i a*E a j) m n]
   refine sm_congr fun t _=>?_
   rw[mm_sc,← mpw_link h3 t i j hi hj]
   show _=c t*sm (fun a=>mpw n A t i a*E a j) n
   rw[mul_sm]
   exact sm_congr fun a _=>mul_assoc _ _ _
  rw[e2]
  refine(mm_congr (Eqn.refl E) hr i j hi hj).trans ?_
  exact sm_zero fun a _=>mul_zero _
 intro i j hi hj
 have e3:=mm_congr e1 (Eqn.refl F) i j hi hj
 rw[mm_assoc,mm_congr (Eqn.refl _) h1 i j hi hj,mm_I hj]at e3
 refine e3.trans (sm_zero fun a _=>zero_mul _)
def xch (s:Nat->Nat) (A:Nat->Nat->R) (i j:Nat):R:=A (s i) (s j)
theorem Sim.xch {s:Nat->Nat} (h1:∀ i,i<n->s i<n) (h2:∀ i,i<n->s (s i)=i) (A:Nat->Nat->R):Sim n A (xch s A):=by
 have e1:∀(B:Nat->Nat->R) (i j:Nat),i<n->j<n->mm n (fun a b=>if a=s b then 1 else 0) B i j=B (s i) j:=fun B i j hi _=>by
  show sm (fun a=>(if i=s a then 1 else 0)*B a j) n=_
  rw[sm_one (k:=s i) (h1 i hi) fun a ha hne=>by rw[if_neg fun e=>hne (by rw[e,h2 a ha]),zero_mul],if_pos (h2 i hi).symm,one_mul]
 have e2:∀(B:Nat->Nat->R) (i j:Nat),i<n->j<n->mm n B (fun a b=>if a=s b then 1 else 0) i j=B i (s j):=fun B i j _ hj=>by
  show sm (fun a=>B i a*(if a=s j then 1 else 0)) n=_
  rw[sm_one (k:=s j) (h1 j hj) fun a _ hne=>by rw[if_neg hne,mul_zero],if_pos rfl,mul_one]
 have e3:Eqn n (mm n (fun a b=>if a=s b then(1:R)else 0) (fun a b=>if a=s b then 1 else 0)) mI:=fun i j hi hj=>by
  rw[e1 _ i j hi hj]
  show(if s i=s j then 1 else 0)=if i=j then 1 else 0
  by_cases e:i=j
  ·rw[e,if_pos rfl,if_pos rfl]
  ·rw[if_neg e,if_neg fun h=>e (by rw[← h2 i hi,h,h2 j hj])]
 refine⟨_,_,e3,e3,fun i j hi hj=>?_⟩
 rw[e2 _ i j hi hj,e1 _ i j hi hj]
 show A i (s j)=A (s (s i)) (s j)
 rw[h2 i hi]
def rca (u:R) (i m:Nat) (A:Nat->Nat->R) (a b:Nat):R:=(if a=i then A a b-u*A m b else A a b)+(if b=m then u*(if a=i then A a i-u*A m i else A a i)else 0)
theorem Sim.add {i m:Nat} (hi:i<n) (hm:m<n) (hne:i≠m) (u:R) (A:Nat->Nat->R):Sim n A (rca u i m A):=by
 have el:∀(u:R) (B:Nat->Nat->R) (a b:Nat),a<n->b<n->mm n (fun a b=>mI a b+(if a=i/\b=m then u else 0)) B a b=B a b+(if a=i then u*B m b else 0):=fun u B a b ha hb=>by
  have e:∀ c,(mI a c+(if a=i/\c=m then u else 0))*B c b=mI a c*B c b+(if a=i/\c=m then u else 0)*B c b:=fun c=>add_mul _ _ _
  show sm (fun c=>(mI a c+(if a=i/\c=m then u else 0))*B c b) n=_
  rw[sm_congr fun c _=>e c,sm_add]
  refine congr (congrArg HAdd.hAdd (I_mm ha b)) ?_
  split
  ·next h=>rw[sm_one hm fun c _ hc=>by rw[if_neg fun e=>hc e.2,zero_mul],if_pos ⟨h,rfl⟩]
  ·next h=>exact sm_zero fun c _=>by rw[if_neg fun e=>h e.1,zero_mul]
 have er:∀(u:R) (B:Nat->Nat->R) (a b:Nat),a<n->b<n->mm n B (fun a b=>mI a b+(if a=i/\b=m then u else 0)) a b=B a b+(if b=m then B a i*u else 0):=fun u B a b ha hb=>by
  have e:∀ c,B a c*(mI c b+(if c=i/\b=m then u else 0))=B a c*mI c b+B a c*(if c=i/\b=m then u else 0):=fun c=>mul_add _ _ _
  show sm (fun c=>B a c*(mI c b+(if c=i/\b=m then u else 0))) n=_
  rw[sm_congr fun c _=>e c,sm_add]
  refine congr (congrArg HAdd.hAdd (mm_I hb a)) ?_
  split
  ·next h=>rw[sm_one hi fun c _ hc=>by rw[if_neg fun e=>hc e.1,mul_zero],if_pos ⟨rfl,h⟩]
  ·next h=>exact sm_zero fun c _=>by rw[if_neg fun e=>h e.2,mul_zero]
 have ei:∀ u v:R,u+v=0->Eqn n (mm n (fun a b=>mI a b+(if a=i/\b=m then u else 0)) (fun a b=>mI a b+(if a=i/\b=m then v else 0))) mI:=fun u v huv a b ha hb=>by
  rw[el _ _ a b ha hb]
  have e1:(mI m b+(if m=i/\b=m then v else 0):R)=mI m b:=by rw[if_neg fun e=>hne e.1.symm,add_zero]
  rw[e1,add_assoc]
  have e2:(if a=i/\b=m then v else 0)+(if a=i then u*mI m b else 0)=(0:R):=by
   by_cases h1:a=i
   ·rw[if_pos h1]
    by_cases h2:b=m
    ·rw[if_pos ⟨h1,h2⟩,show(mI m b:R)=1 from if_pos h2.symm,mul_one,add_comm,huv]
    ·rw[if_neg fun e=>h2 e.2,show(mI m b:R)=0 from if_neg fun e=>h2 e.symm,mul_zero,add_zero]
   ·rw[if_neg h1,if_neg fun e=>h1 e.1,add_zero]
  rw[e2,add_zero]
 refine⟨_,_,ei u (-u) (add_neg u),ei (-u) u (neg_add u),fun a b ha hb=>?_⟩
 rw[er _ _ a b ha hb,el _ _ a b ha hb]
 unfold rca
 rw[if_neg (show ¬ m=i from fun e=>hne e.symm)]
 by_cases h1:a=i
 ·rw[if_pos h1,if_pos h1,if_pos h1,h1,if_neg (show ¬ m=i from fun e=>hne e.symm)]
  by_cases h2:b=m
  ·rw[if_pos h2,if_pos h2,if_pos h2]
   exact RE.eq [A i b,A i i,u,A m b,A m i] (t0+t1*t2) (t0-t2*t3+t2*(t1-t2*t4)+t2*(t3+t2*t4)) rfl
  ·rw[if_neg h2,if_neg h2,if_neg h2]
   exact RE.eq [A i b,u,A m b] (t0+0) (t0-t1*t2+0+t1*(t2+0)) rfl
 ·rw[if_neg h1,if_neg h1,if_neg h1,add_zero]
  split
  ·rw[mul_comm]
  ·rfl
end
end Mx
instance : Fld Rat where
 add_assoc:=Rat.add_assoc
 add_comm:=Rat.add_comm
 add_zero:=Rat.add_zero
 add_neg:=Rat.add_neg_cancel
 sub_def:=Rat.sub_eq_add_neg
 mul_assoc:=Rat.mul_assoc
 mul_comm:=Rat.mul_comm
 mul_one:=Rat.mul_one
 mul_add:=Rat.mul_add
 inv:=Rat.inv
 mul_inv:=fun a h=>Rat.mul_inv_cancel a h
 one_ne:=by decide
theorem nc_rat : ∀ m : Nat, (nc m : Rat) = (m : Rat)
 | 0=>rfl
 | m+1=>by
  show nc m+1=((m+1:Nat):Rat)
  rw[nc_rat m]
  exact(Rat.natCast_add m 1).symm
end Go.Proofs.YtkmbnldginonbaaGreat
/- The method of Faddeev and LeVerrier; power sums. Plain: no program. -/
namespace Go.Proofs.YtkmbnldginonbaaGreat
open Crg Pol
namespace Mx
section
variable {R:Type} [Crg R] {n:Nat} {A:Nat->Nat->R} {c:Nat->R}
theorem mpw_add (A:Nat->Nat->R) (a b:Nat):Eqn n (mm n (mpw n A a) (mpw n A b)) (mpw n A (a+b)):=by
 induction a with
 | zero =>
  intro i j hi hj
  rw[Nat.zero_add]
  exact I_mm hi j
 | succ a ih =>
  intro i j hi hj
  rw[show a+1+b=a+b+1 by omega]
  show mm n (mm n A (mpw n A a)) (mpw n A b) i j=mm n A (mpw n A (a+b)) i j
  rw[mm_assoc]
  exact mm_congr (Eqn.refl A) ih i j hi hj
theorem dd_left (H:Nat->Nat->R) {i k:Nat} (h:i<k):dd H i k=dd H (i+1) k*H (i+1) i:=by
 induction k with
 | zero=>omega
 | succ k ih =>
  rw[dd_succ H (show i≤k by omega)]
  rcases Nat.lt_or_ge i k with h1 | h1
  ·rw[ih h1,dd_succ H (show i+1≤k by omega),mul_assoc,mul_comm (H (i+1) i),← mul_assoc]
  ·obtain rfl:i=k:=by omega
   rw[dd_self,dd_self]
structure Newt (n : Nat) (A : Nat → Nat → R) (c : Nat → R) : Prop where
 top:c n=1
 out:∀ m,n<m->c m=0
 id:∀ r,r≤n->sm (fun t=>c (n-r+t)*tr n (mpw n A t)) (r+1)=nc (n-r)*c (n-r)
 root:Eqn n (fun a b=>sm (fun t=>c t*mpw n A t a b) (n+1)) fun _ _=>0
end
section
variable {K:Type} [Fld K] {n:Nat} {A H:Nat->Nat->K}
theorem Newt.of_hess (hs : Sim n A H) (hh : Hess n H) : Newt n A (hp (wd H) n).f where
 top:=(hp_deg (wd H) n).2
 out:=(hp_deg (wd H) n).1
 id r hr:=by
  rw[← newton_hess hh hr]
  exact sm_congr fun t _=>by rw[hs.tr]
 root:=hs.root (root_hess hh)
theorem Newt.eq {c e:Nat->K} (hn:∀ m,1≤m->(nc m:K)≠0) (h:Newt n A c) (k:Newt n A e):∀ i,c i=e i:=fun i=>by
 rcases Nat.lt_or_ge n i with h1 | h1
 ·rw[h.out i h1,k.out i h1]
 ·have:=newton_eq hn (tr_I n) h.top k.top h.id k.id (n-i) (by omega)
  rwa [show n-(n-i)=i by omega]at this
end
end Mx
end Go.Proofs.YtkmbnldginonbaaGreat
/- The reduction to Hessenberg form, step by step. Plain: no program. -/
namespace Go.Proofs.YtkmbnldginonbaaGreat
open Crg Pol
namespace Mx
def pvf (A : Nat → Nat → Rat) (c : Nat) : Nat → Nat → Nat
 | 0,a=>a
 | k+1,a=>if A a c=0 then pvf A c k (a+1)else a
def pv (n:Nat) (A:Nat->Nat->Rat) (m:Nat):Nat:=pvf A (m-1) (n-m) m
theorem pvf_spec (A : Nat → Nat → Rat) (c : Nat) : ∀ k a, a ≤ pvf A c k a ∧ pvf A c k a ≤ a + k ∧ (∀ b, a ≤ b → b < pvf A c k a → A b c = 0) ∧ (pvf A c k a < a + k → A (pvf A c k a) c ≠ 0)
 | 0,a=>⟨Nat.le_refl a,Nat.le_refl a,fun b h1 h2=>absurd (show b<a from h2) (by omega),fun h=>absurd (show a<a+0 from h) (by omega)⟩
 | k+1,a=>by
  show a≤(if A a c=0 then pvf A c k (a+1)else a)/\(if A a c=0 then pvf A c k (a+1)else a)≤a+(k+1)/\(∀ b,a≤b->b<(if A a c=0 then pvf A c k (a+1)else a)->A b c=0)/\((if A a c=0 then pvf A c k (a+1)else a)<a+(k+1)->A (if A a c=0 then pvf A c k (a+1)else a) c≠0)
  by_cases h:A a c=0
  ·rw[if_pos h]
   obtain⟨h1,h2,h3,h4⟩:=pvf_spec A c k (a+1)
   refine⟨by omega,by omega,fun b hb hb2=>?_,fun hlt=>h4 (by omega)⟩
   rcases Nat.lt_or_ge a b with h5 | h5
   ·exact h3 b h5 hb2
   ·rw[show b=a by omega]
    exact h
  ·rw[if_neg h]
   exact⟨Nat.le_refl a,by omega,fun b h1 h2=>absurd h2 (by omega),fun _=>h⟩
theorem pvf_next {A:Nat->Nat->Rat} {c k a:Nat} (h:A a c=0):pvf A c (k+1) a=pvf A c k (a+1):=if_pos h
theorem pvf_stop {A:Nat->Nat->Rat} {c k a:Nat} (h:A a c≠0):pvf A c (k+1) a=a:=if_neg h
def sw (i j a:Nat):Nat:=if a=i then j else if a=j then i else a
theorem sw_sw (i j a:Nat):sw i j (sw i j a)=a:=by
 unfold sw
 by_cases h1:a=i
 ·rw[if_pos h1]
  by_cases h2:j=i
  ·rw[if_pos h2];omega
  ·rw[if_neg h2,if_pos rfl];omega
 ·rw[if_neg h1]
  by_cases h2:a=j
  ·rw[if_pos h2,if_pos rfl];omega
  ·rw[if_neg h2,if_neg h1,if_neg h2]
theorem sw_lt {i j a n:Nat} (hi:i<n) (hj:j<n) (ha:a<n):sw i j a<n:=by
 unfold sw
 split
 ·exact hj
 ·split
  ·exact hi
  ·exact ha
def ra (u:Rat) (i m:Nat) (A:Nat->Nat->Rat) (a b:Nat):Rat:=if a=i then A a b-u*A m b else A a b
def ca (u:Rat) (i m:Nat) (A:Nat->Nat->Rat) (a b:Nat):Rat:=if b=m then A a b+u*A a i else A a b
theorem ca_ra (u:Rat) (i m:Nat) (A:Nat->Nat->Rat):ca u i m (ra u i m A)=rca u i m A:=by
 funext a b
 unfold ca rca
 by_cases h:b=m
 ·rw[if_pos h,if_pos h]
  show ra u i m A a b+u*ra u i m A a i=_
  unfold ra
  rfl
 ·rw[if_neg h,if_neg h]
  show ra u i m A a b=_
  exact(Crg.add_zero (ra u i m A a b)).symm
def el1 (m i:Nat) (A:Nat->Nat->Rat):Nat->Nat->Rat:=if A i (m-1)=0 then A else ca (A i (m-1) / A m (m-1)) i m (ra (A i (m-1) / A m (m-1)) i m A)
def el (m : Nat) (A : Nat → Nat → Rat) : Nat → Nat → Nat → Rat
 | 0=>A
 | t+1=>el1 m (m+1+t) (el m A t)
def stp (n m:Nat) (A:Nat->Nat->Rat):Nat->Nat->Rat:=if pv n A m=n then A else el m (xch (sw (pv n A m) m) A) (n-1-m)
def hs (n : Nat) (A : Nat → Nat → Rat) : Nat → Nat → Nat → Rat
 | 0=>A
 | m+1=>if m=0 then A else stp n m (hs n A m)
def Zc (n m:Nat) (A:Nat->Nat->Rat):Prop:=∀ c i,c+1<m->c+1<i->i<n->A i c=0
structure ElI (n m t : Nat) (A0 A : Nat → Nat → Rat) : Prop where
 sim:Sim n A0 A
 z:Zc n m A
 p:A m (m-1)≠0
 c:∀ i,m<i->i≤m+t->i<n->A i (m-1)=0
theorem ElI.step {n m t:Nat} {A0 A:Nat->Nat->Rat} (h:ElI n m t A0 A) (hm:1≤m) (ht:m+1+t<n):ElI n m (t+1) A0 (el1 m (m+1+t) A):=by
 unfold el1
 by_cases h0:A (m+1+t) (m-1)=0
 ·rw[if_pos h0]
  refine⟨h.sim,h.z,h.p,fun i h1 h2 h3=>?_⟩
  rcases Nat.lt_or_ge i (m+1+t)with h4 | h4
  ·exact h.c i h1 (by omega) h3
  ·rw[show i=m+1+t by omega]
   exact h0
 ·rw[if_neg h0]
  generalize hu:A (m+1+t) (m-1) / A m (m-1)=u
  have hmu:u*A m (m-1)=A (m+1+t) (m-1):=by
   rw[← hu]
   exact Rat.div_mul_cancel h.p
  have hlow:∀ a c,c<m->ca u (m+1+t) m (ra u (m+1+t) m A) a c=if a=m+1+t then A a c-u*A m c else A a c:=fun a c hc=>if_neg (by omega)
  refine⟨h.sim.trans (by rw[ca_ra];exact Sim.add ht (by omega) (by omega) u A),fun c i h1 h2 h3=>?_,?_,fun i h1 h2 h3=>?_⟩
  ·rw[hlow i c (by omega)]
   split
   ·rw[h.z c i h1 h2 h3,h.z c m h1 (by omega) (by omega),Rat.mul_zero,Rat.sub_self]
   ·exact h.z c i h1 h2 h3
  ·rw[hlow m (m-1) (by omega),if_neg (by omega)]
   exact h.p
  ·rw[hlow i (m-1) (by omega)]
   split
   ·next e=>rw[hmu,e,Rat.sub_self]
   ·exact h.c i h1 (by omega) h3
theorem el_all {n m : Nat} {A0 A : Nat → Nat → Rat} (hm : 1 ≤ m) (h : ElI n m 0 A0 A) : ∀ t, m + t < n → ElI n m t A0 (el m A t)
 | 0,_=>h
 | t+1,ht=>(el_all hm h t (by omega)).step hm (by omega)
theorem pv_spec (n:Nat) (A:Nat->Nat->Rat) {m:Nat} (hm:m≤n):m≤pv n A m/\pv n A m≤n/\(∀ b,m≤b->b<pv n A m->A b (m-1)=0)/\(pv n A m<n->A (pv n A m) (m-1)≠0):=by
 obtain⟨h1,h2,h3,h4⟩:=pvf_spec A (m-1) (n-m) m
 exact⟨h1,by show pvf A (m-1) (n-m) m≤n;omega,h3,fun h=>h4 (by show pvf A (m-1) (n-m) m<_;have h:pvf A (m-1) (n-m) m<n:=h;omega)⟩
theorem stp_ok {n m:Nat} {A0 A:Nat->Nat->Rat} (h1:1≤m) (hm:m+1<n) (hs:Sim n A0 A) (hz:Zc n m A):Sim n A0 (stp n m A)/\Zc n (m+1) (stp n m A):=by
 obtain⟨p1,p2,p3,p4⟩:=pv_spec n A (show m≤n by omega)
 unfold stp
 by_cases e:pv n A m=n
 ·rw[if_pos e]
  refine⟨hs,fun c i h2 h3 h4=>?_⟩
  rcases Nat.lt_or_ge (c+1) m with h5 | h5
  ·exact hz c i h5 h3 h4
  ·rw[show c=m-1 by omega]
   exact p3 i (by omega) (by omega)
 ·rw[if_neg e]
  have hlt:pv n A m<n:=by omega
  have hsw:∀ a,a<m->sw (pv n A m) m a=a:=fun a ha=>by
   unfold sw
   rw[if_neg (by omega),if_neg (by omega)]
  have hsm:sw (pv n A m) m m=pv n A m:=by
   unfold sw
   split
   ·omega
   ·rw[if_pos rfl]
  have hge:∀ a,m≤a->m≤sw (pv n A m) m a:=fun a ha=>by
   unfold sw
   split
   ·exact Nat.le_refl m
   ·split
    ·exact p1
    ·exact ha
  have h0:ElI n m 0 A0 (xch (sw (pv n A m) m) A):=by
   refine⟨hs.trans (Sim.xch (fun i hi=>sw_lt hlt (by omega) hi) (fun i _=>sw_sw _ _ i) A),fun c i h2 h3 h4=>?_,?_,fun i h2 h3 _=>absurd h2 (by omega)⟩
   ·show A (sw (pv n A m) m i) (sw (pv n A m) m c)=0
    rw[hsw c (by omega)]
    rcases Nat.lt_or_ge i m with h5 | h5
    ·rw[hsw i h5]
     exact hz c i h2 h3 h4
    ·have:=hge i h5
     exact hz c _ h2 (by omega) (sw_lt hlt (by omega) h4)
   ·show A (sw (pv n A m) m m) (sw (pv n A m) m (m-1))≠0
    rw[hsw (m-1) (by omega),hsm]
    exact p4 hlt
  have hE:=el_all h1 h0 (n-1-m) (by omega)
  refine⟨hE.sim,fun c i h2 h3 h4=>?_⟩
  rcases Nat.lt_or_ge (c+1) m with h5 | h5
  ·exact hE.z c i h5 h3 h4
  ·rw[show c=m-1 by omega]
   exact hE.c i (by omega) (by omega) h4
theorem hs_ok (n : Nat) (A : Nat → Nat → Rat) : ∀ m, m + 1 ≤ n → Sim n A (hs n A m) ∧ Zc n m (hs n A m)
 | 0,_=>⟨Sim.of_eq (Eqn.refl A),fun c i h=>absurd h (by omega)⟩
 | m+1,hm=>by
  show Sim n A (if m=0 then A else stp n m (hs n A m))/\Zc n (m+1) (if m=0 then A else stp n m (hs n A m))
  by_cases e:m=0
  ·rw[if_pos e]
   exact⟨Sim.of_eq (Eqn.refl A),fun c i h=>absurd h (by omega)⟩
  ·rw[if_neg e]
   obtain⟨h1,h2⟩:=hs_ok n A m (by omega)
   exact stp_ok (by omega) (by omega) h1 h2
def hsn (n:Nat) (A:Nat->Nat->Rat):Nat->Nat->Rat:=hs n A (n-1)
theorem hsn_ok (n:Nat) (A:Nat->Nat->Rat):Sim n A (hsn n A)/\Hess n (hsn n A):=by
 by_cases h:n=0
 ·exact⟨by rw[show hsn n A=A by unfold hsn;rw[h];rfl];exact Sim.of_eq (Eqn.refl A),fun i k hi=>absurd hi (by omega)⟩
 ·obtain⟨h1,h2⟩:=hs_ok n A (n-1) (by omega)
  exact⟨h1,fun i k hi hk=>h2 k i (by omega) hk hi⟩
theorem newt_hsn (n:Nat) (A:Nat->Nat->Rat):Newt n A (hp (wd (hsn n A)) n).f:=Newt.of_hess (hsn_ok n A).1 (hsn_ok n A).2
end Mx
end Go.Proofs.YtkmbnldginonbaaGreat
