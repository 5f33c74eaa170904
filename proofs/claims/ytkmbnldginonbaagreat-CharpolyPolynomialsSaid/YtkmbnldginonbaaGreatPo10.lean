/- Matrices in the program: rows stored. -/
import Derived.Test.YtkmbnldginonbaaGreatPo9
import Derived.Test.YtkmbnldginonbaaGreatPo1
import Derived.Test.YtkmbnldginonbaaGreatPo5
set_option maxHeartbeats 16000000
namespace Go.Proofs.YtkmbnldginonbaaGreat
open Go.RowKit
namespace Rf
theorem one_ql {bl:List Blk} {c:Nat->RawR} (r:Bool) (i j:Nat) (hj:j<4):St.one bl (qlF c i j)=true/\(r=true->(qlF c i j).noU=true):=by
 match j,hj with
 | 0,_=>exact⟨rfl,fun _=>rfl⟩
 | 1,_=>exact⟨rfl,fun _=>rfl⟩
 | 2,_=>exact⟨rfl,fun _=>rfl⟩
 | 3,_=>exact⟨rfl,fun _=>rfl⟩
theorem row_in {n m i a b:Nat} {G:Nat->Nat->Rat} (hi:i<n) (ha:a<i*m+m):zB (i*m) (qlF fun k=>ofR (G (k / m) (k%m))) (qlF fun k=>ofR (G i k)) a b=qlF (fun k=>ofR (G (k / m) (k%m))) a b:=by
 unfold zB;split
 ·rfl
 ·rename_i h;obtain⟨j,rfl⟩:∃ j,a=i*m+j:=⟨a-i*m,by omega⟩;obtain⟨_,e2,e3⟩:=mat_idx hi (show j<m by omega);refine Ug ?_;rw[e2,e3,show i*m+j-i*m=j by omega]
theorem store_ok {n m:Nat} {G:Nat->Nat->Rat} (hn:n<=64) (hm:m<=64):FnOK Tryz.prog true 108 [.c (.int .i64 m),.c (vb n m G)] (.g (zj n m G)):=by
 have hnm:∀ i,i<=n->i*m<=4096:=fun i hi=>Nat.le_trans (Nat.mul_le_mul (show i<=64 by omega) hm) (by decide);refine qV (E:=E1) qQ Tryz.func108 rfl mixed (by kernel_rfl) (by kernel_rfl) ?_;conv=>whnf
 refine qK (fun i:Nat=>gst [(4,.c (.p 0 0 3 0 0)),(5,.c (.p 1 0 3 0 0)),(12,.c (vb n m G)),(13,.c (.int .i64 n)),(14,.c (.int .i64 i))] [⟨24,3,1,qk [.int .i64 0,.int .i64 0,.nil]⟩,⟨24,3,1,qk [.int .i64 n,.int .i64 m,.gs 2 0]⟩,gqr (i*m) fun k=>ofR (G (k / m) (k%m))]) (fun i=>n-i) (fun i=>i<=n) 0 rfl ?_ (Nat.zero_le _) fun i hi=>?_
 ·refine Weak.gen [some 0,some 1,none] rfl ⟨boxK rfl rfl,⟨_,rfl,rfl,rfl,rfl,rfl,fun a b ha hb=>by
   obtain rfl:=Nat.lt_one_iff.1 ha;match b,hb with
   | 0,_=>exact⟨_,rfl,rfl⟩
   | 1,_=>exact⟨_,rfl,rfl⟩
   | 2,_=>exact rfl⟩,Nat.zero_mul m,trivial⟩ ⟨⟨_,rfl,rfl,rfl⟩,⟨_,rfl,rfl,rfl⟩,rO rfl,⟨_,rfl,rfl⟩,⟨_,rfl,rfl⟩,trivial⟩
 have e1:=hnm i hi;conv=>whnf
 refine qg (fun(h:decide ((i:Int)<n)=true)=>?_) fun(h:decide ((i:Int)<n)=false)=>?_
 ·have h:=of_decide_eq_true h;have hin:i<n:=by omega
  conv=>whnf
  refine⟨by omega,by omega,?_⟩;conv=>whnf
  refine⟨by show i*m+m<=16777216;omega,fun a b ha hb=>one_ql (c:=fun k=>ofR (G i k)) _ a b hb,?_⟩;conv=>whnf
  refine⟨i64 (by omega) (by omega),?_⟩;conv=>whnf
  exact⟨i+1,by omega,Weak.gen [some 0,some 1,some 2] rfl ⟨boxK rfl rfl,⟨_,rfl,rfl,rfl,rfl,rfl,fun a b ha hb=>by
   obtain rfl:=Nat.lt_one_iff.1 ha;match b,hb with
   | 0,_=>exact⟨_,rfl,rfl⟩
   | 1,_=>exact⟨_,rfl,rfl⟩
   | 2,_=>exact⟨_,rfl,rfl,rfl⟩⟩,⟨_,rfl,rfl,rfl,(Nat.succ_mul i m).symm,rfl,fun a b ha hb=>qY (row_in hin (by have ha:a<(i+1)*m:=ha;rwa [Nat.succ_mul]at ha)) (qW (c:=fun k=>ofR (G (k / m) (k%m))) a b)⟩,trivial⟩ ⟨⟨_,rfl,rfl,rfl⟩,⟨_,rfl,rfl,rfl⟩,rO rfl,⟨_,rfl,rfl⟩,⟨_,rfl,rfl⟩,trivial⟩,by omega⟩
 ·have h:=of_decide_eq_false h;have e:i=n:=by omega
  have g:Sub (.g [.int .i64 n,.int .i64 m,.row 4 (i*m) (qlF fun k=>ofR (G (k / m) (k%m)))]) (.g (zj n m G)):=by rw[e];exact Sub.refl _
  conv=>whnf
  refine⟨fun a b _ _=>qW (c:=fun k=>ofR (G (k / m) (k%m))) a b,?_⟩;conv=>whnf
  exact⟨rfl,g⟩
end Rf
end Go.Proofs.YtkmbnldginonbaaGreat
/- Matrices in the program: rows loaded. -/
namespace Go.Proofs.YtkmbnldginonbaaGreat
open Go.RowKit
namespace Rf
structure Grd (m : Nat) (G : Nat → Nat → Rat) (F C : Nat → Nat → Cell) : Prop where
 old:∀ i k,k<i->F i k=nql m (G k)
 new:∀ i k,i<=k->F i k = .nil
 old':∀ i k,k<i->C i k=nql m (G k)
 at':∀ i,C i i = .gs 2 0
 new':∀ i k,i<k->C i k = .nil
theorem grd (m:Nat) (G:Nat->Nat->Rat):∃ F C,Grd m G F C :=
 ⟨fun i k=>if k<i then nql m (G k)else .nil,fun i k=>if k<i then nql m (G k)else if k=i then .gs 2 0 else .nil,
  fun _ _ h=>if_pos h,fun _ _ h=>if_neg (by omega),fun _ _ h=>if_pos h,fun i=>by
   show(if i<i then _ else if i=i then _ else _)=_;rw[if_neg (Nat.lt_irrefl i),if_pos rfl],fun i k h=>by
   show(if k<i then _ else if k=i then _ else _)=_;rw[if_neg (by omega),if_neg (by omega)]⟩
abbrev gGrid (n:Nat) (f:Nat->Cell):Gx:=⟨22,1,n,fun k _=>f k⟩
theorem vB {q:Nat} {bl:List Blk} {ks:List (Option Nat)} {m i:Nat} {G:Nat->Nat->Rat} {F C:Nat->Nat->Cell} (hg:Grd m G F C) (k:Nat) {g:Nat->Cell} (hgs:zF q bl ks (.gs 2 0) fun y=>Cell.gs 2 0=y) (e:g=C i):zF q bl ks (C i k) fun y=>g k=y:=by
 subst e;rcases Nat.lt_trichotomy k i with c | c | c
 ·rw[hg.old' i k c];exact qY rfl rfl
 ·subst c;rw[hg.at'];exact hgs
 ·rw[hg.new' i k c];exact qY rfl rfl
end Rf
end Go.Proofs.YtkmbnldginonbaaGreat
/- Matrices in the program: from rows; the matrix of a multiplication. -/
namespace Go.Proofs.YtkmbnldginonbaaGreat
open Go.RowKit
namespace Rf
end Rf
end Go.Proofs.YtkmbnldginonbaaGreat
/- Matrices in the program, whatever fractions their elements are: rows loaded. -/
namespace Go.Proofs.YtkmbnldginonbaaGreat
open Go.RowKit
namespace Rf
theorem loadR_ok {n m:Nat} {q:Nat->RawR} {G:Nat->Nat->Rat} (hn:n<=64) (hm:m<=64) (hq:∀ k,k<n*m->(q k).Fit KD) (hG:∀ i j,i<n->j<m->(q (i*m+j)).val=G i j):FnOK Tryz.prog true 111 [.g (qG n m q)] (.c (vb n m G)):=by
 obtain⟨F,C,hg⟩:=grd m G;have hnm:∀ i,i<=n->(i:Int)*(m:Int)=((i*m:Nat):Int)/\i*m<=4096:=fun i hi=>⟨by rw[Int.natCast_mul],Nat.le_trans (Nat.mul_le_mul (show i<=64 by omega) hm) (by decide)⟩;have n1:∀ i j,i<n->j<m->FnOK Tryz.prog true 73 [.g (rr (q ((i:Int)*(m:Int)+(j:Int)).toNat))] (.g (nq (G i j))):=fun i j hi hj=>by
  have e1:=(hnm i (by omega)).1;rw[show((i:Int)*(m:Int)+(j:Int)).toNat=i*m+j by rw[e1];omega,<- hG i j hi hj];exact wV (hq _ (mat_idx hi hj).1) (by decide)
 clear hq hG;refine jy (E:=E1) qQ Tryz.func111 rfl (by kernel_rfl) ?_;refine qf qQ mixed (by kernel_rfl) ?_;conv=>whnf
 refine qf qQ mixed (by kernel_rfl) ?_;conv=>whnf
 refine⟨by omega,Int.le_refl _,by omega,by show(24:Int)*(n:Int)<=281474976710656;omega,?_⟩;conv=>whnf
 refine jq ?_;refine qf qQ mixed (by kernel_rfl) ?_;conv=>whnf
 refine qq ?_;refine qZ (fun i:Nat=>gst [(1,.c (.p 0 0 3 0 0)),(3,.c (.gs 1 0)),(10,.c (.int .i64 n)),(11,.c (.int .i64 i))] [⟨24,3,1,qk (qG n m q)⟩,gGrid n (F i)]) (fun i=>n-i) (fun i=>i<=n) 0 ?_ (Nat.zero_le _) fun i hi=>?_
 ·refine Weak.gen [some 0,some 1] rfl ⟨boxK rfl rfl,⟨_,rfl,rfl,rfl,by show Int.toNat n=n;omega,rfl,fun k j hk hj=>?_⟩,trivial⟩ ⟨⟨_,rfl,rfl,rfl⟩,⟨_,rfl,rfl,rfl⟩,⟨_,rfl,by show(Int.toNat n:Int)=n;omega⟩,⟨_,rfl,rfl⟩,trivial⟩;obtain rfl:=Nat.lt_one_iff.1 hj;show zF 0 _ _ (F 0 k) _;rw[hg.new 0 k (Nat.zero_le k)];exact⟨rfl,rfl⟩
 have n1:=n1 i;obtain⟨e1,e2⟩:=hnm i hi;have e3:=fun(a:i<n) (j:Nat) (b:j<m)=>(mat_idx a b).1;refine qf qQ mixed (by kernel_rfl) ?_;conv=>whnf
 refine qf qQ mixed (by kernel_rfl) ?_;conv=>whnf
 refine qg (fun(h:decide ((i:Int)<n)=true)=>?_) fun(h:decide ((i:Int)<n)=false)=>?_
 ·have h:=of_decide_eq_true h;conv=>whnf
  refine jq (qq ?_);refine qf qQ mixed (by kernel_rfl) ?_;conv=>whnf
  refine qy qQ mixed (by kernel_rfl) ?_;conv=>whnf
  refine⟨by omega,Int.le_refl _,by omega,by show(64:Int)*(m:Int)<=281474976710656;omega,?_⟩;conv=>whnf
  refine⟨by omega,by show(i:Int)<(n:Int);omega,?_⟩;conv=>whnf
  refine⟨gst [(1,.c (.p 0 0 3 0 0)),(3,.c (.gs 1 0)),(4,.c (.int .i64 i)),(10,.c (.int .i64 n)),(11,.c (.int .i64 i))] [⟨24,3,1,qk (qG n m q)⟩,gGrid n (C i),gqr m (vz (G i) 0)],Weak.gen [some 0,some 1,some 2] rfl ⟨boxK rfl rfl,⟨_,rfl,rfl,rfl,rfl,rfl,fun k j hk hj=>?_⟩,⟨_,rfl,rfl,rfl,by show Int.toNat m=m;omega,rfl,fun k j hk hj=>?_⟩,trivial⟩ ⟨⟨_,rfl,rfl,rfl⟩,⟨_,rfl,rfl,rfl⟩,⟨_,rfl,rfl⟩,⟨_,rfl,rfl⟩,⟨_,rfl,rfl⟩,trivial⟩,?_⟩
  ·obtain rfl:=Nat.lt_one_iff.1 hj;show zF 0 _ _ (C i k) fun z=>zY (fun k _=>F i k) i 0 [.gs 2 0] k 0=z;rcases Nat.lt_trichotomy k i with c | c | c
   ·rw[hg.old' i k c,show zY (fun k _=>F i k) i 0 [.gs 2 0] k 0=nql m (G k)from(if_neg (fun h=>by have:=h.1;omega)).trans (hg.old i k c)];exact qY rfl rfl
   ·subst c;rw[hg.at',show zY (fun j _=>F k j) k 0 [.gs 2 0] k 0 = .gs 2 0 from if_pos ⟨rfl,Nat.le_refl 0,by decide⟩];exact⟨_,rfl,rfl,rfl⟩
   ·rw[hg.new' i k c,show zY (fun k _=>F i k) i 0 [.gs 2 0] k 0 = .nil from(if_neg (fun h=>by have:=h.1;omega)).trans (hg.new i k (by omega))];exact⟨rfl,rfl⟩
  ·show zF 0 _ _ (qlF (vz (G i) 0) k j) _;rw[rmid_zero];match j,hj with
   | 0,_=>exact⟨_,rfl,rfl⟩
   | 1,_=>exact .inr (.inl ⟨rfl,rfl⟩)
   | 2,_=>exact⟨_,rfl,rfl⟩
   | 3,_=>exact .inr (.inl ⟨rfl,rfl⟩)
  have hCi:C i (i:Int).toNat = .gs 2 0:=hg.at' i;refine qy qQ mixed (by kernel_rfl) ?_;conv=>whnf
  refine⟨by omega,by show(i:Int)<(n:Int);omega,?_⟩;conv=>whnf
  conv =>
   pattern vv _ _
   change vv _ (V.c (C i (i:Int).toNat));rw[hCi]
  conv=>whnf
  refine⟨gst [(1,.c (.p 0 0 3 0 0)),(3,.c (.gs 1 0)),(4,.c (.int .i64 i)),(10,.c (.int .i64 n)),(11,.c (.int .i64 i)),(24,.c (.int .i64 m)),(25,.c (.int .i64 0))] [⟨24,3,1,qk (qG n m q)⟩,gGrid n (C i),gqr m (vz (G i) 0)],Weak.gen [some 0,some 1,some 2] rfl ⟨boxK rfl rfl,⟨_,rfl,rfl,rfl,rfl,rfl,fun k j hk hj=>vB hg k ⟨_,rfl,rfl,rfl⟩ rfl⟩,⟨_,rfl,rfl,rfl,rfl,rfl,fun k j hk hj=>qY rfl (qW (c:=vz (G i) 0) k j)⟩,trivial⟩ ⟨⟨_,rfl,rfl,rfl⟩,⟨_,rfl,rfl,rfl⟩,⟨_,rfl,rfl⟩,⟨_,rfl,rfl⟩,⟨_,rfl,rfl⟩,⟨_,rfl,rfl⟩,⟨_,rfl,rfl⟩,trivial⟩,?_⟩;refine qJ qQ mixed (by kernel_rfl) ?_;conv=>whnf
  refine qK (fun j:Nat=>gst [(1,.c (.p 0 0 3 0 0)),(3,.c (.gs 1 0)),(4,.c (.int .i64 i)),(10,.c (.int .i64 n)),(11,.c (.int .i64 i)),(24,.c (.int .i64 m)),(25,.c (.int .i64 j))] [⟨24,3,1,qk (qG n m q)⟩,gGrid n (C i),gqr m (vz (G i) j)]) (fun j=>m-j) (fun j=>j<=m) 0 rfl (Weak.gen [some 0,some 1,some 2] rfl ⟨boxK rfl rfl,⟨_,rfl,rfl,rfl,rfl,rfl,fun k j hk hj=>vB hg k ⟨_,rfl,rfl,rfl⟩ rfl⟩,⟨_,rfl,rfl,rfl,rfl,rfl,fun k j hk hj=>qY rfl (qW (c:=vz (G i) 0) k j)⟩,trivial⟩ ⟨⟨_,rfl,rfl,rfl⟩,⟨_,rfl,rfl,rfl⟩,⟨_,rfl,rfl⟩,⟨_,rfl,rfl⟩,⟨_,rfl,rfl⟩,⟨_,rfl,rfl⟩,⟨_,rfl,rfl⟩,trivial⟩) (Nat.zero_le _) fun j hj=>?_;have n1:=fun a=>n1 j (by omega) a;have e3:=fun a=>e3 (by omega) j a;conv=>whnf
  refine qg (fun(h1:decide ((j:Int)<m)=true)=>?_) fun(h1:decide ((j:Int)<m)=false)=>?_
  ·have h1:=of_decide_eq_true h1;have n1:=n1 (by omega);have e3:=e3 (by omega);conv=>whnf
   refine⟨by omega,by show(i:Int)<(n:Int);omega,?_⟩;conv=>whnf
   refine⟨i64 (by rw[e1];omega) (by rw[e1];omega),?_⟩;conv=>whnf
   refine⟨i64 (by rw[e1];omega) (by rw[e1];omega),?_⟩;conv=>whnf
   refine⟨by rw[e1];omega,by show(i:Int)*(m:Int)+(j:Int)<((n*m:Nat):Int);rw[e1];omega,?_⟩;conv=>whnf
   refine⟨_,n1,?_⟩;conv=>whnf
   refine⟨by omega,?_⟩;conv =>
    pattern St.ev _ (Operand.tmp 31)
    change V.c (C i (i:Int).toNat);rw[hCi]
   conv=>whnf
   refine⟨by show(j:Int)<(m:Int);omega,?_⟩;conv=>whnf
   refine⟨i64 (by omega) (by omega),?_⟩;conv=>whnf
   refine⟨j+1,by omega,Weak.gen [some 0,some 1,some 2] rfl ⟨boxK rfl rfl,⟨_,rfl,rfl,rfl,rfl,rfl,fun k j hk hj=>vB hg k ⟨_,rfl,rfl,rfl⟩ rfl⟩,⟨_,rfl,rfl,rfl,rfl,rfl,fun a b ha hb=>qY ?_ (qW (c:=vz (G i) (j+1)) a b)⟩,trivial⟩ ⟨⟨_,rfl,rfl,rfl⟩,⟨_,rfl,rfl,rfl⟩,⟨_,rfl,rfl⟩,⟨_,rfl,rfl⟩,⟨_,rfl,rfl⟩,⟨_,rfl,rfl⟩,⟨_,rfl,rfl⟩,trivial⟩,by omega⟩;exact WZ (sz:=4) (g:=fun k=>rr (vz (G i) j k)) (g':=fun k=>rr (vz (G i) (j+1) k)) (l:=nq (G i j)) rfl hb (rmid_next (G i) j a)
  ·have h1:=of_decide_eq_false h1;have ej:j=m:=by omega
   conv=>whnf
   refine qJ qQ mixed (by kernel_rfl) ?_;conv=>whnf
   refine⟨i64 (by omega) (by omega),?_⟩;conv=>whnf
   refine⟨i+1,by omega,Weak.gen [some 0,some 1] rfl ⟨boxK rfl rfl,⟨_,rfl,rfl,rfl,rfl,rfl,fun k l hk hl=>?_⟩,trivial⟩ ⟨⟨_,rfl,rfl,rfl⟩,⟨_,rfl,rfl,rfl⟩,⟨_,rfl,rfl⟩,⟨_,rfl,rfl⟩,trivial⟩,by omega⟩;obtain rfl:=Nat.lt_one_iff.1 hl;show zF 0 _ _ (F (i+1) k) fun z=>C i k=z;rcases Nat.lt_trichotomy k i with c | c | c
   ·rw[hg.old (i+1) k (by omega),hg.old' i k c];exact qY rfl rfl
   ·subst c;rw[hg.old (k+1) k (by omega),hg.at'];exact .inr (.inr ⟨2,_,rfl,rfl,rfl,rfl,Nat.zero_le _,rfl,rfl,fun a b ha hb=>⟨Ug (c:=vz (G k) j) (e:=fun a=>ofR (G k a)) (i:=a) (k:=a) (rmid_all (by omega)),qW (c:=fun a=>ofR (G k a)) a b⟩⟩)
   ·rw[hg.new (i+1) k (by omega),hg.new' i k c];exact⟨rfl,rfl⟩
 ·have h:=of_decide_eq_false h;have e:i=n:=by omega
  conv=>whnf
  have g:Sub (.c (.row 1 n fun k _=>F i k)) (.c (vb n m G)):=zg rfl fun k j hk hj=>hg.old i k (by omega);refine qJ qQ mixed (by kernel_rfl) ?_;conv=>whnf
  refine⟨fun a b ha hb=>by show(F i a).clos=true;rw[hg.old i a (Nat.lt_of_lt_of_le ha (show n<=i by omega))];rfl,?_⟩;conv=>whnf
  exact⟨rfl,g⟩
theorem loadR_s {n m:Nat} {q:Nat->RawR} {G:Nat->Nat->Rat} (hn:n<=64) (hm:m<=64) (hq:∀ k,k<n*m->(q k).Fit KD) (hG:∀ i j,i<n->j<m->(q (i*m+j)).val=G i j):FnS Tryz.prog true 111 [] [.g (qG n m q)] (.c (.gs 0 0)) [gb (gGrid n fun i=>nql m (G i))]:=by
 obtain⟨F,C,hg⟩:=grd m G;have hnm:∀ i,i<=n->(i:Int)*(m:Int)=((i*m:Nat):Int)/\i*m<=4096:=fun i hi=>⟨by rw[Int.natCast_mul],Nat.le_trans (Nat.mul_le_mul (show i<=64 by omega) hm) (by decide)⟩;have n1:∀ i j,i<n->j<m->FnOK Tryz.prog true 73 [.g (rr (q ((i:Int)*(m:Int)+(j:Int)).toNat))] (.g (nq (G i j))):=fun i j hi hj=>by
  have e1:=(hnm i (by omega)).1;rw[show((i:Int)*(m:Int)+(j:Int)).toNat=i*m+j by rw[e1];omega,<- hG i j hi hj];exact wV (hq _ (mat_idx hi hj).1) (by decide)
 clear hq hG;refine fns_okS (E:=E1) qQ Tryz.func111 rfl (by kernel_rfl) rfl ?_;refine qf qQ mixed (by kernel_rfl) ?_;conv=>whnf
 refine qf qQ mixed (by kernel_rfl) ?_;conv=>whnf
 refine⟨by omega,Int.le_refl _,by omega,by show(24:Int)*(n:Int)<=281474976710656;omega,?_⟩;conv=>whnf
 refine jq ?_;refine qf qQ mixed (by kernel_rfl) ?_;conv=>whnf
 refine qq ?_;refine qZ (fun i:Nat=>gst [(1,.c (.p 0 0 3 0 0)),(3,.c (.gs 1 0)),(10,.c (.int .i64 n)),(11,.c (.int .i64 i))] [⟨24,3,1,qk (qG n m q)⟩,gGrid n (F i)]) (fun i=>n-i) (fun i=>i<=n) 0 ?_ (Nat.zero_le _) fun i hi=>?_
 ·refine Weak.gen [some 0,some 1] rfl ⟨boxK rfl rfl,⟨_,rfl,rfl,rfl,by show Int.toNat n=n;omega,rfl,fun k j hk hj=>?_⟩,trivial⟩ ⟨⟨_,rfl,rfl,rfl⟩,⟨_,rfl,rfl,rfl⟩,⟨_,rfl,by show(Int.toNat n:Int)=n;omega⟩,⟨_,rfl,rfl⟩,trivial⟩;obtain rfl:=Nat.lt_one_iff.1 hj;show zF 0 _ _ (F 0 k) _;rw[hg.new 0 k (Nat.zero_le k)];exact⟨rfl,rfl⟩
 have n1:=n1 i;obtain⟨e1,e2⟩:=hnm i hi;have e3:=fun(a:i<n) (j:Nat) (b:j<m)=>(mat_idx a b).1;refine qf qQ mixed (by kernel_rfl) ?_;conv=>whnf
 refine qf qQ mixed (by kernel_rfl) ?_;conv=>whnf
 refine qg (fun(h:decide ((i:Int)<n)=true)=>?_) fun(h:decide ((i:Int)<n)=false)=>?_
 ·have h:=of_decide_eq_true h;conv=>whnf
  refine jq (qq ?_);refine qf qQ mixed (by kernel_rfl) ?_;conv=>whnf
  refine qy qQ mixed (by kernel_rfl) ?_;conv=>whnf
  refine⟨by omega,Int.le_refl _,by omega,by show(64:Int)*(m:Int)<=281474976710656;omega,?_⟩;conv=>whnf
  refine⟨by omega,by show(i:Int)<(n:Int);omega,?_⟩;conv=>whnf
  refine⟨gst [(1,.c (.p 0 0 3 0 0)),(3,.c (.gs 1 0)),(4,.c (.int .i64 i)),(10,.c (.int .i64 n)),(11,.c (.int .i64 i))] [⟨24,3,1,qk (qG n m q)⟩,gGrid n (C i),gqr m (vz (G i) 0)],Weak.gen [some 0,some 1,some 2] rfl ⟨boxK rfl rfl,⟨_,rfl,rfl,rfl,rfl,rfl,fun k j hk hj=>?_⟩,⟨_,rfl,rfl,rfl,by show Int.toNat m=m;omega,rfl,fun k j hk hj=>?_⟩,trivial⟩ ⟨⟨_,rfl,rfl,rfl⟩,⟨_,rfl,rfl,rfl⟩,⟨_,rfl,rfl⟩,⟨_,rfl,rfl⟩,⟨_,rfl,rfl⟩,trivial⟩,?_⟩
  ·obtain rfl:=Nat.lt_one_iff.1 hj;show zF 0 _ _ (C i k) fun z=>zY (fun k _=>F i k) i 0 [.gs 2 0] k 0=z;rcases Nat.lt_trichotomy k i with c | c | c
   ·rw[hg.old' i k c,show zY (fun k _=>F i k) i 0 [.gs 2 0] k 0=nql m (G k)from(if_neg (fun h=>by have:=h.1;omega)).trans (hg.old i k c)];exact qY rfl rfl
   ·subst c;rw[hg.at',show zY (fun j _=>F k j) k 0 [.gs 2 0] k 0 = .gs 2 0 from if_pos ⟨rfl,Nat.le_refl 0,by decide⟩];exact⟨_,rfl,rfl,rfl⟩
   ·rw[hg.new' i k c,show zY (fun k _=>F i k) i 0 [.gs 2 0] k 0 = .nil from(if_neg (fun h=>by have:=h.1;omega)).trans (hg.new i k (by omega))];exact⟨rfl,rfl⟩
  ·show zF 0 _ _ (qlF (vz (G i) 0) k j) _;rw[rmid_zero];match j,hj with
   | 0,_=>exact⟨_,rfl,rfl⟩
   | 1,_=>exact .inr (.inl ⟨rfl,rfl⟩)
   | 2,_=>exact⟨_,rfl,rfl⟩
   | 3,_=>exact .inr (.inl ⟨rfl,rfl⟩)
  have hCi:C i (i:Int).toNat = .gs 2 0:=hg.at' i;refine qy qQ mixed (by kernel_rfl) ?_;conv=>whnf
  refine⟨by omega,by show(i:Int)<(n:Int);omega,?_⟩;conv=>whnf
  conv =>
   pattern vv _ _
   change vv _ (V.c (C i (i:Int).toNat));rw[hCi]
  conv=>whnf
  refine⟨gst [(1,.c (.p 0 0 3 0 0)),(3,.c (.gs 1 0)),(4,.c (.int .i64 i)),(10,.c (.int .i64 n)),(11,.c (.int .i64 i)),(24,.c (.int .i64 m)),(25,.c (.int .i64 0))] [⟨24,3,1,qk (qG n m q)⟩,gGrid n (C i),gqr m (vz (G i) 0)],Weak.gen [some 0,some 1,some 2] rfl ⟨boxK rfl rfl,⟨_,rfl,rfl,rfl,rfl,rfl,fun k j hk hj=>vB hg k ⟨_,rfl,rfl,rfl⟩ rfl⟩,⟨_,rfl,rfl,rfl,rfl,rfl,fun k j hk hj=>qY rfl (qW (c:=vz (G i) 0) k j)⟩,trivial⟩ ⟨⟨_,rfl,rfl,rfl⟩,⟨_,rfl,rfl,rfl⟩,⟨_,rfl,rfl⟩,⟨_,rfl,rfl⟩,⟨_,rfl,rfl⟩,⟨_,rfl,rfl⟩,⟨_,rfl,rfl⟩,trivial⟩,?_⟩;refine qJ qQ mixed (by kernel_rfl) ?_;conv=>whnf
  refine qK (fun j:Nat=>gst [(1,.c (.p 0 0 3 0 0)),(3,.c (.gs 1 0)),(4,.c (.int .i64 i)),(10,.c (.int .i64 n)),(11,.c (.int .i64 i)),(24,.c (.int .i64 m)),(25,.c (.int .i64 j))] [⟨24,3,1,qk (qG n m q)⟩,gGrid n (C i),gqr m (vz (G i) j)]) (fun j=>m-j) (fun j=>j<=m) 0 rfl (Weak.gen [some 0,some 1,some 2] rfl ⟨boxK rfl rfl,⟨_,rfl,rfl,rfl,rfl,rfl,fun k j hk hj=>vB hg k ⟨_,rfl,rfl,rfl⟩ rfl⟩,⟨_,rfl,rfl,rfl,rfl,rfl,fun k j hk hj=>qY rfl (qW (c:=vz (G i) 0) k j)⟩,trivial⟩ ⟨⟨_,rfl,rfl,rfl⟩,⟨_,rfl,rfl,rfl⟩,⟨_,rfl,rfl⟩,⟨_,rfl,rfl⟩,⟨_,rfl,rfl⟩,⟨_,rfl,rfl⟩,⟨_,rfl,rfl⟩,trivial⟩) (Nat.zero_le _) fun j hj=>?_;have n1:=fun a=>n1 j (by omega) a;have e3:=fun a=>e3 (by omega) j a;conv=>whnf
  refine qg (fun(h1:decide ((j:Int)<m)=true)=>?_) fun(h1:decide ((j:Int)<m)=false)=>?_
  ·have h1:=of_decide_eq_true h1;have n1:=n1 (by omega);have e3:=e3 (by omega);conv=>whnf
   refine⟨by omega,by show(i:Int)<(n:Int);omega,?_⟩;conv=>whnf
   refine⟨i64 (by rw[e1];omega) (by rw[e1];omega),?_⟩;conv=>whnf
   refine⟨i64 (by rw[e1];omega) (by rw[e1];omega),?_⟩;conv=>whnf
   refine⟨by rw[e1];omega,by show(i:Int)*(m:Int)+(j:Int)<((n*m:Nat):Int);rw[e1];omega,?_⟩;conv=>whnf
   refine⟨_,n1,?_⟩;conv=>whnf
   refine⟨by omega,?_⟩;conv =>
    pattern St.ev _ (Operand.tmp 31)
    change V.c (C i (i:Int).toNat);rw[hCi]
   conv=>whnf
   refine⟨by show(j:Int)<(m:Int);omega,?_⟩;conv=>whnf
   refine⟨i64 (by omega) (by omega),?_⟩;conv=>whnf
   refine⟨j+1,by omega,Weak.gen [some 0,some 1,some 2] rfl ⟨boxK rfl rfl,⟨_,rfl,rfl,rfl,rfl,rfl,fun k j hk hj=>vB hg k ⟨_,rfl,rfl,rfl⟩ rfl⟩,⟨_,rfl,rfl,rfl,rfl,rfl,fun a b ha hb=>qY ?_ (qW (c:=vz (G i) (j+1)) a b)⟩,trivial⟩ ⟨⟨_,rfl,rfl,rfl⟩,⟨_,rfl,rfl,rfl⟩,⟨_,rfl,rfl⟩,⟨_,rfl,rfl⟩,⟨_,rfl,rfl⟩,⟨_,rfl,rfl⟩,⟨_,rfl,rfl⟩,trivial⟩,by omega⟩;exact WZ (sz:=4) (g:=fun k=>rr (vz (G i) j k)) (g':=fun k=>rr (vz (G i) (j+1) k)) (l:=nq (G i j)) rfl hb (rmid_next (G i) j a)
  ·have h1:=of_decide_eq_false h1;have ej:j=m:=by omega
   conv=>whnf
   refine qJ qQ mixed (by kernel_rfl) ?_;conv=>whnf
   refine⟨i64 (by omega) (by omega),?_⟩;conv=>whnf
   refine⟨i+1,by omega,Weak.gen [some 0,some 1] rfl ⟨boxK rfl rfl,⟨_,rfl,rfl,rfl,rfl,rfl,fun k l hk hl=>?_⟩,trivial⟩ ⟨⟨_,rfl,rfl,rfl⟩,⟨_,rfl,rfl,rfl⟩,⟨_,rfl,rfl⟩,⟨_,rfl,rfl⟩,trivial⟩,by omega⟩;obtain rfl:=Nat.lt_one_iff.1 hl;show zF 0 _ _ (F (i+1) k) fun z=>C i k=z;rcases Nat.lt_trichotomy k i with c | c | c
   ·rw[hg.old (i+1) k (by omega),hg.old' i k c];exact qY rfl rfl
   ·subst c;rw[hg.old (k+1) k (by omega),hg.at'];exact .inr (.inr ⟨2,_,rfl,rfl,rfl,rfl,Nat.zero_le _,rfl,rfl,fun a b ha hb=>⟨Ug (c:=vz (G k) j) (e:=fun a=>ofR (G k a)) (i:=a) (k:=a) (rmid_all (by omega)),qW (c:=fun a=>ofR (G k a)) a b⟩⟩)
   ·rw[hg.new (i+1) k (by omega),hg.new' i k c];exact⟨rfl,rfl⟩
 ·have h:=of_decide_eq_false h;have e:i=n:=by omega
  conv=>whnf
  refine qJ qQ mixed (by kernel_rfl) ?_;conv=>whnf
  refine(show Weak 0 ⟨_,_⟩ (gst [(0,.c (.gs 0 0))] [gGrid n fun i=>nql m (G i)])from Weak.gen [some 1] rfl ⟨⟨_,rfl,rfl,rfl,rfl,rfl,fun k j hk hj=>?_⟩,trivial⟩ ⟨⟨_,rfl,rfl,rfl⟩,trivial⟩);show zF 0 _ _ (nql m (G k)) fun z=>F i k=z;rw[hg.old i k (by have hk:k<n:=hk;omega)];exact qY rfl rfl
end Rf
end Go.Proofs.YtkmbnldginonbaaGreat
/- Matrices in the program, whatever fractions their elements are: products. -/
namespace Go.Proofs.YtkmbnldginonbaaGreat
open Go.RowKit
namespace Rf
theorem wB {n m:Nat} {q:Nat->RawR} (hn:n<=1024) (hm:m<=1024):FnOK Tryz.prog true 72 [.g (qG n m q)] (.c (.bool true)):=by
 have h:=valid_ok (r:=n) (c:=m) (len:=n*m) (f:=qlF q);rwa [decide_eq_true (⟨⟨by omega,by omega⟩,⟨by omega,by omega⟩,by rw[Int.natCast_mul]⟩:((0:Int)<=n/\(n:Int)<=1024)/\((0:Int)<=m/\(m:Int)<=1024)/\((n*m:Nat):Int)=(n:Int)*m)]at h
theorem Vx (X : Nat → Rat) (G : Nat → Nat → Rat) : ∀ i j, wF X G i j = xY X G i j
 | 0,_=>rfl
 | i+1,j=>by
  show wF X G i j+X i*G i j=Q.su (fun a=>X a*G a j) i+X i*G i j;rw[Vx X G i j]
abbrev Wj (m k i r:Nat):Nat:=if r<i then m else k
abbrev Wy (P A:Nat->Nat->Rat) (i r:Nat):Nat->Rat:=if r<i then P r else A r
theorem if_next {α:Type} {i r:Nat} (e:r≠i) (x y:α):(if r<i+1 then x else y)=if r<i then x else y:=by
 by_cases c:r<i
 ·rw[if_pos c,if_pos (by omega)]
 ·rw[if_neg c,if_neg (by omega)]
theorem mid2_at {q:Nat} {bl:List Blk} {ks:List (Option Nat)} {m k i:Nat} {P A:Nat->Nat->Rat} {F:Nat->Nat->Cell} (hF:∀ r,F r 0=nql (Wj m k i r) (Wy P A i r)) (r b:Nat) (hb:b<1):zF q bl ks (nql (Wj m k (i+1) r) (Wy P A (i+1) r)) fun z=>zY F i 0 [nql m (P i)] r b=z:=by
 obtain rfl:=Nat.lt_one_iff.1 hb;by_cases e:r=i
 ·subst e;rw[show zY F r 0 [nql m (P r)] r 0=nql m (P r)from if_pos ⟨rfl,Nat.le_refl 0,by simp⟩,show Wj m k (r+1) r=m from if_pos (Nat.lt_succ_self r),show Wy P A (r+1) r=P r from if_pos (Nat.lt_succ_self r)];exact qY rfl rfl
 ·rw[show zY F i 0 [nql m (P i)] r 0=F r 0 from if_neg fun h=>e h.1,hF];rw[show Wj m k (i+1) r=Wj m k i r from if_next e _ _,show Wy P A (i+1) r=Wy P A i r from if_next e _ _];exact qY rfl rfl
theorem mulR_ok {n k m:Nat} {q p:Nat->RawR} {A B:Nat->Nat->Rat} (hn:n<=64) (hk:k<=64) (hm:m<=64) (hq:∀ a,a<n*k->(q a).Fit KD) (hqv:∀ i j,i<n->j<k->(q (i*k+j)).val=A i j) (hp:∀ a,a<k*m->(p a).Fit KD) (hpv:∀ i j,i<k->j<m->(p (i*m+j)).val=B i j) (hA:∀ i j,i<n->j<k->qlen (A i j)<=KD) (hB:∀ i j,i<k->j<m->qlen (B i j)<=KD) (hS:∀ r i j,r<n->i<=k->j<m->qlen (xY (A r) B i j)<=KD):FnOK Tryz.prog true 78 [.g (qG n k q),.g (qG k m p)] (.t2 (.g (zj n m fun r=>xY (A r) B k)) (.c (.int .i64 0))):=by
 have v1:=wB (n:=n) (m:=k) (q:=q) (by omega) (by omega);have v2:=wB (n:=k) (m:=m) (q:=p) (by omega) (by omega);have l1:=loadR_s hn hk hq hqv;have l2:=loadR_s hk hm hp hpv;have hQ:KD<=QS:=by decide
 have t0:∀ i,i<n->FnOK Tryz.prog true 120 [.c (nql k (A i)),.c (vb k m B),.c (.int .i64 m)] (.c (nql m (xY (A i) B k))):=fun i hi=>by
  have h:=times_ok (n:=k) (m:=m) (X:=A i) (G:=B) (by omega) (by omega) (fun j hj=>Nat.le_trans (hA i j hi hj) hQ) (fun a b ha hb=>Nat.le_trans (hB a b ha hb) hQ) fun a b ha hb=>by
   rw[Vx];exact Nat.le_trans (hS i a b hi (by omega) hb) hQ
  have e:wF (A i) B k=xY (A i) B k:=funext fun j=>Vx (A i) B k j;rw[e]at h;exact h
 have s0:=store_ok (n:=n) (m:=m) (G:=fun r=>xY (A r) B k) hn hm;obtain⟨P,hP⟩:∃ P:Nat->Nat->Rat,P=fun r=>xY (A r) B k:=⟨_,rfl⟩;rw[<- hP]at s0 ⊢
 have t0:∀ i,i<n->FnOK Tryz.prog true 120 [.c (nql (Wj m k i (i:Int).toNat) (Wy P A i (i:Int).toNat)),.c (vb k m B),.c (.int .i64 m)] (.c (nql m (P i))):=fun i hi=>by
  rw[show(i:Int).toNat=i by omega,show Wj m k i i=k from if_neg (Nat.lt_irrefl i),show Wy P A i i=A i from if_neg (Nat.lt_irrefl i),hP];exact t0 i hi
 have s0:∀ i,i=n->FnOK Tryz.prog true 108 [.c (.int .i64 m),.c (.row 1 n fun r _=>nql (Wj m k i r) (Wy P A i r))] (.g (zj n m P)):=fun i e=>by
  refine arg_ok s0 fun D w vs h=>?_;match vs,h with
  | [a,b],⟨h1,h2,_⟩ =>
   refine⟨h1,zg rfl (fun r j hr hj=>?_) D w b h2,trivial⟩;show nql (Wj m k i r) (Wy P A i r)=nql m (P r);rw[show Wj m k i r=m from if_pos (by omega),show Wy P A i r=P r from if_pos (by omega)]
 clear hq hqv hp hpv hA hB hS hP;refine qV (E:=E1) qQ Tryz.func78 rfl mixed (by kernel_rfl) (by kernel_rfl) ?_;conv=>whnf
 refine⟨_,v1,?_⟩;conv=>whnf
 refine⟨_,v2,?_⟩;conv=>whnf
 refine jj (show(!decide ((k:Int)=k))=false by simp) ?_;conv=>whnf
 refine .inl ⟨_,_,l1,rfl,fun _ _ _ _ _=>rfl,rfl,rfl,?_⟩;conv=>whnf
 refine .inl ⟨_,_,l2,rfl,fun _ _ _ _ _=>rfl,rfl,rfl,?_⟩;conv=>whnf
 refine qK (fun i:Nat=>gst [(3,.c (.p 0 0 3 0 0)),(4,.c (.p 1 0 3 0 0)),(6,.c (.gs 2 0)),(7,.c (vb k m B)),(30,.c (.int .i64 n)),(31,.c (.int .i64 i))] [⟨24,3,1,qk (qG k m p)⟩,⟨24,3,1,qk [.int .i64 0,.int .i64 0,.nil]⟩,⟨22,1,n,fun r _=>nql (Wj m k i r) (Wy P A i r)⟩]) (fun i=>n-i) (fun i=>i<=n) 0 rfl ?_ (Nat.zero_le _) fun i hi=>?_
 ·exact Weak.gen [some 1,some 2,some 4] rfl ⟨boxK rfl rfl,boxK rfl rfl,⟨_,rfl,rfl,rfl,rfl,rfl,fun a b ha hb=>qY rfl rfl⟩,trivial⟩ ⟨⟨_,rfl,rfl,rfl⟩,⟨_,rfl,rfl,rfl⟩,⟨_,rfl,rfl,rfl⟩,.inr (.inr ⟨6,_,rfl,rfl,rfl,rfl,Nat.zero_le _,rfl,rfl,fun _ _ _ _=>⟨rfl,rfl⟩⟩),⟨_,rfl,rfl⟩,⟨_,rfl,rfl⟩,trivial⟩
 have t0:=t0 i;have s0:=s0 i;conv=>whnf
 refine qg (fun(h:decide ((i:Int)<n)=true)=>?_) fun(h:decide ((i:Int)<n)=false)=>?_
 ·have h:=of_decide_eq_true h;have t0:=t0 (by omega);conv=>whnf
  refine⟨by omega,by omega,?_⟩;conv=>whnf
  refine⟨_,t0,?_⟩;conv=>whnf
  refine⟨by omega,by omega,?_⟩;conv=>whnf
  refine⟨i64 (by omega) (by omega),?_⟩;conv=>whnf
  exact⟨i+1,by omega,Weak.gen [some 0,some 1,some 2] rfl ⟨boxK rfl rfl,boxK rfl rfl,⟨_,rfl,rfl,rfl,rfl,rfl,fun a b ha hb=>mid2_at (fun _=>rfl) a b hb⟩,trivial⟩ ⟨⟨_,rfl,rfl,rfl⟩,⟨_,rfl,rfl,rfl⟩,⟨_,rfl,rfl,rfl⟩,rO rfl,⟨_,rfl,rfl⟩,⟨_,rfl,rfl⟩,trivial⟩,by omega⟩
 ·have h:=of_decide_eq_false h;have s0:=s0 (by omega);conv=>whnf
  refine⟨fun _ _ _ _=>rfl,?_⟩;conv=>whnf
  refine⟨_,s0,?_⟩;conv=>whnf
  exact⟨rfl,Sub.refl _⟩
end Rf
end Go.Proofs.YtkmbnldginonbaaGreat
/- Matrices in the program, whatever fractions their elements are: sums, multiples. -/
namespace Go.Proofs.YtkmbnldginonbaaGreat
open Go.RowKit
namespace Rf
theorem reg_box3 {q:Nat} {bl:List Blk} {ks:List (Option Nat)} {l0 l1 l2:Cell} {F:Nat->Nat->Cell} (h0:zF q bl ks l0 fun y=>F 0 0=y) (h1:zF q bl ks l1 fun y=>F 0 1=y) (h2:zF q bl ks l2 fun y=>F 0 2=y) (a b:Nat) (ha:a<1) (hb:b<3):zF q bl ks (qk [l0,l1,l2] a b) fun y=>F a b=y:=by
 obtain rfl:=Nat.lt_one_iff.1 ha;match b,hb with
 | 0,_=>exact h0
 | 1,_=>exact h1
 | 2,_=>exact h2
theorem each_add {n m N:Nat} {q p:Nat->RawR} {z:Nat->Rat} (hN:n*m=N) (hn:n<=64) (hm:m<=64) (call:∀ a,a<N->FnOK Tryz.prog true 93 [.g (rr (q a)),.g (rr (p a))] (.g (nq (z a)))):FnOK Tryz.prog true 121 [.g [.int .i64 n,.int .i64 m,ql N q],.g [.int .i64 n,.int .i64 m,ql N p],.c (.fn 93)] (.t2 (.g [.int .i64 n,.int .i64 m,nql N z]) (.c (.int .i64 0))):=by
 have v1:FnOK Tryz.prog true 72 [.g [.int .i64 n,.int .i64 m,ql N q]] (.c (.bool true)):=by rw[<- hN];exact wB (by omega) (by omega)
 have v2:FnOK Tryz.prog true 72 [.g [.int .i64 n,.int .i64 m,ql N p]] (.c (.bool true)):=by rw[<- hN];exact wB (by omega) (by omega)
 have hN:N<=4096:=by rw[<- hN];exact Nat.le_trans (Nat.mul_le_mul hn hm) (by decide)
 clear hn hm;have call:∀ a:Nat,a<N->FnOK Tryz.prog true 93 [.g (rr (q (a:Int).toNat)),.g (rr (p (a:Int).toNat))] (.g (nq (z a))):=fun a ha=>call a ha;refine qV (E:=E1) qQ Tryz.func121 rfl mixed (by kernel_rfl) (by kernel_rfl) ?_;conv=>whnf
 refine⟨_,v1,?_⟩;conv=>whnf
 refine⟨_,v2,?_⟩;conv=>whnf
 refine xG (xK.2 (show(!decide ((n:Int)=n))=false by simp)) ?_;conv=>whnf
 refine jj (show(!decide ((m:Int)=m))=false by simp) ?_;conv=>whnf
 refine⟨by omega,Int.le_refl _,by omega,by show(64:Int)*(N:Int)<=281474976710656;omega,?_⟩;conv=>whnf
 refine qK (fun i:Nat=>gst [(2,.c (.fn 93)),(3,.c (.p 0 0 3 0 0)),(4,.c (.p 1 0 3 0 0)),(6,.c (.p 2 0 3 0 0)),(8,.c (.p 3 0 3 0 0)),(44,.c (.int .i64 N)),(45,.c (.int .i64 i))] [⟨24,3,1,qk [.int .i64 n,.int .i64 m,ql N q]⟩,⟨24,3,1,qk [.int .i64 n,.int .i64 m,ql N p]⟩,⟨24,3,1,qk [.int .i64 0,.int .i64 0,.nil]⟩,⟨24,3,1,qk [.int .i64 n,.int .i64 m,.gs 4 0]⟩,gqp N z i]) (fun i=>N-i) (fun i=>i<=N) 0 rfl ?_ (Nat.zero_le _) fun i hi=>?_
 ·refine Weak.gen [some 0,some 1,some 2,some 12,some 10] rfl ⟨boxK rfl rfl,boxK rfl rfl,boxK rfl rfl,⟨_,rfl,rfl,rfl,rfl,rfl,reg_box3 ⟨_,rfl,rfl⟩ ⟨_,rfl,rfl⟩ ⟨_,rfl,rfl,rfl⟩⟩,⟨_,rfl,rfl,rfl,by show Int.toNat N=N;omega,rfl,fun k j hk hj=>?_⟩,trivial⟩ ⟨⟨rfl,rfl⟩,⟨_,rfl,rfl,rfl⟩,⟨_,rfl,rfl,rfl⟩,⟨_,rfl,rfl,rfl⟩,⟨_,rfl,rfl,rfl⟩,⟨_,rfl,rfl⟩,⟨_,rfl,rfl⟩,trivial⟩
  ·exact qY (congrArg (fun l=>l.getD j .any) (gV z k).symm) (z5 k j)
 have call:=call i;conv=>whnf
 refine qg (fun(h:decide ((i:Int)<N)=true)=>?_) fun(h:decide ((i:Int)<N)=false)=>?_
 ·have h:=of_decide_eq_true h;have call:=call (by omega);conv=>whnf
  refine⟨by omega,by omega,?_⟩;conv=>whnf
  refine⟨by omega,by omega,?_⟩;conv=>whnf
  refine⟨_,call,?_⟩;conv=>whnf
  refine⟨by omega,by omega,?_⟩;conv=>whnf
  refine⟨i64 (by omega) (by omega),?_⟩;conv=>whnf
  refine⟨i+1,by omega,Weak.gen [some 0,some 1,some 2,some 3,some 4] rfl ⟨boxK rfl rfl,boxK rfl rfl,boxK rfl rfl,⟨_,rfl,rfl,rfl,rfl,rfl,reg_box3 ⟨_,rfl,rfl⟩ ⟨_,rfl,rfl⟩ ⟨_,rfl,rfl,rfl⟩⟩,⟨_,rfl,rfl,rfl,rfl,rfl,fun j k hj hk=>qY ?_ (z5 j k)⟩,trivial⟩ ⟨⟨rfl,rfl⟩,⟨_,rfl,rfl,rfl⟩,⟨_,rfl,rfl,rfl⟩,⟨_,rfl,rfl,rfl⟩,⟨_,rfl,rfl,rfl⟩,⟨_,rfl,rfl⟩,⟨_,rfl,rfl⟩,trivial⟩,by omega⟩
  ·exact WZ (sz:=4) (g:=qpF z i) (g':=qpF z (i+1)) (l:=nq (z i)) rfl hk (y6 z i j)
 ·have h:=of_decide_eq_false h;have e:i=N:=by omega
  have g:Sub (.t2 (.g [.int .i64 n,.int .i64 m,.row 4 N fun k j=>(qpF z i k).getD j .any]) (.c (.int .i64 0))) (.t2 (.g [.int .i64 n,.int .i64 m,nql N z]) (.c (.int .i64 0))):=by
   rintro D w v ⟨x,y,h1,⟨vs,h2,h3⟩,h4⟩;refine⟨x,y,h1,⟨vs,h2,?_⟩,h4⟩;match vs.toList,h3 with
   | [a,b,c],⟨g1,g2,g3,g4⟩=>exact⟨g1,g2,zg rfl (fun k j hk hj=>by rw[e];exact V5 hk j) D w c g3,g4⟩
  conv=>whnf
  refine⟨fun k j _ _=>z5 k j,?_⟩;conv=>whnf
  exact⟨rfl,g⟩
theorem each_scale {n m N:Nat} {q p:Nat->RawR} {z:Nat->Rat} {u:Nat->Cell} (hN:n*m=N) (hn:n<=64) (hm:m<=64) (call:∀ a,a<N->FnOK Tryz.prog true 122 [.g (rr (q a)),.g (rr (p a)),.c (.xp 4 u)] (.g (nq (z a)))):FnOK Tryz.prog true 121 [.g [.int .i64 n,.int .i64 m,ql N q],.g [.int .i64 n,.int .i64 m,ql N p],.c (.cl 122 1 fun _ => .xp 4 u)] (.t2 (.g [.int .i64 n,.int .i64 m,nql N z]) (.c (.int .i64 0))):=by
 have v1:FnOK Tryz.prog true 72 [.g [.int .i64 n,.int .i64 m,ql N q]] (.c (.bool true)):=by rw[<- hN];exact wB (by omega) (by omega)
 have v2:FnOK Tryz.prog true 72 [.g [.int .i64 n,.int .i64 m,ql N p]] (.c (.bool true)):=by rw[<- hN];exact wB (by omega) (by omega)
 have hN:N<=4096:=by rw[<- hN];exact Nat.le_trans (Nat.mul_le_mul hn hm) (by decide)
 clear hn hm;have call:∀ a:Nat,a<N->FnOK Tryz.prog true 122 [.g (rr (q (a:Int).toNat)),.g (rr (p (a:Int).toNat)),.c (.xp 4 u)] (.g (nq (z a))):=fun a ha=>call a ha;refine qV (E:=E1) qQ Tryz.func121 rfl mixed (by kernel_rfl) (by kernel_rfl) ?_;conv=>whnf
 refine⟨_,v1,?_⟩;conv=>whnf
 refine⟨_,v2,?_⟩;conv=>whnf
 refine xG (xK.2 (show(!decide ((n:Int)=n))=false by simp)) ?_;conv=>whnf
 refine jj (show(!decide ((m:Int)=m))=false by simp) ?_;conv=>whnf
 refine⟨by omega,Int.le_refl _,by omega,by show(64:Int)*(N:Int)<=281474976710656;omega,?_⟩;conv=>whnf
 refine qK (fun i:Nat=>gst [(2,.c (.cl 122 1 fun _ => .xp 4 u)),(3,.c (.p 0 0 3 0 0)),(4,.c (.p 1 0 3 0 0)),(6,.c (.p 2 0 3 0 0)),(8,.c (.p 3 0 3 0 0)),(44,.c (.int .i64 N)),(45,.c (.int .i64 i))] [⟨24,3,1,qk [.int .i64 n,.int .i64 m,ql N q]⟩,⟨24,3,1,qk [.int .i64 n,.int .i64 m,ql N p]⟩,⟨24,3,1,qk [.int .i64 0,.int .i64 0,.nil]⟩,⟨24,3,1,qk [.int .i64 n,.int .i64 m,.gs 4 0]⟩,gqp N z i]) (fun i=>N-i) (fun i=>i<=N) 0 rfl ?_ (Nat.zero_le _) fun i hi=>?_
 ·refine Weak.gen [some 0,some 1,some 2,some 12,some 10] rfl ⟨boxK rfl rfl,boxK rfl rfl,boxK rfl rfl,⟨_,rfl,rfl,rfl,rfl,rfl,reg_box3 ⟨_,rfl,rfl⟩ ⟨_,rfl,rfl⟩ ⟨_,rfl,rfl,rfl⟩⟩,⟨_,rfl,rfl,rfl,by show Int.toNat N=N;omega,rfl,fun k j hk hj=>?_⟩,trivial⟩ ⟨⟨_,rfl,fun _ _=>⟨rfl,rfl⟩⟩,⟨_,rfl,rfl,rfl⟩,⟨_,rfl,rfl,rfl⟩,⟨_,rfl,rfl,rfl⟩,⟨_,rfl,rfl,rfl⟩,⟨_,rfl,rfl⟩,⟨_,rfl,rfl⟩,trivial⟩
  ·exact qY (congrArg (fun l=>l.getD j .any) (gV z k).symm) (z5 k j)
 have call:=call i;conv=>whnf
 refine qg (fun(h:decide ((i:Int)<N)=true)=>?_) fun(h:decide ((i:Int)<N)=false)=>?_
 ·have h:=of_decide_eq_true h;have call:=call (by omega);conv=>whnf
  refine⟨by omega,by omega,?_⟩;conv=>whnf
  refine⟨by omega,by omega,?_⟩;conv=>whnf
  refine⟨_,call,?_⟩;conv=>whnf
  refine⟨by omega,by omega,?_⟩;conv=>whnf
  refine⟨i64 (by omega) (by omega),?_⟩;conv=>whnf
  refine⟨i+1,by omega,Weak.gen [some 0,some 1,some 2,some 3,some 4] rfl ⟨boxK rfl rfl,boxK rfl rfl,boxK rfl rfl,⟨_,rfl,rfl,rfl,rfl,rfl,reg_box3 ⟨_,rfl,rfl⟩ ⟨_,rfl,rfl⟩ ⟨_,rfl,rfl,rfl⟩⟩,⟨_,rfl,rfl,rfl,rfl,rfl,fun j k hj hk=>qY ?_ (z5 j k)⟩,trivial⟩ ⟨⟨_,rfl,fun _ _=>⟨rfl,rfl⟩⟩,⟨_,rfl,rfl,rfl⟩,⟨_,rfl,rfl,rfl⟩,⟨_,rfl,rfl,rfl⟩,⟨_,rfl,rfl,rfl⟩,⟨_,rfl,rfl⟩,⟨_,rfl,rfl⟩,trivial⟩,by omega⟩
  ·exact WZ (sz:=4) (g:=qpF z i) (g':=qpF z (i+1)) (l:=nq (z i)) rfl hk (y6 z i j)
 ·have h:=of_decide_eq_false h;have e:i=N:=by omega
  have g:Sub (.t2 (.g [.int .i64 n,.int .i64 m,.row 4 N fun k j=>(qpF z i k).getD j .any]) (.c (.int .i64 0))) (.t2 (.g [.int .i64 n,.int .i64 m,nql N z]) (.c (.int .i64 0))):=by
   rintro D w v ⟨x,y,h1,⟨vs,h2,h3⟩,h4⟩;refine⟨x,y,h1,⟨vs,h2,?_⟩,h4⟩;match vs.toList,h3 with
   | [a,b,c],⟨g1,g2,g3,g4⟩=>exact⟨g1,g2,zg rfl (fun k j hk hj=>by rw[e];exact V5 hk j) D w c g3,g4⟩
  conv=>whnf
  refine⟨fun k j _ _=>z5 k j,?_⟩;conv=>whnf
  exact⟨rfl,g⟩
theorem cap_weak {P:Program} {r:Bool} {f F:FuncId} {a b:V} {c:Cell} {g:Nat->Cell} {X:V} (h:FnOK P r f [a,b,.c (.cl F 1 fun _=>c)] X) (hg:g 0=c):FnOK P r f [a,b,.c (.cl F 1 g)] X :=
 arg_ok h fun D w vs h=>by
  match vs,h with
  | [x,y,z],⟨h1,h2,⟨caps,e1,e2,e3⟩,_⟩ =>
   refine⟨h1,h2,⟨caps,e1,e2,fun j hj=>?_⟩,trivial⟩;obtain rfl:=Nat.lt_one_iff.1 hj;obtain⟨u,hu,hr⟩:=e3 0 hj;rw[hg]at hr;exact⟨u,hu,hr⟩
theorem scale1_ok {q p:RawR} {x:RawR} {L:Nat} (hx:x.Fit L) (hq:q.Fit L) (hL:L+L+3<=LIM):FnOK Tryz.prog true 122 [.g (rr q),.g (rr p),.c (.xp 4 fun j=>qk (rr x) 0 (0+j))] (.g (nq (x.val*q.val))):=by
 have h:=qmul_ok hx hq hL;refine qV (E:=E1) qQ Tryz.func122 rfl mixed (by kernel_rfl) (by kernel_rfl) ?_;conv=>whnf
 refine⟨_,h,?_⟩;conv=>whnf
 exact⟨rfl,Sub.refl _⟩
theorem addR_ok {n m:Nat} {q p:Nat->RawR} {z:Nat->Rat} {L:Nat} (hn:n<=64) (hm:m<=64) (hq:∀ a,a<n*m->(q a).Fit L) (hp:∀ a,a<n*m->(p a).Fit L) (hL:L+L+4<=LIM) (hz:∀ a,a<n*m->(q a).val+(p a).val=z a):FnOK Tryz.prog true 80 [.g (qG n m q),.g (qG n m p)] (.t2 (.g [.int .i64 n,.int .i64 m,nql (n*m) z]) (.c (.int .i64 0))):=by
 have h:=each_add (q:=q) (p:=p) (z:=z) rfl hn hm fun a ha=>by
  rw[<- hz a ha];exact qadd_ok (hq a ha) (hp a ha) hL
 clear hq hp hz;refine qV (E:=E1) qQ Tryz.func80 rfl mixed (by kernel_rfl) (by kernel_rfl) ?_;conv=>whnf
 refine⟨_,h,?_⟩;conv=>whnf
 exact⟨rfl,Sub.refl _⟩
theorem scaleR_ok {n m:Nat} {q:Nat->RawR} {x:RawR} {z:Nat->Rat} {L:Nat} (hn:n<=64) (hm:m<=64) (hq:∀ a,a<n*m->(q a).Fit L) (hx:x.Fit L) (hL:L+L+3<=LIM) (hz:∀ a,a<n*m->x.val*(q a).val=z a):FnOK Tryz.prog true 79 [.g (qG n m q),.g (rr x)] (.t2 (.g [.int .i64 n,.int .i64 m,nql (n*m) z]) (.c (.int .i64 0))):=by
 have h0:=each_scale (q:=q) (p:=q) (z:=z) (u:=fun j=>qk (rr x) 0 (0+j)) rfl hn hm fun a ha=>by
  rw[<- hz a ha];exact scale1_ok hx (hq a ha) hL
 have h:=fun(g:Nat->Cell) (hg:g 0 = .xp 4 fun j=>qk (rr x) 0 (0+j))=>cap_weak (g:=g) h0 hg;clear hq hz hx;refine qV (E:=E1) qQ Tryz.func79 rfl mixed (by kernel_rfl) (by kernel_rfl) ?_;conv=>whnf
 refine⟨fun i j hi hj=>box_clos (l:=rr x) (i:=i) (j:=j) rfl,?_⟩;conv=>whnf
 refine⟨_,h _ rfl,?_⟩;conv=>whnf
 exact⟨rfl,Sub.refl _⟩
end Rf
end Go.Proofs.YtkmbnldginonbaaGreat
namespace Go.Proofs.YtkmbnldginonbaaGreat
open Crg Pol
namespace Mx
def pvf (A : Nat → Nat → Rat) (c : Nat) : Nat → Nat → Nat
 | 0,a=>a
 | k+1,a=>if A a c=0 then pvf A c k (a+1)else a
def pv (n:Nat) (A:Nat->Nat->Rat) (m:Nat):Nat:=pvf A (m-1) (n-m) m
theorem pvf_spec (A : Nat → Nat → Rat) (c : Nat) : ∀ k a, a ≤ pvf A c k a ∧ pvf A c k a ≤ a + k ∧ (∀ b, a ≤ b → b < pvf A c k a → A b c = 0) ∧ (pvf A c k a < a + k → A (pvf A c k a) c ≠ 0)
 | 0,a=>⟨Nat.le_refl a,Nat.le_refl a,fun b h1 h2=>absurd (show b<a from h2) (by omega),fun h=>absurd (show a<a+0 from h) (by omega)⟩
 | k+1,a=>by
  show a<=(if A a c=0 then pvf A c k (a+1)else a)/\(if A a c=0 then pvf A c k (a+1)else a)<=a+(k+1)/\(∀ b,a<=b->b<(if A a c=0 then pvf A c k (a+1)else a)->A b c=0)/\((if A a c=0 then pvf A c k (a+1)else a)<a+(k+1)->A (if A a c=0 then pvf A c k (a+1)else a) c≠0);by_cases h:A a c=0
  ·rw[if_pos h];obtain⟨h1,h2,h3,h4⟩:=pvf_spec A c k (a+1);refine⟨by omega,by omega,fun b hb hb2=>?_,fun hlt=>h4 (by omega)⟩;rcases Nat.lt_or_ge a b with h5 | h5
   ·exact h3 b h5 hb2
   ·rw[show b=a by omega];exact h
  ·rw[if_neg h];exact⟨Nat.le_refl a,by omega,fun b h1 h2=>absurd h2 (by omega),fun _=>h⟩
theorem pvf_next {A:Nat->Nat->Rat} {c k a:Nat} (h:A a c=0):pvf A c (k+1) a=pvf A c k (a+1):=if_pos h
theorem pvf_stop {A:Nat->Nat->Rat} {c k a:Nat} (h:A a c≠0):pvf A c (k+1) a=a:=if_neg h
def sw (i j a:Nat):Nat:=if a=i then j else if a=j then i else a
theorem sw_sw (i j a:Nat):sw i j (sw i j a)=a:=by
 unfold sw;by_cases h1:a=i
 ·rw[if_pos h1];by_cases h2:j=i
  ·rw[if_pos h2];omega
  ·rw[if_neg h2,if_pos rfl];omega
 ·rw[if_neg h1];by_cases h2:a=j
  ·rw[if_pos h2,if_pos rfl];omega
  ·rw[if_neg h2,if_neg h1,if_neg h2]
theorem sw_lt {i j a n:Nat} (hi:i<n) (hj:j<n) (ha:a<n):sw i j a<n:=by
 unfold sw;split
 ·exact hj
 ·split
  ·exact hi
  ·exact ha
def ra (u:Rat) (i m:Nat) (A:Nat->Nat->Rat) (a b:Nat):Rat:=if a=i then A a b-u*A m b else A a b
def ca (u:Rat) (i m:Nat) (A:Nat->Nat->Rat) (a b:Nat):Rat:=if b=m then A a b+u*A a i else A a b
theorem ca_ra (u:Rat) (i m:Nat) (A:Nat->Nat->Rat):ca u i m (ra u i m A)=rca u i m A:=by
 funext a b;unfold ca rca;by_cases h:b=m
 ·rw[if_pos h,if_pos h];show ra u i m A a b+u*ra u i m A a i=_;unfold ra;rfl
 ·rw[if_neg h,if_neg h];show ra u i m A a b=_;exact(Crg.add_zero (ra u i m A a b)).symm
def el1 (m i:Nat) (A:Nat->Nat->Rat):Nat->Nat->Rat:=if A i (m-1)=0 then A else ca (A i (m-1) / A m (m-1)) i m (ra (A i (m-1) / A m (m-1)) i m A)
def el (m : Nat) (A : Nat → Nat → Rat) : Nat → Nat → Nat → Rat
 | 0=>A
 | t+1=>el1 m (m+1+t) (el m A t)
def stp (n m:Nat) (A:Nat->Nat->Rat):Nat->Nat->Rat:=if pv n A m=n then A else el m (xch (sw (pv n A m) m) A) (n-1-m)
def hs (n : Nat) (A : Nat → Nat → Rat) : Nat → Nat → Nat → Rat
 | 0=>A
 | m+1=>if m=0 then A else stp n m (hs n A m)
def Zc (n m:Nat) (A:Nat->Nat->Rat):Prop:=∀ c i,c+1<m->c+1<i->i<n->A i c=0
structure ElI (n m t : Nat) (A0 A : Nat → Nat → Rat) : Prop where
 sim:Sim n A0 A
 z:Zc n m A
 p:A m (m-1)≠0
 c:∀ i,m<i->i<=m+t->i<n->A i (m-1)=0
theorem ElI.step {n m t:Nat} {A0 A:Nat->Nat->Rat} (h:ElI n m t A0 A) (hm:1<=m) (ht:m+1+t<n):ElI n m (t+1) A0 (el1 m (m+1+t) A):=by
 unfold el1;by_cases h0:A (m+1+t) (m-1)=0
 ·rw[if_pos h0];refine⟨h.sim,h.z,h.p,fun i h1 h2 h3=>?_⟩;rcases Nat.lt_or_ge i (m+1+t)with h4 | h4
  ·exact h.c i h1 (by omega) h3
  ·rw[show i=m+1+t by omega];exact h0
 ·rw[if_neg h0];generalize hu:A (m+1+t) (m-1) / A m (m-1)=u;have hmu:u*A m (m-1)=A (m+1+t) (m-1):=by
   rw[<- hu];exact Rat.div_mul_cancel h.p
  have hlow:∀ a c,c<m->ca u (m+1+t) m (ra u (m+1+t) m A) a c=if a=m+1+t then A a c-u*A m c else A a c:=fun a c hc=>if_neg (by omega)
  refine⟨h.sim.trans (by rw[ca_ra];exact Sim.add ht (by omega) (by omega) u A),fun c i h1 h2 h3=>?_,?_,fun i h1 h2 h3=>?_⟩
  ·rw[hlow i c (by omega)];split
   ·rw[h.z c i h1 h2 h3,h.z c m h1 (by omega) (by omega),Rat.mul_zero,Rat.sub_self]
   ·exact h.z c i h1 h2 h3
  ·rw[hlow m (m-1) (by omega),if_neg (by omega)];exact h.p
  ·rw[hlow i (m-1) (by omega)];split
   ·next e=>rw[hmu,e,Rat.sub_self]
   ·exact h.c i h1 (by omega) h3
theorem el_all {n m : Nat} {A0 A : Nat → Nat → Rat} (hm : 1 ≤ m) (h : ElI n m 0 A0 A) : ∀ t, m + t < n → ElI n m t A0 (el m A t)
 | 0,_=>h
 | t+1,ht=>(el_all hm h t (by omega)).step hm (by omega)
theorem WG (n:Nat) (A:Nat->Nat->Rat) {m:Nat} (hm:m<=n):m<=pv n A m/\pv n A m<=n/\(∀ b,m<=b->b<pv n A m->A b (m-1)=0)/\(pv n A m<n->A (pv n A m) (m-1)≠0):=by
 obtain⟨h1,h2,h3,h4⟩:=pvf_spec A (m-1) (n-m) m;exact⟨h1,by show pvf A (m-1) (n-m) m<=n;omega,h3,fun h=>h4 (by show pvf A (m-1) (n-m) m<_;have h:pvf A (m-1) (n-m) m<n:=h;omega)⟩
theorem stp_ok {n m:Nat} {A0 A:Nat->Nat->Rat} (h1:1<=m) (hm:m+1<n) (hs:Sim n A0 A) (hz:Zc n m A):Sim n A0 (stp n m A)/\Zc n (m+1) (stp n m A):=by
 obtain⟨p1,p2,p3,p4⟩:=WG n A (show m<=n by omega);unfold stp;by_cases e:pv n A m=n
 ·rw[if_pos e];refine⟨hs,fun c i h2 h3 h4=>?_⟩;rcases Nat.lt_or_ge (c+1) m with h5 | h5
  ·exact hz c i h5 h3 h4
  ·rw[show c=m-1 by omega];exact p3 i (by omega) (by omega)
 ·rw[if_neg e];have hlt:pv n A m<n:=by omega
  have hsw:∀ a,a<m->sw (pv n A m) m a=a:=fun a ha=>by
   unfold sw;rw[if_neg (by omega),if_neg (by omega)]
  have hsm:sw (pv n A m) m m=pv n A m:=by
   unfold sw;split
   ·omega
   ·rw[if_pos rfl]
  have hge:∀ a,m<=a->m<=sw (pv n A m) m a:=fun a ha=>by
   unfold sw;split
   ·exact Nat.le_refl m
   ·split
    ·exact p1
    ·exact ha
  have h0:ElI n m 0 A0 (xch (sw (pv n A m) m) A):=by
   refine⟨hs.trans (Sim.xch (fun i hi=>sw_lt hlt (by omega) hi) (fun i _=>sw_sw _ _ i) A),fun c i h2 h3 h4=>?_,?_,fun i h2 h3 _=>absurd h2 (by omega)⟩
   ·show A (sw (pv n A m) m i) (sw (pv n A m) m c)=0;rw[hsw c (by omega)];rcases Nat.lt_or_ge i m with h5 | h5
    ·rw[hsw i h5];exact hz c i h2 h3 h4
    ·have:=hge i h5;exact hz c _ h2 (by omega) (sw_lt hlt (by omega) h4)
   ·show A (sw (pv n A m) m m) (sw (pv n A m) m (m-1))≠0;rw[hsw (m-1) (by omega),hsm];exact p4 hlt
  have hE:=el_all h1 h0 (n-1-m) (by omega);refine⟨hE.sim,fun c i h2 h3 h4=>?_⟩;rcases Nat.lt_or_ge (c+1) m with h5 | h5
  ·exact hE.z c i h5 h3 h4
  ·rw[show c=m-1 by omega];exact hE.c i (by omega) (by omega) h4
theorem hs_ok (n : Nat) (A : Nat → Nat → Rat) : ∀ m, m + 1 ≤ n → Sim n A (hs n A m) ∧ Zc n m (hs n A m)
 | 0,_=>⟨Sim.of_eq (Eqn.refl A),fun c i h=>absurd h (by omega)⟩
 | m+1,hm=>by
  show Sim n A (if m=0 then A else stp n m (hs n A m))/\Zc n (m+1) (if m=0 then A else stp n m (hs n A m));by_cases e:m=0
  ·rw[if_pos e];exact⟨Sim.of_eq (Eqn.refl A),fun c i h=>absurd h (by omega)⟩
  ·rw[if_neg e];obtain⟨h1,h2⟩:=hs_ok n A m (by omega);exact stp_ok (by omega) (by omega) h1 h2
def hsn (n:Nat) (A:Nat->Nat->Rat):Nat->Nat->Rat:=hs n A (n-1)
theorem hsn_ok (n:Nat) (A:Nat->Nat->Rat):Sim n A (hsn n A)/\Hess n (hsn n A):=by
 by_cases h:n=0
 ·exact⟨by rw[show hsn n A=A by unfold hsn;rw[h];rfl];exact Sim.of_eq (Eqn.refl A),fun i k hi=>absurd hi (by omega)⟩
 ·obtain⟨h1,h2⟩:=hs_ok n A (n-1) (by omega);exact⟨h1,fun i k hi hk=>h2 k i (by omega) hk hi⟩
theorem newt_hsn (n:Nat) (A:Nat->Nat->Rat):Newt n A (hp (wd (hsn n A)) n).f:=Newt.of_hess (hsn_ok n A).1 (hsn_ok n A).2
end Mx
end Go.Proofs.YtkmbnldginonbaaGreat
namespace Go.Proofs.YtkmbnldginonbaaGreat
open Go.RowKit
namespace Mx
theorem q_add {x y:Rat} {L L':Nat} (hx:qlen x<=L) (hy:qlen y<=L') (h1:1<=L+L'):qlen (x+y)<=L+L'+1:=by
 have e:x+y=zx (x.num*y.den+y.num*x.den) ((x.den:Int)*(y.den:Int)):=by
  rw[<- ratio_add (by have:=x.den_nz;omega) (by have:=y.den_nz;omega),zw,zw]
 rw[e];unfold qlen at hx hy;have a1:=zJ x.num y.den;have a2:=zJ y.num x.den;have a3:=zlen_add (x.num*y.den) (y.num*x.den);have a4:=zJ (x.den:Int) (y.den:Int);exact yF (by omega) (by omega) (by omega)
theorem q_neg (x:Rat):qlen (-x)=qlen x:=by unfold qlen;simp[kQ]
theorem q_sub {x y:Rat} {L L':Nat} (hx:qlen x<=L) (hy:qlen y<=L') (h1:1<=L+L'):qlen (x-y)<=L+L'+1:=by
 rw[Rat.sub_eq_add_neg];exact q_add hx (by rw[q_neg];exact hy) h1
theorem kb {x y:Rat} {L L':Nat} (hx:qlen x<=L) (hy:qlen y<=L') (h1:1<=L+L'):qlen (x*y)<=L+L':=by
 have e:x*y=zx (x.num*y.num) ((x.den:Int)*(y.den:Int)):=by
  rw[<- yV,zw,zw]
 rw[e];unfold qlen at hx hy;have a1:=zJ x.num y.num;have a2:=zJ (x.den:Int) (y.den:Int);exact yF (by omega) (by omega) h1
theorem q_div {x y:Rat} {L L':Nat} (hx:qlen x<=L) (hy:qlen y<=L') (h1:1<=L+L'):qlen (x / y)<=L+L':=by
 have e:x / y=zx (x.num*y.den) ((x.den:Int)*y.num):=by
  rw[<- ratio_div,zw,zw]
 rw[e];unfold qlen at hx hy;have a1:=zJ x.num y.den;have a2:=zJ (x.den:Int) y.num;exact yF (by omega) (by omega) h1
def Bq (n L:Nat) (A:Nat->Nat->Rat):Prop:=∀ i j,i<n->j<n->qlen (A i j)<=L
theorem ra_bq {n L L':Nat} {A:Nat->Nat->Rat} {u:Rat} {i m:Nat} (h:Bq n L A) (hu:qlen u<=L') (hm:m<n) (h1:1<=L):Bq n (L+(L'+L)+1) (ra u i m A):=fun a b ha hb=>by
 unfold ra;split
 ·exact q_sub (h a b ha hb) (kb hu (h m b hm hb) (by omega)) (by omega)
 ·exact Nat.le_trans (h a b ha hb) (by omega)
theorem ca_bq {n L L':Nat} {A:Nat->Nat->Rat} {u:Rat} {i m:Nat} (h:Bq n L A) (hu:qlen u<=L') (hi:i<n) (h1:1<=L):Bq n (L+(L'+L)+1) (ca u i m A):=fun a b ha hb=>by
 unfold ca;split
 ·exact q_add (h a b ha hb) (kb hu (h a i ha hi) (by omega)) (by omega)
 ·exact Nat.le_trans (h a b ha hb) (by omega)
theorem el1_bq {n L:Nat} {A:Nat->Nat->Rat} {m i:Nat} (h:Bq n L A) (hm:m<n) (hi:i<n) (h1:1<=L):Bq n (16*L) (el1 m i A):=by
 unfold el1;split
 ·exact fun a b ha hb=>Nat.le_trans (h a b ha hb) (by omega)
 ·have hu:=q_div (h i (m-1) hi (by omega)) (h m (m-1) hm (by omega)) (by omega);have h2:=ra_bq (i:=i) h hu hm h1;have h3:=ca_bq (m:=m) h2 hu hi (by omega);exact fun a b ha hb=>Nat.le_trans (h3 a b ha hb) (by omega)
theorem el_bq {n L : Nat} {A : Nat → Nat → Rat} {m : Nat} (h : Bq n L A) (h1 : 1 ≤ L) : ∀ t, m + t < n → Bq n (16 ^ t * L) (el m A t)
 | 0,_=>fun a b ha hb=>by rw[Nat.pow_zero,Nat.one_mul];exact h a b ha hb
 | t+1,ht=>by
  have hp:1<=16^t:=Nat.pow_pos (by omega);have h2:1<=16^t*L:=Nat.mul_le_mul hp h1;have:=el1_bq (m:=m) (i:=m+1+t) (el_bq (m:=m) h h1 t (by omega)) (by omega) (by omega) h2;rw[Nat.pow_succ,Nat.mul_right_comm,Nat.mul_comm _ 16];exact this
theorem xch_bq {n L:Nat} {A:Nat->Nat->Rat} {s:Nat->Nat} (h:Bq n L A) (hs:∀ a,a<n->s a<n):Bq n L (xch s A):=fun a b ha hb=>h _ _ (hs a ha) (hs b hb)
theorem stp_bq {n L:Nat} {A:Nat->Nat->Rat} {m:Nat} (h:Bq n L A) (h1:1<=L) (hm:m+1<n):Bq n (16^(n-1-m)*L) (stp n m A):=by
 obtain⟨p1,p2,p3,p4⟩:=WG n A (show m<=n by omega);unfold stp;split
 ·exact fun a b ha hb=>Nat.le_trans (h a b ha hb) (by
   have hp:1<=16^(n-1-m):=Nat.pow_pos (by omega);have:=Nat.mul_le_mul hp (Nat.le_refl L);omega)
 ·exact el_bq (xch_bq h fun a ha=>sw_lt (by omega) (by omega) ha) h1 _ (by omega)
def be (n : Nat) : Nat → Nat
 | 0=>0
 | m+1=>if m=0 then 0 else be n m+(n-1-m)
theorem hs_bq {n L : Nat} {A : Nat → Nat → Rat} (h : Bq n L A) (h1 : 1 ≤ L) : ∀ m, m + 1 ≤ n → Bq n (16 ^ be n m * L) (hs n A m)
 | 0,_=>fun a b ha hb=>by rw[show be n 0=0 from rfl,Nat.pow_zero,Nat.one_mul];exact h a b ha hb
 | m+1,hm=>by
  show Bq n (16^(if m=0 then 0 else be n m+(n-1-m))*L) (if m=0 then A else stp n m (hs n A m));by_cases e:m=0
  ·rw[if_pos e,if_pos e,Nat.pow_zero,Nat.one_mul];exact h
  ·rw[if_neg e,if_neg e];have hp:1<=16^be n m:=Nat.pow_pos (by omega);have h2:1<=16^be n m*L:=Nat.mul_le_mul hp h1;have:=stp_bq (m:=m) (hs_bq h h1 m (by omega)) h2 (by omega);rw[Nat.pow_add,Nat.mul_comm (16^be n m),Nat.mul_assoc];exact this
/-! The program's operations. -/
theorem qsub_n {x y z:Rat} {L L':Nat} (hx:qlen x<=L) (hy:qlen y<=L') (h0:1<=L') (hL:L+L'+4<=LIM) (e:x-y=z):FnOK Tryz.prog true 50 [.g (nq x),.g (nq y)] (.g (nq z)):=by
 subst e;have:=qsub_ok (q:=ofR x) (p:=ofR y) (zX hx) (zX hy) h0 hL;rwa [qP,qP]at this
theorem qadd_n {x y z:Rat} {L L':Nat} (hx:qlen x<=L) (hy:qlen y<=L') (hL:L+L'+4<=LIM) (e:x+y=z):FnOK Tryz.prog true 93 [.g (nq x),.g (nq y)] (.g (nq z)):=by
 subst e;have:=qadd_ok (q:=ofR x) (p:=ofR y) (zX hx) (zX hy) hL;rwa [qP,qP]at this
theorem Uf {x y z:Rat} {L L':Nat} (hx:qlen x<=L) (hy:qlen y<=L') (hL:L+L'+3<=LIM) (e:x*y=z):FnOK Tryz.prog true 46 [.g (nq x),.g (nq y)] (.g (nq z)):=by
 subst e;have:=qmul_ok (q:=ofR x) (p:=ofR y) (zX hx) (zX hy) hL;rwa [qP,qP]at this
theorem qquo_n {x y z:Rat} {L L':Nat} (hx:qlen x<=L) (hy:qlen y<=L') (hL:L+L'+4<=LIM) (h0:y≠0) (e:x / y=z):FnOK Tryz.prog true 59 [.g (nq x),.g (nq y)] (.t2 (.g (nq z)) (.c (.int .i64 0))):=by
 subst e;have:=qquo_ok (q:=ofR x) (p:=ofR y) (zX hx) (zX hy) hL (by rw[qP];exact h0);rwa [qP,qP]at this
end Mx
end Go.Proofs.YtkmbnldginonbaaGreat
namespace Go.Proofs.YtkmbnldginonbaaGreat
open Crg Pol
namespace Mx
section
variable {R:Type} [Crg R]
noncomputable def nx (W:Nat->Nat->R) (k i j:Nat):R:=(if 1<=j then(hp W k).f (j-1)else 0)-sm (fun a=>W (i+a) k*(hp W (i+a)).f j) (k+1-i)
theorem nx_first (W:Nat->Nat->R) (k j:Nat):nx W k k j=(if 1<=j then(hp W k).f (j-1)else 0)-W k k*(hp W k).f j:=by
 unfold nx;rw[show k+1-k=1 by omega];show _-(0+W (k+0) k*(hp W (k+0)).f j)=_;rw[zero_add,Nat.add_zero]
theorem nx_next (W:Nat->Nat->R) {k i:Nat} (h:i<k) (j:Nat):nx W k i j=nx W k (i+1) j-W i k*(hp W i).f j:=by
 unfold nx;rw[show k+1-i=k+1-(i+1)+1 by omega,sm_head,Nat.add_zero];have e:sm (fun a=>W (i+(a+1)) k*(hp W (i+(a+1))).f j) (k+1-(i+1))=sm (fun a=>W (i+1+a) k*(hp W (i+1+a)).f j) (k+1-(i+1)):=sm_congr fun a _=>by rw[show i+(a+1)=i+1+a by omega]
 rw[e];generalize sm (fun a=>W (i+1+a) k*(hp W (i+1+a)).f j) (k+1-(i+1))=Z;generalize (if 1<=j then(hp W k).f (j-1)else 0)=Y;exact RE.eq [Y,W i k,(hp W i).f j,Z] (t0-(t1*t2+t3)) (t0-t3-t1*t2) rfl
theorem nx_last (W:Nat->Nat->R) (k j:Nat):nx W k 0 j=(hp W (k+1)).f j:=by
 rw[hp_at];unfold nx;refine congrArg (fun z:R=>(if 1<=j then(hp W k).f (j-1)else 0)-z) ?_;rw[Nat.sub_zero];exact sm_congr fun a _=>by rw[Nat.zero_add]
theorem nx_break (W:Nat->Nat->R) {k i:Nat} (h:∀ a,a<=i->W a k=0) (hi:i<=k) (j:Nat):nx W k (i+1) j=(hp W (k+1)).f j:=by
 rw[<- nx_last];have key:∀ t,t<=i+1->nx W k (i+1) j=nx W k (i+1-t) j:=by
  intro t;induction t with
  | zero=>intro _;rfl
  | succ t ih =>
   intro ht;rw[ih (by omega),show i+1-t=i+1-(t+1)+1 by omega];rcases Nat.lt_or_ge (i+1-(t+1)) k with h1 | h1
   ·rw[nx_next W h1,h _ (by omega),zero_mul,sub_zero]
   ·-- the first step
    obtain rfl:t=0:=by omega
    obtain rfl:i=k:=by omega
    rw[show i+1-(0+1)=i by omega,nx_first,h i (Nat.le_refl i),zero_mul,sub_zero];unfold nx;rw[show i+1-(i+1)=0 by omega];exact sub_zero _
 have:=key (i+1) (Nat.le_refl _);rwa [Nat.sub_self]at this
theorem nx_deg (W:Nat->Nat->R) {k i:Nat}:(∀ j,k+1<j->nx W k i j=0)/\nx W k i (k+1)=1:=by
 refine⟨fun j hj=>?_,?_⟩
 ·unfold nx;rw[if_pos (by omega),(jQ W k).1 _ (by omega),z8 fun a ha=>by rw[(jQ W (i+a)).1 j (by omega),mul_zero],sub_zero]
 ·unfold nx;rw[if_pos (by omega),Nat.add_sub_cancel,(jQ W k).2,z8 fun a ha=>by rw[(jQ W (i+a)).1 _ (by omega),mul_zero],sub_zero]
theorem wd_zero (H:Nat->Nat->R) {i k:Nat} (h:dd H i k=0) (hi:i<=k):∀ a,a<=i->wd H a k=0:=by
 have key:∀ t,t<=i->dd H (i-t) k=0:=by
  intro t;induction t with
  | zero=>intro _;exact h
  | succ t ih =>
   intro ht;rw[dd_left H (show i-(t+1)<k by omega),show i-(t+1)+1=i-t by omega,ih (by omega),zero_mul]
 intro a ha;unfold wd;have:=key (i-a) (by omega);rw[show i-(i-a)=a by omega]at this;rw[this,zero_mul]
end
end Mx
end Go.Proofs.YtkmbnldginonbaaGreat
namespace Go.Proofs.YtkmbnldginonbaaGreat
open Go.RowKit Crg Pol
namespace Mx
theorem Uy:qlen 0<=1:=by decide
theorem q_one:qlen 1<=1:=by decide
theorem dd_bq {n K : Nat} {H : Nat → Nat → Rat} (h : Bq n K H) (i : Nat) : ∀ k, i ≤ k → k < n → qlen (dd H i k) ≤ (k - i) * K + 1
 | 0,hi,_=>by
  rw[Nat.zero_sub,Nat.zero_mul];exact q_one
 | k+1,hi,hk=>by
  rcases Nat.lt_or_ge i (k+1)with h1 | h1
  ·rw[Vk H (show i<=k by omega)];refine Nat.le_trans (kb (dd_bq h i k (by omega) (by omega)) (h (k+1) k hk (by omega)) (by omega)) ?_;rw[show k+1-i=k-i+1 by omega,Nat.add_mul,Nat.one_mul];omega
  ·rw[show i=k+1 by omega,dd_self,Nat.sub_self,Nat.zero_mul];exact q_one
theorem wd_bq {n K:Nat} {H:Nat->Nat->Rat} (h:Bq n K H) (hn:n<=6) (hK:1<=K) {i k:Nat} (hi:i<=k) (hk:k<n):qlen (wd H i k)<=7*K:=by
 have h1:=kb (dd_bq h i k hi hk) (h i k (by omega) hk) (by omega);have h2:(k-i)*K<=5*K:=Nat.mul_le_mul_right K (by omega);exact Nat.le_trans h1 (by omega)
theorem dd_b5 {n K:Nat} {H:Nat->Nat->Rat} (h:Bq n K H) (hn:n<=6) (hK:1<=K) {i k:Nat} (hi:i<=k) (hk:k<n):qlen (dd H i k)<=6*K:=by
 have h1:=dd_bq h i k hi hk;have h2:(k-i)*K<=5*K:=Nat.mul_le_mul_right K (by omega);omega
def PB (K k:Nat):Nat:=8*3^k*K
def ck (k i:Nat):Nat:=20*3^k-4*3^i+8*(k+1-i)
theorem ck_step {k i:Nat} (h:i<k):ck k i=ck k (i+1)+8*3^i+8:=by
 have h1:3^(i+1)<=3^k:=Nat.pow_le_pow_right (by omega) h;unfold ck;rw[Nat.pow_succ]at h1 ⊢
 omega
theorem ck_top (k:Nat):ck k k=16*3^k+8:=by
 unfold ck;omega
theorem ck_le {k i:Nat} (hk:k<=5) (hi:i<=k):ck k i<=24*3^k:=by
 have h1:1<=3^i:=Nat.pow_pos (by omega);unfold ck;rcases(show k=0∨k=1∨k=2∨k=3∨k=4∨k=5 by omega)with rfl | rfl | rfl | rfl | rfl | rfl
 ·omega
 ·omega
 ·omega
 ·omega
 ·omega
 ·omega
theorem nx_bq {n K : Nat} {H : Nat → Nat → Rat} (h : Bq n K H) (hn : n ≤ 6) (hK : 1 ≤ K) {k : Nat} (hk : k < n) (hP : ∀ a, a ≤ k → ∀ j, qlen ((hp (wd H) a).f j) ≤ PB K a) : ∀ t, t ≤ k → ∀ j, qlen (nx (wd H) k (k - t) j) ≤ ck k (k - t) * K
 | 0,_,j=>by
  have h3:1<=3^k:=Nat.pow_pos (by omega);have hPk:8<=PB K k:=Nat.le_trans (by decide) (Nat.mul_le_mul (Nat.mul_le_mul_left 8 h3) hK);rw[Nat.sub_zero,nx_first,ck_top];have h1:qlen (if 1<=j then(hp (wd H) k).f (j-1)else 0)<=PB K k:=by
   split
   ·exact hP k (Nat.le_refl k) _
   ·exact Nat.le_trans Uy (by omega)
  have h2:=q_sub h1 (kb (wd_bq h hn hK (Nat.le_refl k) hk) (hP k (Nat.le_refl k) j) (by omega)) (by omega);refine Nat.le_trans h2 ?_;unfold PB at *;rw[Nat.add_mul,show 16*3^k*K=8*3^k*K+8*3^k*K by rw[<- Nat.add_mul];congr 1;omega];omega
 | t+1,ht,j=>by
  have ih:=nx_bq h hn hK hk hP t (by omega) j;rw[show k-t=k-(t+1)+1 by omega]at ih;rw[nx_next (wd H) (show k-(t+1)<k by omega),ck_step (show k-(t+1)<k by omega)];have hik:k-(t+1)<k:=by omega
  generalize k-(t+1)=i at *;have h2:=q_sub ih (kb (wd_bq h hn hK (show i<=k by omega) hk) (hP i (by omega) j) (by omega)) (by omega);refine Nat.le_trans h2 ?_;unfold PB;rw[Nat.add_mul,Nat.add_mul];omega
theorem hp_bq {n K:Nat} {H:Nat->Nat->Rat} (h:Bq n K H) (hn:n<=6) (hK:1<=K):∀ k,k<=n->∀ j,qlen ((hp (wd H) k).f j)<=PB K k:=by
 have key:∀ m k,k<=m->k<=n->∀ j,qlen ((hp (wd H) k).f j)<=PB K k:=by
  intro m;induction m with
  | zero =>
   intro k hk _ j;obtain rfl:k=0:=by omega
   show qlen ((1:Pol Rat).f j)<=8*1*K;rw[f_one];split
   ·exact Nat.le_trans q_one (by omega)
   ·exact Nat.le_trans Uy (by omega)
  | succ m ih =>
   intro k hk hkn j;rcases Nat.lt_or_ge k (m+1)with h1 | h1
   ·exact ih k (by omega) hkn j
   ·obtain rfl:k=m+1:=by omega
    have h2:=nx_bq h hn hK (show m<n by omega) (fun a ha=>ih a ha (by omega)) m (Nat.le_refl m) j;rw[Nat.sub_self,nx_last]at h2;refine Nat.le_trans h2 ?_;unfold PB;rw[show 8*3^(m+1)=24*3^m by rw[Nat.pow_succ];omega];exact Nat.mul_le_mul_right K (ck_le (by omega) (by omega))
 exact fun k=>key k k (Nat.le_refl k)
end Mx
end Go.Proofs.YtkmbnldginonbaaGreat
set_option maxHeartbeats 1000000
namespace Go.Proofs.YtkmbnldginonbaaGreat
open Go.RowKit
def fN {β:Type} (n:Nat) (k:Nat->β):β:=match n with
 | 0=>k 0
 | m+1=>k (Nat.succ m)
theorem fN_eq {β:Type} (n:Nat) (k:Nat->β):fN n k=k n:=by cases n <;> rfl
def fI {β:Type} (n:Int) (k:Int->β):β:=match n with
 | .ofNat m=>fN m fun m=>k (.ofNat m)
 | .negSucc m=>fN m fun m=>k (.negSucc m)
theorem fI_eq {β:Type} (n:Int) (k:Int->β):fI n k=k n:=by cases n <;> simp only[fI,fN_eq]
def fB {β:Type} (b:Bool) (k:Bool->β):β:=match b with
 | true=>k true
 | false=>k false
theorem fB_eq {β:Type} (b:Bool) (k:Bool->β):fB b k=k b:=by cases b <;> rfl
def fK {β:Type} (x:IntKind) (k:IntKind->β):β:=match x with
 | .i8=>k .i8
 | .i16=>k .i16
 | .i32=>k .i32
 | .i64=>k .i64
 | .u8=>k .u8
 | .u16=>k .u16
 | .u32=>k .u32
 | .u64=>k .u64
theorem fK_eq {β:Type} (x:IntKind) (k:IntKind->β):fK x k=k x:=by cases x <;> rfl
def fSeq {α β:Type} (m:Nat) (g:Nat->(α->β)->β) (acc:List α) (k:List α->β):β:=match m with
 | 0=>k acc
 | m+1=>g m fun c=>fSeq m g (c :: acc) k
theorem VV {α β : Type} {g : Nat → (α → β) → β} {h : Nat → α} (hg : ∀ x k, g x k = k (h x)) : ∀ (m : Nat) (acc : List α) (k : List α → β), fSeq m g acc k = k ((List.range m).map h ++ acc)
 | 0,_,_=>rfl
 | m+1,acc,k=>by
  simp only[fSeq,hg];rw[VV hg m];rw[List.range_succ,List.map_append,List.append_assoc];rfl
def vf (m:Nat) (h:Nat->Cell):List Cell:=(List.range m).map h
def vg : Cell → Cell
 | .row sz n f => .row sz n (xJ sz (vf (n*sz) fun x=>vg (f (x / sz) (x%sz))))
 | .xp m f => .xp m fun j=>(vf m fun x=>vg (f x)).getD j .any
 | .cl F m f => .cl F m fun j=>(vf m fun x=>vg (f x)).getD j .any
 | c=>c
def fC {β : Type} : Cell → (Cell → β) → β
 | .any,k=>k .any
 | .bool b,k=>fB b fun b=>k (.bool b)
 | .int x n,k=>fK x fun x=>fI n fun n=>k (.int x n)
 | .nil,k=>k .nil
 | .row sz n f,k=>fN sz fun sz'=>fN n fun n'=>fSeq (n'*sz') (fun x kk=>fC (f (x / sz') (x%sz')) kk) [] fun l=>k (.row sz' n' (xJ sz' l))
 | .p i u sz a o,k=>fN i fun i=>fN u fun u=>fN sz fun sz=>fN a fun a=>fN o fun o=>k (.p i u sz a o)
 | .gs i u,k=>fN i fun i=>fN u fun u=>k (.gs i u)
 | .sl i u sz o n,k=>fN i fun i=>fN u fun u=>fN sz fun sz=>fN o fun o=>fN n fun n=>k (.sl i u sz o n)
 | .xp m f,k=>fN m fun m'=>fSeq m' (fun x kk=>fC (f x) kk) [] fun l=>k (.xp m' fun j=>l.getD j .any)
 | .fn F,k=>fN F fun F=>k (.fn F)
 | .str s,k=>k (.str s)
 | .cl F m f,k=>fN F fun F=>fN m fun m'=>fSeq m' (fun x kk=>fC (f x) kk) [] fun l=>k (.cl F m' fun j=>l.getD j .any)
theorem fC_eq {β : Type} : ∀ (c : Cell) (k : Cell → β), fC c k = k (vg c)
 | .any,_=>rfl
 | .bool b,k=>by simp only[fC,fB_eq,vg]
 | .int x n,k=>by simp only[fC,fK_eq,fI_eq,vg]
 | .nil,_=>rfl
 | .row sz n f,k=>by
  simp only[fC,fN_eq,vg];rw[VV (h:=fun x=>vg (f (x / sz) (x%sz))) fun x kk=>fC_eq (f (x / sz) (x%sz)) kk];simp only[List.append_nil,vf]
 | .p i u sz a o,k=>by simp only[fC,fN_eq,vg]
 | .gs i u,k=>by simp only[fC,fN_eq,vg]
 | .sl i u sz o n,k=>by simp only[fC,fN_eq,vg]
 | .xp m f,k=>by
  simp only[fC,fN_eq,vg];rw[VV (h:=fun x=>vg (f x)) fun x kk=>fC_eq (f x) kk];simp only[List.append_nil,vf]
 | .fn F,k=>by simp only[fC,fN_eq,vg]
 | .str _,_=>rfl
 | .cl F m f,k=>by
  simp only[fC,fN_eq,vg];rw[VV (h:=fun x=>vg (f x)) fun x kk=>fC_eq (f x) kk];simp only[List.append_nil,vf]
theorem W7 {m:Nat} {h:Nat->Cell} {j:Nat} (hj:j<m):(vf m h).getD j .any=h j:=by
 simp[vf,List.getD,hj]
theorem Vz {D : Nat → Prop} {w : World} : ∀ {c : Cell} {ρ : List Loc} {v : Value}, CRel D w ρ c v → CRel D w ρ (vg c) v
 | .any,_,_,h=>h
 | .bool _,_,_,h=>h
 | .int _ _,_,_,h=>h
 | .nil,_,_,h=>h
 | .fn _,_,_,h=>h
 | .str _,_,_,h=>h
 | .p ..,_,_,h=>h
 | .gs ..,_,_,h=>h
 | .sl ..,_,_,h=>h
 | .row sz n f,_,_,h=>by
  obtain⟨A,c,h1,h2,h3⟩:=h;refine⟨A,c,h1,h2,fun hn=>?_⟩;obtain⟨b,o,hA,hb,hD,hc⟩:=h3 hn;refine⟨b,o,hA,hb,hD,fun i j hi hj=>?_⟩;obtain⟨u,hu,hr⟩:=hc i j hi hj;refine⟨u,hu,?_⟩;have h0:0<sz:=by omega
  have e1:(i*sz+j) / sz=i:=by
   rw[Nat.add_comm,Nat.add_mul_div_right _ _ h0,Nat.div_eq_of_lt hj,Nat.zero_add]
  have e2:(i*sz+j)%sz=j:=by rw[Nat.add_comm,Nat.add_mul_mod_self_right,Nat.mod_eq_of_lt hj]
  show CRel D w [] ((vf (n*sz) _).getD (i*sz+j) .any) u;rw[W7 (vk hi hj (Nat.le_refl _)),e1,e2];exact Vz hr
 | .xp m f,_,_,h=>by
  obtain⟨b,o,h1,hb,hD,hc⟩:=h;refine⟨b,o,h1,hb,hD,fun j hj=>?_⟩;obtain⟨u,hu,hr⟩:=hc j hj;refine⟨u,hu,?_⟩;show CRel D w [] ((vf m _).getD j .any) u;rw[W7 hj];exact Vz hr
 | .cl F m f,ρ,_,h=>by
  obtain⟨caps,h1,h2,h3⟩:=h;refine⟨caps,h1,h2,fun j hj=>?_⟩;obtain⟨u,hu,hr⟩:=h3 j hj;refine⟨u,hu,?_⟩;show CRel D w ρ ((vf m _).getD j .any) u;rw[W7 hj];exact Vz hr
def fL {β : Type} : List Cell → (List Cell → β) → β
 | [],k=>k []
 | c :: l,k=>fC c fun c=>fL l fun l=>k (c :: l)
theorem fL_eq {β : Type} : ∀ (l : List Cell) (k : List Cell → β), fL l k = k (l.map vg)
 | [],_=>rfl
 | c :: l,k=>by simp only[fL,fC_eq,fL_eq l,List.map_cons]
def yp : V → V
 | .c x => .c (vg x)
 | .g l => .g (l.map vg)
 | .t2 a b => .t2 (yp a) (yp b)
 | .t3 a b d => .t3 (yp a) (yp b) (yp d)
 | .t4 a b d e => .t4 (yp a) (yp b) (yp d) (yp e)
 | .un => .un
def fV {β : Type} : V → (V → β) → β
 | .c x,k=>fC x fun x=>k (.c x)
 | .g l,k=>fL l fun l=>k (.g l)
 | .t2 a b,k=>fV a fun a=>fV b fun b=>k (.t2 a b)
 | .t3 a b d,k=>fV a fun a=>fV b fun b=>fV d fun d=>k (.t3 a b d)
 | .t4 a b d e,k=>fV a fun a=>fV b fun b=>fV d fun d=>fV e fun e=>k (.t4 a b d e)
 | .un,k=>k .un
theorem UJ {β : Type} : ∀ (x : V) (k : V → β), fV x k = k (yp x)
 | .c x,k=>by simp only[fV,fC_eq,yp]
 | .g l,k=>by simp only[fV,fL_eq,yp]
 | .t2 a b,k=>by simp only[fV,UJ a,UJ b,yp]
 | .t3 a b d,k=>by simp only[fV,UJ a,UJ b,UJ d,yp]
 | .t4 a b d e,k=>by simp only[fV,UJ a,UJ b,UJ d,UJ e,yp]
 | .un,_=>rfl
theorem nrmL_rel {D : Nat → Prop} {w : World} {ρ : List Loc} : ∀ {l : List Cell} {vs : List Value}, CRels D w ρ l vs → CRels D w ρ (l.map vg) vs
 | [],[],_=>trivial
 | _ :: _,_ :: _,h=>⟨Vz h.1,nrmL_rel h.2⟩
 | [],_ :: _,h=>h.elim
 | _ :: _,[],h=>h.elim
theorem jB {D : Nat → Prop} {w : World} {ρ : List Loc} : ∀ {x : V} {v : Value}, VRel D w ρ x v → VRel D w ρ (yp x) v
 | .c _,_,h=>Vz h
 | .g _,_,h=>by obtain⟨vs,h1,h2⟩:=h;exact⟨vs,h1,nrmL_rel h2⟩
 | .t2 _ _,_,h=>by obtain⟨x,y,h1,h2,h3⟩:=h;exact⟨x,y,h1,jB h2,jB h3⟩
 | .t3 _ _ _,_,h=>by obtain⟨x,y,z,h1,h2,h3,h4⟩:=h;exact⟨x,y,z,h1,jB h2,jB h3,jB h4⟩
 | .t4 _ _ _ _,_,h=>by obtain⟨x,y,z,u,h1,h2,h3,h4,h5⟩:=h;exact⟨x,y,z,u,h1,jB h2,jB h3,jB h4,jB h5⟩
 | .un,_,h=>h
def nrmB (B:Blk):Blk:=match B.st with
 | 0 | 1=>{ B with f:=xJ B.sz (vf (B.n*B.sz) fun x=>vg (B.f (x / B.sz) (x%B.sz))) }
 | _=>phB
def fBlk {β:Type} (B:Blk) (k:Blk->β):β:=match B.st with
 | 0=>fN B.t fun t=>fN B.sz fun sz=>fN B.n fun n=>fN B.u fun u=>fSeq (n*sz) (fun x kk=>fC (B.f (x / sz) (x%sz)) kk) [] fun l=>k ⟨t,sz,n,u,0,xJ sz l⟩
 | 1=>fN B.t fun t=>fN B.sz fun sz=>fN B.n fun n=>fN B.u fun u=>fSeq (n*sz) (fun x kk=>fC (B.f (x / sz) (x%sz)) kk) [] fun l=>k ⟨t,sz,n,u,1,xJ sz l⟩
 | _=>k phB
theorem fBlk_eq {β:Type} (B:Blk) (k:Blk->β):fBlk B k=k (nrmB B):=by
 obtain⟨t,sz,n,u,st,f⟩:=B;match st with
 | 0 =>
  simp only[fBlk,nrmB,fN_eq];rw[VV (h:=fun x=>vg (f (x / sz) (x%sz))) fun x kk=>fC_eq (f (x / sz) (x%sz)) kk];simp only[List.append_nil,vf]
 | 1 =>
  simp only[fBlk,nrmB,fN_eq];rw[VV (h:=fun x=>vg (f (x / sz) (x%sz))) fun x kk=>fC_eq (f (x / sz) (x%sz)) kk];simp only[List.append_nil,vf]
 | _+2=>rfl
def fBs {β : Type} : List Blk → (List Blk → β) → β
 | [],k=>k []
 | B :: l,k=>fBlk B fun B=>fBs l fun l=>k (B :: l)
theorem fBs_eq {β : Type} : ∀ (l : List Blk) (k : List Blk → β), fBs l k = k (l.map nrmB)
 | [],_=>rfl
 | B :: l,k=>by simp only[fBs,fBlk_eq,fBs_eq l,List.map_cons]
def listV (m:Nat) (h:Nat->V):List V:=(List.range m).map h
def getV (l:List V) (t:Nat):V:=l.getD t (.c .any)
def nrm (N:Nat) (σ:St):St:=⟨getV (listV N fun t=>yp (σ.tm t)),σ.bl.map nrmB⟩
def fSt {β:Type} (N:Nat) (σ:St) (k:St->β):β:=fSeq N (fun t kk=>fV (σ.tm t) kk) [] fun l=>fBs σ.bl fun bl=>k ⟨getV l,bl⟩
theorem fSt_eq {β:Type} (N:Nat) (σ:St) (k:St->β):fSt N σ k=k (nrm N σ):=by
 unfold fSt;rw[VV (h:=fun t=>yp (σ.tm t)) fun t kk=>UJ (σ.tm t) kk,fBs_eq];simp only[List.append_nil,nrm,listV]
def Lax (σ σ':St):Prop:=∀ C a w,Rel C σ a w->Rel C σ' a w
theorem Lax.refl (σ:St):Lax σ σ:=fun _ _ _ h=>h
theorem Lax.trans {a b c:St} (h:Lax a b) (k:Lax b c):Lax a c:=fun C x w hr=>k C x w (h C x w hr)
theorem Weak.lax {σ σ':St} (h:∀ m0,Weak m0 σ σ'):Lax σ σ':=fun C a w hr=>h C.ρ0.length C a w (Nat.le_refl _) hr
theorem Sat.less {D0 : Nat → Prop} {w0 : Base} {w : World} {r : Bool} {ρ : List Loc} {bl : List Blk} (h : Sat D0 w0 r ρ bl w) (g : Blk → Blk) (hst : ∀ B, (g B).st ≤ 1 → (g B).st = B.st ∧ (g B).t = B.t ∧ (g B).sz = B.sz ∧ (g B).n = B.n ∧ (g B).u = B.u)
  (hc:∀ B∈bl,(g B).st<=1->∀ i j,i<B.n->j<B.sz->∀ v,CRel (Dof D0 ρ bl) w (if B.st=0 then ρ else []) (B.f i j) v->CRel (Dof D0 ρ bl) w (if B.st=0 then ρ else []) ((g B).f i j) v):Sat D0 w0 r ρ (bl.map g) w/\(∀ b,Dof D0 ρ (bl.map g) b->Dof D0 ρ bl b):=by
 have get:∀(k:Nat) (B':Blk),(bl.map g)[k]? = some B'->∃ B,bl[k]? = some B/\B'=g B:=by
  intro k B' hk;rw[List.getElem?_map]at hk;cases hb:bl[k]? with
  | none=>rw[hb]at hk;cases hk
  | some B=>rw[hb]at hk;cases hk;exact⟨B,rfl,rfl⟩
 have hD:∀ b,Dof D0 ρ (bl.map g) b->Dof D0 ρ bl b:=by
  rintro b (hx | ⟨k,l,B',e1,e2,e3,e4⟩)
  ·exact .inl hx
  ·obtain⟨B,q1,rfl⟩:=get k B' e2;exact .inr ⟨k,l,B,e1,q1,by rw[<- (hst B (by omega)).1];exact e3,e4⟩
 refine⟨⟨h.below,h.d0,by simp[h.len],fun k l B' e1 e2 hs=>?_,fun i j li lj Bi Bj b e1 e2 e3 e4 e5 e6 e7 e8=>?_,fun hr b o d hb=>h.noU hr b o d (hD b hb)⟩,hD⟩
 ·obtain⟨B,q1,rfl⟩:=get k B' e2;obtain⟨s1,s2,s3,s4,s5⟩:=hst B hs;obtain⟨g0,g1⟩:=h.at_ k l B e1 q1 (by omega);rw[s1,s2,s3,s4,s5];refine⟨g0,?_⟩;rcases g1 with g1 | ⟨b,cap,cs,g2,g3,g4,g5,g6,g7,g8,g9⟩
  ·exact .inl g1
  ·refine .inr ⟨b,cap,cs,g2,g3,g4,g5,g6,g7,g8,fun i j hi hj=>?_⟩;obtain⟨u,hu,hur⟩:=g9 i j hi hj;exact⟨u,hu,(hc B (List.mem_of_getElem? q1) hs i j hi hj u hur).step (Ext.refl _ _) (fun b _ hb=>hD b hb) (LocsLe.refl _)⟩
 ·obtain⟨B1,q1,rfl⟩:=get i Bi e3;obtain⟨B2,q2,rfl⟩:=get j Bj e4;exact h.dist i j li lj B1 B2 b e1 e2 q1 q2 (by rw[<- (hst B1 e5).1];exact e5) (by rw[<- (hst B2 e6).1];exact e6) e7 e8
theorem Lax.nrm (N:Nat) (σ:St):Lax σ (nrm N σ):=by
 rintro C a w ⟨ρ,hs,hN,hdf,hf⟩;obtain⟨s1,s2⟩:=hs.less nrmB (fun B hb=>by
  obtain⟨t,sz,n,u,st,f⟩:=B;match st,hb with
  | 0,_=>exact⟨rfl,rfl,rfl,rfl,rfl⟩
  | 1,_=>exact⟨rfl,rfl,rfl,rfl,rfl⟩
  | _+2,hb=>exact absurd hb (by simp[nrmB,phB])) (fun B _ hb i j hi hj v hv=>by
  obtain⟨t,sz,n,u,st,f⟩:=B;have h0:0<sz:=Nat.lt_of_le_of_lt (Nat.zero_le _) hj;have e1:(i*sz+j) / sz=i:=by
   rw[Nat.add_comm,Nat.add_mul_div_right _ _ h0,Nat.div_eq_of_lt hj,Nat.zero_add]
  have e2:(i*sz+j)%sz=j:=by rw[Nat.add_comm,Nat.add_mul_mod_self_right,Nat.mod_eq_of_lt hj]
  have key:CRel (Dof C.D0 ρ σ.bl) w (if st=0 then ρ else []) (xJ sz (vf (n*sz) fun x=>vg (f (x / sz) (x%sz))) i j) v:=by
   show CRel _ _ _ ((vf (n*sz) _).getD (i*sz+j) .any) v;rw[W7 (vk hi hj (Nat.le_refl _)),e1,e2];exact Vz hv
  match st,hb with
  | 0,_=>exact key
  | 1,_=>exact key
  | _+2,hb=>exact absurd hb (by simp[nrmB,phB]))
 refine⟨ρ,s1,hN,hdf,fun t=>?_⟩;show VRel _ _ _ (getV (listV N fun t=>yp (σ.tm t)) t) _;have:getV (listV N fun t=>yp (σ.tm t)) t=yp (σ.tm t)∨getV (listV N fun t=>yp (σ.tm t)) t = .c .any:=by
  rcases Nat.lt_or_ge t N with h | h
  ·left;simp[getV,listV,List.getD,h]
  ·right;simp[getV,listV,List.getD,h]
 rcases this with e | e
 ·rw[e];exact(jB (hf t)).step (Ext.refl _ _) (fun b _ hb=>s2 b hb) (LocsLe.refl _)
 ·rw[e];trivial
end Go.Proofs.YtkmbnldginonbaaGreat
/- Abstract operations asl functions: what each yields, where all that it asks is known. -/
namespace Go.Proofs.YtkmbnldginonbaaGreat
open Go.RowKit
def xX {α:Type} (b:Bool) (p:Option α):Option α:=match b with
 | true=>p
 | false=>none
theorem qb {α:Type} {b:Bool} {p:Option α} {r:α} (h:xX b p=some r):b=true/\p=some r:=by
 cases b with
 | true=>exact⟨rfl,h⟩
 | false=>cases h
theorem zV {b:Bool} {p:Prop} (hb:b=true) (h:p):chk b p:=by subst hb;exact h
def inRX (k:IntKind) (n:Int):Bool:=match k with
 | .i64=>decide (-9223372036854775808<=n)&&decide (n<9223372036854775808)
 | .u64=>decide (0<=n)&&decide (n<18446744073709551616)
 | .u32=>decide (0<=n)&&decide (n<4294967296)
 | k=>decide (k.wrap n=n)
theorem inRX_ok {k:IntKind} {n:Int} (h:inRX k n=true):inR k n:=by
 cases k <;> simp only[inRX,inR,Bool.and_eq_true,decide_eq_true_eq]at h ⊢ <;> exact h
def arX (k:IntKind) (n:Int):Option V:=match k with
 | .u64 | .u32 | .u16 | .u8=>some (.c (.int k (k.wrap n)))
 | k=>xX (inRX k n) (some (.c (.int k n)))
theorem arX_ok {k:IntKind} {n:Int} {v:V} (h:arX k n=some v) {K:V->Prop} (hK:K v):arB k n K:=by
 cases k <;> simp only [arX] at h <;> simp only [arB] <;> first
  |(cases h;exact hK)
  |(obtain⟨h1,h2⟩:=qb h;cases h2;exact⟨inRX_ok h1,hK⟩)
def binX (op:BinOp) (k:IntKind) (a b:Int):Option V:=match op with
 | .add=>arX k (a+b)
 | .sub=>arX k (a-b)
 | .mul=>arX k (a*b)
 | .quo=>xX (!decide (b=0)&&inRX k (a.tdiv b)) (some (.c (.int k (a.tdiv b))))
 | .rem=>xX (!decide (b=0)) (some (.c (.int k (a.tmod b))))
 | .eql=>some (.c (.bool (decide (a=b))))
 | .neq=>some (.c (.bool (!decide (a=b))))
 | .lss=>some (.c (.bool (decide (a<b))))
 | .leq=>some (.c (.bool (decide (a<=b))))
 | .gtr=>some (.c (.bool (decide (b<a))))
 | .geq=>some (.c (.bool (decide (b<=a))))
 | .shl=>xX (decide (0<=b)) (some (.c (.int k (k.wrap (a*2^min b.toNat k.bits)))))
 | .shr=>xX (decide (0<=b)) (some (.c (.int k (a.fdiv (2^min b.toNat k.bits)))))
 | .and=>some (.c (.int k (k.wrap (BitVec.ofInt k.bits a &&& BitVec.ofInt k.bits b).toNat)))
 | .or=>some (.c (.int k (k.wrap (BitVec.ofInt k.bits a ||| BitVec.ofInt k.bits b).toNat)))
 | .xor=>some (.c (.int k (k.wrap (BitVec.ofInt k.bits a ^^^ BitVec.ofInt k.bits b).toNat)))
 | _=>none
theorem binX_ok {op:BinOp} {k:IntKind} {a b:Int} {v:V} (h:binX op k a b=some v) {K:V->Prop} (hK:K v):intBin op k a b K:=by
 cases op <;> simp only[binX]at h <;> simp only[intBin]
 case add=>exact arX_ok h hK
 case sub=>exact arX_ok h hK
 case mul=>exact arX_ok h hK
 case quo =>
  obtain⟨h1,h2⟩:=qb h;cases h2;simp only[Bool.and_eq_true,Bool.not_eq_true',decide_eq_false_iff_not]at h1;exact⟨h1.1,inRX_ok h1.2,hK⟩
 case rem =>
  obtain⟨h1,h2⟩:=qb h;cases h2;simp only[Bool.not_eq_true',decide_eq_false_iff_not]at h1;exact⟨h1,hK⟩
 case shl=>obtain⟨h1,h2⟩:=qb h;cases h2;exact⟨of_decide_eq_true h1,hK⟩
 case shr=>obtain⟨h1,h2⟩:=qb h;cases h2;exact⟨of_decide_eq_true h1,hK⟩
 all_goals (first | (cases h;done) | (cases h;exact hK))
def sliceX (bl:List Blk) (x:V) (lo hi:Option V):Option V :=
 match (match lo with | none=>some 0 | some (V.c (.int .i64 n))=>some n | _=>none),(match hi with | none=>(vv bl x).map Int.ofNat | some (V.c (.int .i64 n))=>some n | _=>none)with
 | some l,some h=>xX (decide (0<=l)&&decide (l<=h)) (match x with
  | .c (.row sz n f)=>xX (decide (h<=n)) (some (.c (.row sz (h-l).toNat fun i j=>f (l.toNat+i) j)))
  | .c (.gs k u)=>match bl[k]? with
   | some B=>xX (B.u == u&&B.st.ble 1) (xX (decide (h<=B.n)) (some (.c (.sl k u B.sz l.toNat (h-l).toNat))))
   | none=>none
  | .c (.sl k u sz o n)=>match bl[k]? with
   | some B=>xX (B.u == u&&B.st.ble 1) (xX (decide (h<=n)) (some (.c (.sl k u sz (o+l.toNat) (h-l).toNat))))
   | none=>none
  | _=>none)
 | _,_=>none
theorem sliceX_ok {bl:List Blk} {x:V} {lo hi:Option V} {v:V} (h:sliceX bl x lo hi=some v) {K:V->Prop} (hK:K v):sliceA bl x lo hi K:=by
 unfold sliceX at h;split at h
 ·rename_i l hh e1 e2;obtain⟨h1,h⟩:=qb h;simp only[Bool.and_eq_true,decide_eq_true_eq]at h1;unfold sliceA;split
  ·rename_i l' hh' e1' e2';have q1:some l=some l':=e1.symm.trans e1';have q2:some hh=some hh':=e2.symm.trans e2';cases q1;cases q2;refine⟨h1.1,h1.2,?_⟩;split at h
   ·obtain⟨h2,h⟩:=qb h;cases h;exact⟨of_decide_eq_true h2,hK⟩
   ·split at h
    ·rename_i B hB;obtain⟨h2,h⟩:=qb h;obtain⟨h3,h⟩:=qb h;cases h;simp only[hB];exact zV h2 ⟨of_decide_eq_true h3,hK⟩
    ·cases h
   ·split at h
    ·rename_i B hB;obtain⟨h2,h⟩:=qb h;obtain⟨h3,h⟩:=qb h;cases h;simp only[hB];exact zV h2 ⟨of_decide_eq_true h3,hK⟩
    ·cases h
   ·cases h
  ·rename_i hno;exact hno l hh e1 e2
 ·cases h
def dopX (E:Env) (q:FuncId->List V->Option V) (o:Op) (σ:St):Option V :=
 match o with
 | .move x | .assign x=>some (σ.ev x)
 | .pick c a b=>match σ.ev c with
  | .c (.bool true)=>some (σ.ev a)
  | .c (.bool false)=>some (σ.ev b)
  | _=>none
 | .load T x=>match E.ty T with
  | some ti=>xX (ti.agg||ti.size == 1) (match σ.ev x with
   | .c (.p k u sz i o)=>match σ.bl[k]? with
    | some B=>xX (B.u == u&&(B.sz == sz&&(B.st.ble 1&&(o+ti.size).ble sz))) (some (gF ti.agg ((List.range ti.size).map fun j=>B.f i (o+j))))
    | none=>none
   | .c (.xp m f)=>xX (ti.size.ble m) (some (gF ti.agg ((List.range ti.size).map f)))
   | _=>none)
  | none=>none
 | .fieldAddr T x fld=>match E.ty T with
  | some ti=>match ti.offs[fld]? with
   | some (some (off,_))=>match σ.ev x with
    | .c (.p k u sz i o)=>match σ.bl[k]? with
     | some B=>xX (B.u == u&&B.st.ble 1) (some (.c (.p k u sz i (o+off))))
     | none=>none
    | .c (.xp m f)=>xX (off.ble m) (some (.c (.xp (m-off) fun j=>f (off+j))))
    | _=>none
   | _=>none
  | none=>none
 | .indexAddr T x ix=>match E.ty T with
  | some ti=>match ti.elem with
   | some e=>match E.ty e,σ.ev ix with
    | some te,.c (.int _ n)=>xX (decide (0<=n)) (match σ.ev x with
     | .c (.row sz m f)=>xX (decide (n<m)) (xX (te.size == sz) (some (.c (.xp sz (f n.toNat)))))
     | .c (.gs k u)=>match σ.bl[k]? with
      | some B=>xX (decide (n<B.n)) (xX (B.u == u&&(B.st.ble 1&&te.size == B.sz)) (some (.c (.p k u B.sz n.toNat 0))))
      | none=>none
     | .c (.sl k u sz o m)=>match σ.bl[k]? with
      | some B=>xX (decide (n<m)) (xX (B.u == u&&(B.st.ble 1&&te.size == sz)) (some (.c (.p k u sz (o+n.toNat) 0))))
      | none=>none
     | _=>none)
    | _,_=>none
   | none=>none
  | none=>none
 | .build T parts=>match E.ty T with
  | some ti=>match k8 σ.bl ti.offs ti.zero (parts.toList.map fun q=>(q.1,σ.ev q.2))with
   | some l=>xX (!ti.offs.isEmpty&&ti.offs.all Option.isSome) (some (.g l))
   | none=>none
  | none=>none
 | .binOp op T x y _=>match σ.ev x,σ.ev y with
  | .c (.int k a),.c (.int k' b)=>xX (decide (k=k')||shiftB op) (binX op k a b)
  | .c (.bool a),.c (.bool b)=>match E.ty T with
   | some ti=>xX (ti.kd == 1) (match op with
    | .eql=>some (.c (.bool (a == b)))
    | .neq=>some (.c (.bool (!(a == b))))
    | _=>none)
   | none=>none
  | .c (.row _ n _),.c .nil=>match E.ty T with
   | some ti=>xX (ti.elem.isSome&&decide (0<n)) (match op with
    | .eql=>some (.c (.bool false))
    | .neq=>some (.c (.bool true))
    | _=>none)
   | none=>none
  | _,_=>none
 | .unOp op _ x=>match op,σ.ev x with
  | .not,.c (.bool b)=>some (.c (.bool !b))
  | .neg,.c (.int k n)=>some (.c (.int k (k.wrap (-n))))
  | .xor,.c (.int k n)=>some (.c (.int k (k.wrap (BitVec.ofInt k.bits (if k.signed then -1 else k.max) ^^^ BitVec.ofInt k.bits n).toNat)))
  | _,_=>none
 | .convert S T x=>match E.ty S,E.ty T,σ.ev x with
  | some ts,some ti,.c (.int _ n)=>match ts.ik,ti.ik with
   | some _,some k=>some (.c (.int k (k.wrap n)))
   | _,_=>none
  | _,_,_=>none
 | .extract x i=>xZ (σ.ev x) i
 | .slice T x lo hi none=>match E.ty T with
  | some ti=>match ti.elem with
   | some e=>match E.ty e with
    | some te=>xX (match szA σ.bl (σ.ev x)with | some z=>z == te.size | none=>false) (sliceX σ.bl (σ.ev x) (lo.map σ.ev) (hi.map σ.ev))
    | none=>none
   | none=>none
  | none=>none
 | .call { callee := .builtin .len,args,argTypes }=>match args.toList,argTypes.toList with
  | [x],[T]=>match E.ty T,vv σ.bl (σ.ev x)with
   | some ti,some n=>xX ti.elem.isSome (some (.c (.int .i64 n)))
   | _,_=>none
  | _,_=>none
 | .call { callee := .builtin .max,args,.. }=>match args.toList.map σ.ev with
  | [.c (.int k a),.c (.int _ b)]=>some (.c (.int k (if b > a then b else a)))
  | _=>none
 | .call { callee := .builtin .min,args,.. }=>match args.toList.map σ.ev with
  | [.c (.int k a),.c (.int _ b)]=>some (.c (.int k (if b<a then b else a)))
  | _=>none
 | .call { callee := .value g,args,.. }=>match kg σ g with
  | some f=>xX ((args.toList.map fun x=>St.close σ.bl (σ.ev x)).all V.clos) (q f (args.toList.map fun x=>St.close σ.bl (σ.ev x)))
  | none=>match capsA σ g with
   | some (f,cs)=>xX (((args.toList.map fun x=>St.close σ.bl (σ.ev x))++cs.map fun c=>V.c (St.closeC σ.bl c)).all V.clos) (q f ((args.toList.map fun x=>St.close σ.bl (σ.ev x))++cs.map fun c=>V.c (St.closeC σ.bl c)))
   | none=>none
 | .index T (.const (.string s)) ix=>match E.ty T,σ.ev ix with
  | some ti,.c (.int _ n)=>xX (ti.kd == 2&&decide (0<=n)) (match s[n.toNat]? with
   | some b=>some (.c (.int .u8 (b.toNat:Int)))
   | none=>none)
  | _,_=>none
 | .makeFunc (.func f) first captured=>xX (first.size == 0) (some (.c (.cl f captured.size (capC σ captured.toList))))
 | .field T x fld=>match E.ty T with
  | some ti=>match ti.offs[fld]?,σ.ev x with
   | some (some (off,_)),.g l=>match l[off]? with
    | some c=>xX (ti.kd == 3) (some (.c c))
    | none=>none
   | _,_=>none
  | none=>none
 | .nilCheck x=>match σ.ev x with
  | .c (.p k u sz i o)=>match σ.bl[k]? with
   | some B=>xX (B.u == u&&B.st.ble 1) (some (.c (.p k u sz i o)))
   | none=>none
  | .c (.xp m f)=>some (.c (.xp m f))
  | _=>none
 | _=>none
theorem dopX_ok {E:Env} {q:FuncId->List V->Option V} (hq:∀ f asl X,q f asl=some X->FnOK E.P E.r f asl X) {o:Oper} {σ:St} {v:V} (h:dopX E q o.op σ=some v) {K:V->Prop} (hK:K v):dop E o σ K:=by
 unfold dop;unfold dopX at h;split at h
 case h_1 x hx=>rw[hx];cases h;exact hK
 case h_2 x hx=>rw[hx];cases h;exact hK
 case h_3 c a b hx =>
  rw[hx];simp only;split at h
  ·rename_i e;cases h;rw[e];exact hK
  ·rename_i e;cases h;rw[e];exact hK
  ·cases h
 case h_4 T x hx =>
  rw[hx];simp only;split at h
  ·rename_i ti ht;rw[ht];obtain⟨h1,h⟩:=qb h;refine zV h1 ?_;split at h
   ·rename_i e;rw[e];simp only;split at h
    ·rename_i B hB;obtain⟨h2,h⟩:=qb h;cases h;simp only[hB];exact zV h2 hK
    ·cases h
   ·rename_i e;rw[e];obtain⟨h2,h⟩:=qb h;cases h;exact zV h2 hK
   ·cases h
  ·cases h
 case h_5 T x fld hx =>
  rw[hx];simp only;split at h
  ·rename_i ti ht;rw[ht];simp only;split at h
   ·rename_i off y ho;rw[ho];simp only;split at h
    ·rename_i e;rw[e];simp only;split at h
     ·rename_i B hB;obtain⟨h2,h⟩:=qb h;cases h;simp only[hB];exact zV h2 hK
     ·cases h
    ·rename_i e;rw[e];obtain⟨h2,h⟩:=qb h;cases h;exact zV h2 hK
    ·cases h
   ·cases h
  ·cases h
 case h_6 T x ix hx =>
  rw[hx];simp only;split at h
  ·rename_i ti ht;rw[ht];simp only;split at h
   ·rename_i e he;rw[he];simp only;split at h
    ·rename_i te kk n hte hn;rw[hte,hn];obtain⟨h1,h⟩:=qb h;refine⟨of_decide_eq_true h1,?_⟩;split at h
     ·rename_i e1;rw[e1];obtain⟨h2,h⟩:=qb h;obtain⟨h3,h⟩:=qb h;cases h;exact⟨of_decide_eq_true h2,zV h3 hK⟩
     ·rename_i e1;rw[e1];simp only;split at h
      ·rename_i B hB;obtain⟨h2,h⟩:=qb h;obtain⟨h3,h⟩:=qb h;cases h;simp only[hB];exact⟨of_decide_eq_true h2,zV h3 hK⟩
      ·cases h
     ·rename_i e1;rw[e1];simp only;split at h
      ·rename_i B hB;obtain⟨h2,h⟩:=qb h;obtain⟨h3,h⟩:=qb h;cases h;simp only[hB];exact⟨of_decide_eq_true h2,zV h3 hK⟩
      ·cases h
     ·cases h
    ·cases h
   ·cases h
  ·cases h
 case h_7 T parts hx =>
  rw[hx];simp only;split at h
  ·rename_i ti ht;rw[ht];simp only;split at h
   ·rename_i l hl;rw[hl];obtain⟨h2,h⟩:=qb h;cases h;exact zV h2 hK
   ·cases h
  ·cases h
 case h_8 op T x y T' hx =>
  rw[hx];simp only;split at h
  ·rename_i e1 e2;rw[e1,e2];obtain⟨h2,h⟩:=qb h;exact zV h2 (binX_ok h hK)
  ·rename_i e1 e2;rw[e1,e2];simp only;split at h
   ·rename_i ti ht;rw[ht];obtain⟨h2,h⟩:=qb h;refine zV h2 ?_;unfold boolBin;split at h
    ·cases h;exact hK
    ·cases h;exact hK
    ·cases h
   ·cases h
  ·rename_i e1 e2;rw[e1,e2];simp only;split at h
   ·rename_i ti ht;rw[ht];obtain⟨h2,h⟩:=qb h;simp only[Bool.and_eq_true,decide_eq_true_eq]at h2;refine zV h2.1 ⟨h2.2,?_⟩;unfold nilBin;split at h
    ·cases h;exact hK
    ·cases h;exact hK
    ·cases h
   ·cases h
  ·cases h
 case h_9 op T x hx =>
  rw[hx];simp only;split at h
  ·rename_i e;rw[e];cases h;exact hK
  ·rename_i e;rw[e];cases h;exact hK
  ·rename_i e;rw[e];cases h;exact hK
  ·cases h
 case h_10 S T x hx =>
  rw[hx];simp only;split at h
  ·rename_i e1 e2 e3;rw[e1,e2,e3];simp only;split at h
   ·rename_i e4 e5;rw[e4,e5];cases h;exact hK
   ·cases h
  ·cases h
 case h_11 x i hx =>
  rw[hx];simp only;rw[h];exact hK
 case h_12 T x lo hi hx =>
  rw[hx];simp only;split at h
  ·rename_i ti ht;rw[ht];simp only;split at h
   ·rename_i e he;rw[he];simp only;split at h
    ·rename_i te hte;rw[hte];obtain⟨h2,h⟩:=qb h;exact zV h2 (sliceX_ok h hK)
    ·cases h
   ·cases h
  ·cases h
 case h_13 args ts hx =>
  rw[hx];simp only;split at h
  ·rename_i x T e1 e2;rw[e1,e2];simp only;split at h
   ·rename_i ti n e3 e4;rw[e3,e4];obtain⟨h2,h⟩:=qb h;cases h;exact zV h2 hK
   ·cases h
  ·cases h
 case h_14 args ts hx =>
  rw[hx];simp only;split at h
  ·rename_i e;rw[e];cases h;exact hK
  ·cases h
 case h_15 args ts hx =>
  rw[hx];simp only;split at h
  ·rename_i e;rw[e];cases h;exact hK
  ·cases h
 case h_16 g args ts hx =>
  rw[hx];simp only;split at h
  ·rename_i f hf;rw[hf];obtain⟨h2,h⟩:=qb h;exact zV h2 ⟨_,hq _ _ _ h,hK⟩
  ·rename_i hf;rw[hf];simp only;split at h
   ·rename_i f cs hcs;rw[hcs];obtain⟨h2,h⟩:=qb h;exact zV h2 ⟨_,hq _ _ _ h,hK⟩
   ·cases h
 case h_17 T s ix hx =>
  rw[hx];simp only;split at h
  ·rename_i e1 e2;rw[e1,e2];obtain⟨h2,h⟩:=qb h;simp only[Bool.and_eq_true,decide_eq_true_eq]at h2;refine zV h2.1 ⟨h2.2,?_⟩;split at h
   ·rename_i b hb;rw[hb];cases h;exact hK
   ·cases h
  ·cases h
 case h_18 f first captured hx =>
  rw[hx];obtain⟨h2,h⟩:=qb h;cases h;exact zV h2 hK
 case h_19 T x fld hx =>
  rw[hx];simp only;split at h
  ·rename_i ti ht;rw[ht];simp only;split at h
   ·rename_i off y l ho hv;rw[ho,hv];simp only;split at h
    ·rename_i c hc;rw[hc];obtain⟨h2,h⟩:=qb h;cases h;exact zV h2 hK
    ·cases h
   ·cases h
  ·cases h
 case h_20 x hx =>
  rw[hx];simp only;split at h
  ·rename_i e;rw[e];simp only;split at h
   ·rename_i B hB;obtain⟨h2,h⟩:=qb h;cases h;simp only[hB];exact zV h2 hK
   ·cases h
  ·rename_i e;rw[e];cases h;exact hK
  ·cases h
 case h_21=>cases h
end Go.Proofs.YtkmbnldginonbaaGreat
/- Abstract operations that make or write blocks, asl functions; regions whose order is open. -/
namespace Go.Proofs.YtkmbnldginonbaaGreat
open Go.RowKit
def allIJ (n m:Nat) (p:Nat->Nat->Bool):Bool:=(List.range n).all fun i=>(List.range m).all fun j=>p i j
theorem Wx {n m:Nat} {p:Nat->Nat->Bool} (h:allIJ n m p=true) {i j:Nat} (hi:i<n) (hj:j<m):p i j=true :=
 List.all_eq_true.1 (List.all_eq_true.1 h i (List.mem_range.2 hi)) j (List.mem_range.2 hj)
def appKX (E:Env) (dst:Option Nat) (σ:St) (k u:Nat) (e:TypeId) (te:TI) (y:V):Option St :=
 match σ.bl[k]?,srcA σ.bl te.size k y with
 | some B,some (m,fy)=>xX (B.u == u&&(B.st == 0&&(B.sz == te.size&&B.t == e))) (xX (decide (B.n+m<=16777216)&&allIJ m te.size fun i j=>St.one σ.bl (fy i j)&&(!E.r||(fy i j).noU)) (some (St.put { σ with bl:=σ.bl.set k ⟨B.t,B.sz,B.n+m,B.u+1,0,zB B.n B.f fy⟩ } dst (.c (.gs k (u+1))))))
 | _,_=>none
theorem appKX_ok {E:Env} {dst:Option Nat} {σ σ':St} {k u:Nat} {e:TypeId} {te:TI} {y:V} (h:appKX E dst σ k u e te y=some σ') {K:St->Prop} (hK:K σ'):appK E dst σ k u e te y K:=by
 unfold appKX at h;unfold appK;split at h
 ·rename_i B m fy e1 e2;rw[e1,e2];obtain⟨h1,h⟩:=qb h;obtain⟨h2,h⟩:=qb h;cases h;simp only[Bool.and_eq_true,decide_eq_true_eq]at h2;refine zV h1 ⟨h2.1,fun i j hi hj=>?_,hK⟩;have:=Wx h2.2 hi hj;simp only[Bool.and_eq_true,Bool.or_eq_true,Bool.not_eq_true']at this;exact⟨this.1,fun hr=>this.2.resolve_left (by rw[hr];simp)⟩
 ·cases h
def appX (E:Env) (dst:Option Nat) (σ:St) (args:List Operand) (ts:List TypeId):Option St:=match args,ts with
 | [x,y],[T,T']=>match E.ty T with
  | some ti=>match ti.elem with
   | some e=>match E.ty e with
    | some te=>xX (((E.ty T').bind (·.elem) == some e)&&(te.zero.length == te.size&&((1:Nat).ble te.size&&((!E.r||te.zero.all Cell.noU)&&te.bytes.ble 8388608)))) (match σ.ev x with
     | .c (.gs k u)=>appKX E dst σ k u e te (σ.ev y)
     | .c .nil=>appKX E dst (nilB σ e te.size) σ.bl.length 0 e te (σ.ev y)
     | _=>none)
    | none=>none
   | none=>none
  | none=>none
 | _,_=>none
theorem appX_ok {E:Env} {dst:Option Nat} {σ σ':St} {args:List Operand} {ts:List TypeId} (h:appX E dst σ args ts=some σ') {K:St->Prop} (hK:K σ'):appA E dst σ args ts K:=by
 unfold appX at h;unfold appA;split at h
 ·split at h
  ·rename_i ti ht;simp only[ht];split at h
   ·rename_i e he;simp only[he];split at h
    ·rename_i te hte;simp only[hte];obtain⟨h1,h⟩:=qb h;refine zV h1 ?_;split at h
     ·rename_i e1;rw[e1];exact appKX_ok h hK
     ·rename_i e1;rw[e1];exact appKX_ok h hK
     ·cases h
    ·cases h
   ·cases h
  ·cases h
 ·cases h
def frz1X (σ:St) (x:V):Option St :=
 match x with
 | .c (.gs k _) | .c (.sl k _ _ _ _) | .c (.p k _ _ _ _)=>match σ.bl[k]? with
  | some B=>match B.st with
   | 0=>xX (allIJ B.n B.sz fun i j=>(B.f i j).clos) (some { σ with bl:=σ.bl.set k { B with st:=1 } })
   | _=>some σ
  | none=>some σ
 | _=>some σ
theorem frz1X_ok {σ σ':St} {x:V} (h:frz1X σ x=some σ') {K:St->Prop} (hK:K σ'):frz1 σ x K:=by
 unfold frz1X at h;unfold frz1;split at h;all_goals first
  |(
   split at h
   ·rename_i B hB;simp only[hB];split at h
    ·rename_i hst;obtain⟨h1,h⟩:=qb h;cases h;rw[hst];exact⟨fun i j hi hj=>Wx h1 hi hj,hK⟩
    ·rename_i hst;cases h;split
     ·rename_i e;exact absurd e hst
     ·exact hK
   ·rename_i hB;cases h;simp only[hB];exact hK)
  |(
   rename_i h1 h2 h3;cases h;split
   ·exact absurd rfl (h1 _ _)
   ·exact absurd rfl (h2 _ _ _ _ _)
   ·exact absurd rfl (h3 _ _ _ _ _)
   ·exact hK)
def frzAX : List V → St → Option St
 | [],σ=>some σ
 | x :: l,σ=>match frz1X σ x with
  | some σ'=>frzAX l σ'
  | none=>none
theorem frzAX_ok : ∀ (l : List V) {σ σ' : St}, frzAX l σ = some σ' → ∀ {K : St → Prop}, K σ' → frzA l σ K
 | [],_,_,h,_,hK=>by cases h;exact hK
 | x :: l,σ,σ',h,K,hK=>by
  simp only[frzAX]at h;split at h
  ·rename_i σ1 h1;exact frz1X_ok h1 (frzAX_ok l h hK)
  ·cases h
def aopX (E:Env) (q:FuncId->List V->Option V) (o:Oper) (σ:St):Option St :=
 match o.op with
 | .box T x=>match zQ σ.bl E.r (σ.ev x)with
  | some l=>some ((σ.push ⟨T,l.length,1,0,0,qk l⟩).put o.dst (.c (.p σ.bl.length 0 l.length 0 0)))
  | none=>none
 | .alloc T=>match E.ty T with
  | some ti=>match zQ σ.bl E.r (.g ti.zero)with
   | some l=>some ((σ.push ⟨T,l.length,1,0,0,qk l⟩).put o.dst (.c (.p σ.bl.length 0 l.length 0 0)))
   | none=>none
  | none=>none
 | .store T x y=>match E.ty T,σ.ev x,zQ σ.bl E.r (σ.ev y)with
  | some ti,.c (.p k u sz i o'),some l=>match σ.bl[k]? with
   | some B=>xX (B.u == u&&(B.sz == sz&&(B.st == 0&&(l.length == ti.size&&(o'+l.length).ble sz)))) (some (St.put { σ with bl:=σ.bl.set k { B with f:=zY B.f i o' l } } o.dst (.c .any)))
   | none=>none
  | _,_,_=>none
 | .makeSlice T ln cp=>match E.ty T with
  | some ti=>match ti.elem with
   | some e=>match E.ty e,σ.ev ln,σ.ev cp with
    | some te,.c (.int _ n),.c (.int _ c)=>xX (decide (0<=n)&&(decide (n<=c)&&(decide (c<=281474976710656)&&(decide ((te.bytes:Int)*c<=281474976710656)&&te.zero.length == te.size)))) (match zQ σ.bl E.r (.g te.zero)with
     | some l=>some ((σ.push ⟨e,te.size,n.toNat,0,0,zeroF l⟩).put o.dst (.c (.gs σ.bl.length 0)))
     | none=>none)
    | _,_,_=>none
   | none=>none
  | none=>none
 | .buildSlice T len parts=>match E.ty T with
  | some ti=>match ti.elem with
   | some e=>match E.ty e with
    | some te=>xX (len.ble 16777216&&(len*te.size).ble 16777216) (match k8 σ.bl ((List.range len).map fun i=>some (i*te.size,te.size)) (List.replicate (len*te.size) .any) (parts.toList.map fun q=>(q.1,σ.ev q.2))with
     | some l=>match zQ σ.bl E.r (.g l)with
      | some l=>some ((σ.push ⟨e,te.size,len,0,0,xJ te.size l⟩).put o.dst (.c (.gs σ.bl.length 0)))
      | none=>none
     | none=>none)
    | none=>none
   | none=>none
  | none=>none
 | .call { callee := .value g,args,.. }=>match wrB σ g with
  | true=>none
  | false=>match frzAX (args.toList.flatMap fun x=>wY (σ.ev x)) σ with
   | some σ'=>match dopX E q o.op σ' with
    | some v=>some (σ'.put o.dst v)
    | none=>none
   | none=>none
 | .call { callee := .builtin .append,args,argTypes }=>appX E o.dst σ args.toList argTypes.toList
 | op=>match dopX E q op σ with
  | some v=>some (σ.put o.dst v)
  | none=>none
theorem aopX_ok {E:Env} {q:FuncId->List V->Option V} (hq:∀ f asl X,q f asl=some X->FnOK E.P E.r f asl X) {o:Oper} {σ σ':St} (h:aopX E q o σ=some σ') {K:St->Prop} (hK:K σ'):aop E o σ K:=by
 unfold aopX at h;unfold aop;split at h
 case h_1 T x hx =>
  rw[hx];simp only;split at h
  ·rename_i l hl;rw[hl];cases h;exact hK
  ·cases h
 case h_2 T hx =>
  rw[hx];simp only;split at h
  ·rename_i ti ht;rw[ht];simp only;split at h
   ·rename_i l hl;rw[hl];cases h;exact hK
   ·cases h
  ·cases h
 case h_3 T x y hx =>
  rw[hx];simp only;split at h
  ·rename_i e1 e2 e3;rw[e1,e2,e3];simp only;split at h
   ·rename_i B hB;obtain⟨h1,h⟩:=qb h;cases h;simp only[hB];exact zV h1 hK
   ·cases h
  ·cases h
 case h_4 T ln cp hx =>
  rw[hx];simp only;split at h
  ·rename_i ti ht;rw[ht];simp only;split at h
   ·rename_i e he;rw[he];simp only;split at h
    ·rename_i e1 e2 e3;rw[e1,e2,e3];obtain⟨h1,h⟩:=qb h;simp only[Bool.and_eq_true,decide_eq_true_eq]at h1;refine⟨h1.1,h1.2.1,h1.2.2.1,h1.2.2.2.1,zV h1.2.2.2.2 ?_⟩;split at h
     ·rename_i l hl;rw[hl];cases h;exact hK
     ·cases h
    ·cases h
   ·cases h
  ·cases h
 case h_5 T len parts hx =>
  rw[hx];simp only;split at h
  ·rename_i ti ht;rw[ht];simp only;split at h
   ·rename_i e he;rw[he];simp only;split at h
    ·rename_i te hte;rw[hte];obtain⟨h1,h⟩:=qb h;refine zV h1 ?_;split at h
     ·rename_i l hl;rw[hl];simp only;split at h
      ·rename_i l' hl';rw[hl'];cases h;exact hK
      ·cases h
     ·cases h
    ·cases h
   ·cases h
  ·cases h
 case h_6 g args ts hx =>
  rw[hx];simp only;split at h
  ·cases h
  ·rename_i e;rw[e];simp only;split at h
   ·rename_i σ1 h1;split at h
    ·rename_i v hv;cases h;exact frzAX_ok _ h1 (dopX_ok hq hv hK)
    ·cases h
   ·cases h
 case h_7 args ts hx =>
  rw[hx];exact appX_ok h hK
 case h_8 h1 h2 h3 h4 h5 h6 h7 =>
  split at h
  ·rename_i v hv;cases h;have hd:=dopX_ok hq (o:=o) hv (K:=fun v=>K (σ.put o.dst v)) hK;split
   case h_1 hx=>exact absurd hx (h1 _ _)
   case h_2 hx=>exact absurd hx (h2 _)
   case h_3 hx=>exact absurd hx (h3 _ _ _)
   case h_4 hx=>exact absurd hx (h4 _ _ _)
   case h_5 hx=>exact absurd hx (h5 _ _ _)
   case h_6 hx=>exact absurd hx (h6 _ _ _)
   case h_7 hx=>exact absurd hx (h7 _ _)
   case h_8=>exact hd
  ·cases h
def appSX (E:Env) (σ:St) (fr:Nat) (args:List Operand) (ts:List TypeId):Option (V × Option (Nat × Blk)):=match args,ts with
 | [x,y],[T,T']=>match E.ty T with
  | some ti=>match ti.elem with
   | some e=>match E.ty e with
    | some te=>xX (T == T'&&(te.zero.length == te.size&&((1:Nat).ble te.size&&((!E.r||te.zero.all Cell.noU)&&te.bytes.ble 8388608)))) (match σ.ev x with
     | .c (.gs k u)=>match σ.bl[k]?,srcA σ.bl te.size k (σ.ev y)with
      | some B,some (m,fy)=>xX (B.u == u&&(B.st == 0&&(B.sz == te.size&&B.t == e))) (xX (decide (B.n+m<=16777216)&&allIJ m te.size fun i j=>St.one [] (fy i j)&&(!E.r||(fy i j).noU)) (some (.c (.gs k (u+1)),some (k,⟨B.t,B.sz,B.n+m,B.u+1,0,zB B.n B.f fy⟩))))
      | _,_=>none
     | .c .nil=>match srcA σ.bl te.size fr (σ.ev y)with
      | some (m,fy)=>xX (decide (m<=16777216)&&allIJ m te.size fun i j=>St.one [] (fy i j)&&(!E.r||(fy i j).noU)) (some (.c (.gs fr 1),some (fr,⟨e,te.size,0+m,1,0,zB 0 (fun _ _ => .any) fy⟩)))
      | none=>none
     | _=>none)
    | none=>none
   | none=>none
  | none=>none
 | _,_=>none
theorem appSX_ok {E:Env} {σ:St} {fr:Nat} {args:List Operand} {ts:List TypeId} {v:V} {ub:Option (Nat × Blk)} (h:appSX E σ fr args ts=some (v,ub)) {K:V->Option (Nat × Blk)->Prop} (hK:K v ub):appS E σ fr args ts K:=by
 have all:∀ {m sz:Nat} {fy:Nat->Nat->Cell},(allIJ m sz fun i j=>St.one [] (fy i j)&&(!E.r||(fy i j).noU))=true->∀ i j,i<m->j<sz->St.one [] (fy i j)=true/\(E.r=true->(fy i j).noU=true):=by
  intro m sz fy h i j hi hj;have:=Wx h hi hj;simp only[Bool.and_eq_true,Bool.or_eq_true,Bool.not_eq_true']at this;exact⟨this.1,fun hr=>this.2.resolve_left (by rw[hr];simp)⟩
 unfold appSX at h;unfold appS;split at h
 ·split at h
  ·rename_i ti ht;simp only[ht];split at h
   ·rename_i e he;simp only[he];split at h
    ·rename_i te hte;simp only[hte];obtain⟨h1,h⟩:=qb h;refine zV h1 ?_;split at h
     ·rename_i e1;rw[e1];simp only;split at h
      ·rename_i B m fy e2 e3;rw[e2,e3];obtain⟨h2,h⟩:=qb h;obtain⟨h3,h⟩:=qb h;cases h;simp only[Bool.and_eq_true,decide_eq_true_eq]at h3;exact zV h2 ⟨h3.1,all h3.2,hK⟩
      ·cases h
     ·rename_i e1;rw[e1];simp only;split at h
      ·rename_i m fy e3;rw[e3];obtain⟨h3,h⟩:=qb h;cases h;simp only[Bool.and_eq_true,decide_eq_true_eq]at h3;exact⟨h3.1,all h3.2,hK⟩
      ·cases h
     ·cases h
    ·cases h
   ·cases h
  ·cases h
 ·cases h
def sopX (E:Env) (q:FuncId->List V->Option V) (cl:Bool) (o:Oper) (σ:St) (fr:Nat):Option (V × Option (Nat × Blk)) :=
 match o.op with
 | .box T x=>match zQ σ.bl E.r (σ.ev x)with
  | some l=>some (.c (.p fr 1 l.length 0 0),some (fr,⟨T,l.length,1,1,0,qk l⟩))
  | none=>none
 | .alloc T=>match E.ty T with
  | some ti=>match zQ σ.bl E.r (.g ti.zero)with
   | some l=>some (.c (.p fr 1 l.length 0 0),some (fr,⟨T,l.length,1,1,0,qk l⟩))
   | none=>none
  | none=>none
 | .store T x y=>match E.ty T,σ.ev x,zQ σ.bl E.r (σ.ev y)with
  | some ti,.c (.p k u sz i o'),some l=>match σ.bl[k]? with
   | some B=>xX (B.u == u&&(B.sz == sz&&(B.st == 0&&(l.length == ti.size&&(o'+l.length).ble sz)))) (some (.c .any,some (k,{ B with f:=zY B.f i o' l })))
   | none=>none
  | _,_,_=>none
 | .makeSlice T ln cp=>match E.ty T with
  | some ti=>match ti.elem with
   | some e=>match E.ty e,σ.ev ln,σ.ev cp with
    | some te,.c (.int _ n),.c (.int _ c)=>xX (decide (0<=n)&&(decide (n<=c)&&(decide (c<=281474976710656)&&(decide ((te.bytes:Int)*c<=281474976710656)&&te.zero.length == te.size)))) (match zQ σ.bl E.r (.g te.zero)with
     | some l=>some (.c (.gs fr 1),some (fr,⟨e,te.size,n.toNat,1,0,zeroF l⟩))
     | none=>none)
    | _,_,_=>none
   | none=>none
  | none=>none
 | .buildSlice T len parts=>match E.ty T with
  | some ti=>match ti.elem with
   | some e=>match E.ty e with
    | some te=>xX (len.ble 16777216&&(len*te.size).ble 16777216) (match k8 σ.bl ((List.range len).map fun i=>some (i*te.size,te.size)) (List.replicate (len*te.size) .any) (parts.toList.map fun q=>(q.1,σ.ev q.2))with
     | some l=>match zQ σ.bl E.r (.g l)with
      | some l=>match cl with
       | true=>xX (l.all Cell.clos) (some (.c (.row te.size len (xJ te.size l)),none))
       | false=>some (.c (.gs fr 1),some (fr,⟨e,te.size,len,1,0,xJ te.size l⟩))
      | none=>none
     | none=>none)
    | none=>none
   | none=>none
  | none=>none
 | .call { callee := .value (.func f),args,argTypes }=>match fzF f args with
  | true=>match dopX E q (.call { callee := .value (.func f),args,argTypes }) σ with
   | some v=>some (v,none)
   | none=>none
  | false=>match wrF f with
   | true=>none
   | false=>match frS f with
    | true=>none
    | false=>match dopX E q (.call { callee := .value (.func f),args,argTypes }) σ with
     | some v=>some (v,none)
     | none=>none
 | .call { callee := .builtin .append,args,argTypes }=>appSX E σ fr args.toList argTypes.toList
 | op=>match dopX E q op σ with
  | some v=>some (v,none)
  | none=>none
theorem sopX_ok {E:Env} {q:FuncId->List V->Option V} (hq:∀ f asl X,q f asl=some X->FnOK E.P E.r f asl X) {cl:Bool} {o:Oper} {σ:St} {fr:Nat} {v:V} {ub:Option (Nat × Blk)} (h:sopX E q cl o σ fr=some (v,ub)) {K:V->Option (Nat × Blk)->Prop} (hK:K v ub):sop E o σ fr K:=by
 unfold sopX at h;unfold sop;split at h
 case h_1 T x hx =>
  rw[hx];simp only;split at h
  ·rename_i l hl;rw[hl];cases h;exact hK
  ·cases h
 case h_2 T hx =>
  rw[hx];simp only;split at h
  ·rename_i ti ht;rw[ht];simp only;split at h
   ·rename_i l hl;rw[hl];cases h;exact hK
   ·cases h
  ·cases h
 case h_3 T x y hx =>
  rw[hx];simp only;split at h
  ·rename_i e1 e2 e3;rw[e1,e2,e3];simp only;split at h
   ·rename_i B hB;obtain⟨h1,h⟩:=qb h;cases h;simp only[hB];exact zV h1 hK
   ·cases h
  ·cases h
 case h_4 T ln cp hx =>
  rw[hx];simp only;split at h
  ·rename_i ti ht;rw[ht];simp only;split at h
   ·rename_i e he;rw[he];simp only;split at h
    ·rename_i e1 e2 e3;rw[e1,e2,e3];obtain⟨h1,h⟩:=qb h;simp only[Bool.and_eq_true,decide_eq_true_eq]at h1;refine⟨h1.1,h1.2.1,h1.2.2.1,h1.2.2.2.1,zV h1.2.2.2.2 ?_⟩;split at h
     ·rename_i l hl;rw[hl];cases h;exact hK
     ·cases h
    ·cases h
   ·cases h
  ·cases h
 case h_5 T len parts hx =>
  rw[hx];simp only;split at h
  ·rename_i ti ht;rw[ht];simp only;split at h
   ·rename_i e he;rw[he];simp only;split at h
    ·rename_i te hte;rw[hte];obtain⟨h1,h⟩:=qb h;refine zV h1 ?_;split at h
     ·rename_i l hl;rw[hl];simp only;split at h
      ·rename_i l' hl';rw[hl'];split at h
       ·obtain⟨h2,h⟩:=qb h;cases h;exact .inr ⟨h2,hK⟩
       ·cases h;exact .inl hK
      ·cases h
     ·cases h
    ·cases h
   ·cases h
  ·cases h
 case h_6 f args ts hx =>
  rw[hx];simp only;split at h
  ·rename_i e;rw[e];simp only;split at h
   ·rename_i v' hv;have hv':dopX E q o.op σ=some v':=by rw[hx];exact hv
    cases h;exact .inr (dopX_ok hq hv' hK)
   ·cases h
  rename_i e0;rw[e0];simp only;split at h
  ·cases h
  ·rename_i e;rw[e];simp only;split at h
   ·cases h
   ·rename_i e2;rw[e2];simp only;split at h
    ·rename_i v' hv;have hv':dopX E q o.op σ=some v':=by rw[hx];exact hv
     cases h;exact dopX_ok hq hv' hK
    ·cases h
 case h_7 args ts hx =>
  rw[hx];exact appSX_ok h hK
 case h_8 h1 h2 h3 h4 h5 h6 h7 =>
  split at h
  ·rename_i v' hv;cases h;have hd:=dopX_ok hq (o:=o) hv (K:=fun v=>K v none) hK;split
   case h_1 hx=>exact absurd hx (h1 _ _)
   case h_2 hx=>exact absurd hx (h2 _)
   case h_3 hx=>exact absurd hx (h3 _ _ _)
   case h_4 hx=>exact absurd hx (h4 _ _ _)
   case h_5 hx=>exact absurd hx (h5 _ _ _)
   case h_6 hx=>exact absurd hx (h6 _ _ _)
   case h_7 hx=>exact absurd hx (h7 _ _)
   case h_8=>exact hd
  ·cases h
def isTmp (d : Nat) : Operand → Bool
 | .tmp t=>Nat.beq t d
 | _=>false
def argOnlyF (ops : Array Oper) : Nat → Option Nat → Bool
 | 0,_=>false
 | _,none=>false
 | k+1,some d=>ops.any fun o=>match o.op with
  | .call { callee := .value _,args,.. }=>args.any (isTmp d)
  | .buildSlice _ _ parts | .build _ parts=>(parts.any fun p=>isTmp d p.2)&&argOnlyF ops k o.dst
  | _=>false
def argOnly (ops:Array Oper) (dst:Option Nat):Bool:=argOnlyF ops 4 dst
def aheadX (E : Env) (q : FuncId → List V → Option V) (ops : Array Oper) (n0 : Nat) : List Oper → Nat → St → Option St
 | [],_,σ=>some σ
 | o :: rest,i,σ=>match o.guard with
  | none=>match sopX E q (argOnly ops o.dst) o σ (n0+i)with
   | some (v,ub)=>xX (UG ops o σ ub&&earlyB ops i o σ) (aheadX E q ops n0 rest (i+1) (St.put { σ with bl:=yq σ.bl ub } o.dst v))
   | none=>none
  | some (g,want)=>match Uv σ ops g with
   | some (_,b)=>match gw want b with
    | true=>match sopX E q (argOnly ops o.dst) o σ (n0+i)with
     | some (v,ub)=>xX (UG ops o σ ub) (aheadX E q ops n0 rest (i+1) (St.put { σ with bl:=yq σ.bl ub } o.dst v))
     | none=>none
    | false=>aheadX E q ops n0 rest (i+1) (σ.put o.dst .un)
   | none=>match V9 σ ops g with
    | true=>aheadX E q ops n0 rest (i+1) (σ.put o.dst .un)
    | false=>none
theorem UF {E : Env} {q : FuncId → List V → Option V} (hq : ∀ f asl X, q f asl = some X → FnOK E.P E.r f asl X) {ops : Array Oper} {n0 : Nat} : ∀ (l : List Oper) (i : Nat) {σ σ' : St}, aheadX E q ops n0 l i σ = some σ' → ∀ {K : St → Prop}, K σ' → VP E ops n0 l i σ K
 | [],_,_,_,h,_,hK=>by cases h;exact hK
 | o :: rest,i,σ,σ',h,K,hK=>by
  simp only[aheadX]at h;rw[ahead_eq];split at h
  ·rename_i hg;rw[hg];simp only;split at h
   ·rename_i v ub hs;obtain⟨h0,h⟩:=qb h;exact sopX_ok hq hs (K:=fun v ub=>chk (UG ops o σ ub&&earlyB ops i o σ) (VP E ops n0 rest (i+1) (St.put { σ with bl:=yq σ.bl ub } o.dst v) K)) (zV h0 (UF hq rest (i+1) h hK))
   ·cases h
  ·rename_i g want hg;rw[hg];simp only;split at h
   ·rename_i d b hgv;rw[hgv];simp only;split at h
    ·rename_i hb;rw[hb];rw[<- xK.1 hb,guard_same hgv];split at h
     ·rename_i v ub hs;obtain⟨h0,h⟩:=qb h;exact sopX_ok hq hs (K:=fun v ub=>chk (UG ops o σ ub) (VP E ops n0 rest (i+1) (St.put { σ with bl:=yq σ.bl ub } o.dst v) K)) (zV h0 (UF hq rest (i+1) h hK))
     ·cases h
    ·rename_i hb;rw[hb];rw[<- jv.1 hb,guard_same hgv];exact UF hq rest (i+1) h hK
   ·rename_i hgv;rw[hgv];simp only;split at h
    ·rename_i hgu;rw[hgu];exact UF hq rest (i+1) h hK
    ·cases h
end Go.Proofs.YtkmbnldginonbaaGreat
