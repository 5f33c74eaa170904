/- The document's Combine told with a live list. -/
import Derived.Test.YtkmbnldginonbaaGreatPo15
import Derived.Test.YtkmbnldginonbaaGreatPo9
import Derived.Test.YtkmbnldginonbaaGreatPo14
import Derived.Test.YtkmbnldginonbaaGreatPo12
import Derived.Test.YtkmbnldginonbaaGreatRows
import Derived.ProofKit
import Derived.OpenShut
import Derived.Carry
import Derived.ChangeSame
import Derived.Test.YtkmbnldginonbaaGreatPo8
namespace Go.Proofs.YtkmbnldginonbaaGreat
open Go.RowKit
namespace Mx
open Rf
set_option maxHeartbeats 8000000 in
theorem rcomb_t {n:Nat} {X Y:Nat->Rat} {c:Rat} (hn:n<=1024) (hX:∀ i,i<n->qlen (X i)<=65535) (hY:∀ i,i<n->qlen (Y i)<=65535) (hc:qlen c<=65535):FnT Tryz.prog false 63 0 [] [.c (nql n X),.g (nq c),.c (nql n Y)] (.c (.gs 0 0)) [gb (gqr n fun i=>ofR (X i+c*Y i))]:=by
 have s0:=Wv (x:=c) (by omega);have s1:∀ i,i<n->FnOK Tryz.prog false 106 [.g (nq (Y i))] (.c (.int .i64 (Y i).num.sign)):=fun i hi=>Wv (by have:=hY i hi;omega);have n1:∀ i,i<n->c*Y i=0->FnOK Tryz.prog false 102 [.g (nq (X i))] (.g (nq (X i+c*Y i))):=fun i hi e=>by
  rw[e,Rat.add_zero];exact U7 (by have:=hX i hi;omega)
 have m1:∀ i,i<n->FnOK Tryz.prog false 91 [.g (nq c),.g (nq (Y i))] (.g (nq (c*Y i))):=fun i hi=>rqmul_n hc (hY i hi);have a1:∀ i,i<n->FnOK Tryz.prog false 53 [.g (nq (X i)),.g (nq (c*Y i))] (.g (nq (X i+c*Y i))):=fun i hi=>rqadd_n (Nat.le_trans (hX i hi) (by decide)) (Wq hc (hY i hi) (by decide));have z0:c.num.sign=0->∀ i,c*Y i=0:=fun e i=>by rw[Rat.num_eq_zero.1 (Int.sign_eq_zero_iff_zero.1 e),Rat.zero_mul]
 have z1:∀ i,(Y i).num.sign=0->c*Y i=0:=fun i e=>by rw[Rat.num_eq_zero.1 (Int.sign_eq_zero_iff_zero.1 e),Rat.mul_zero]
 obtain⟨Z,hZ⟩:∃ Z:Nat->Rat,Z=fun i=>X i+c*Y i:=⟨_,rfl⟩;have n1:∀ i,i<n->c*Y i=0->FnOK Tryz.prog false 102 [.g (nq (X i))] (.g (nq (Z i))):=by rw[hZ];exact n1
 have a1:∀ i,i<n->FnOK Tryz.prog false 53 [.g (nq (X i)),.g (nq (c*Y i))] (.g (nq (Z i))):=by rw[hZ];exact a1
 rw[show(fun i=>ofR (X i+c*Y i))=fun i=>ofR (Z i)by rw[hZ]];clear hZ hX hY hc;refine jX (E:=E0) qw Tryz.func63 rfl (by kernel_rfl) ?_;refine qJ qw mixed (by kernel_rfl) ?_;conv=>whnf
 refine⟨_,s0,?_⟩;conv=>whnf
 refine qK (fun i:Nat=>gst [(0,.c (nql n X)),(2,.c (nql n Y)),(4,.c (.p 0 0 4 0 0)),(7,.c (.gs 1 0)),(8,.c (.bool (decide (c.num.sign=0)))),(9,.c (.int .i64 i))] [⟨38,4,1,qk (nq c)⟩,gqr i fun k=>ofR (Z k)]) (fun i=>n-i) (fun i=>i<=n) 0 rfl (Weak.gen [some 0,none] rfl ⟨boxK rfl rfl,rfl,trivial⟩ ⟨rO rfl,rO rfl,⟨_,rfl,rfl,rfl⟩,rfl,⟨_,rfl,rfl⟩,⟨_,rfl,rfl⟩,trivial⟩) (Nat.zero_le _) fun i hi=>?_;have s1:=s1 i;have n1:=n1 i;have m1:=m1 i;have a1:=a1 i;have z1:=z1 i;conv=>whnf
 refine qg (fun(h:decide ((i:Int)<n)=true)=>?_) fun(h:decide ((i:Int)<n)=false)=>?_
 ·have h:=of_decide_eq_true h;have s1:=s1 (by omega);have n1:=n1 (by omega);have m1:=m1 (by omega);have a1:=a1 (by omega);conv=>whnf
  refine qg (fun(k:gw false (decide (c.num.sign=0))=true)=>?_) fun(k:gw false (decide (c.num.sign=0))=false)=>?_
  ·conv=>whnf
   refine⟨by omega,by omega,?_⟩;conv=>whnf
   refine⟨_,s1,?_⟩;conv=>whnf
   refine qg (fun(k2:decide ((Y i).num.sign=0)=true)=>?_) fun(k2:decide ((Y i).num.sign=0)=false)=>?_
   ·have n1:=n1 (z1 (of_decide_eq_true k2));conv=>whnf
    refine⟨by omega,by omega,?_⟩;conv=>whnf
    refine⟨_,n1,?_⟩;conv=>whnf
    refine⟨by show i+1<=16777216;omega,fun a b ha hb=>one_nq (Z i) _ a b ha hb,?_⟩;conv=>whnf
    refine⟨i64 (by omega) (by omega),?_⟩;conv=>whnf
    refine⟨i+1,by omega,Weak.gen [some 0,some 1] rfl ⟨boxK rfl rfl,⟨_,rfl,rfl,rfl,rfl,rfl,fun a b ha hb=>qY ?_ (qW (c:=fun k=>ofR (Z k)) a b)⟩,trivial⟩ ⟨rO rfl,rO rfl,⟨_,rfl,rfl,rfl⟩,⟨_,rfl,rfl,rfl⟩,⟨_,rfl,rfl⟩,⟨_,rfl,rfl⟩,trivial⟩,by omega⟩;exact appG (sz:=4) (g:=fun k=>nq (Z k)) (g':=fun k=>nq (Z k)) (l:=nq (Z i)) (app_sameq Z i a) (Nat.le_refl (i+1)) ha
   ·conv=>whnf
    refine⟨by omega,by omega,?_⟩;conv=>whnf
    refine⟨by omega,by omega,?_⟩;conv=>whnf
    refine⟨_,m1,?_⟩;conv=>whnf
    refine⟨_,a1,?_⟩;conv=>whnf
    refine .inr ⟨rfl,?_⟩;conv=>whnf
    refine⟨by show i+1<=16777216;omega,fun a b ha hb=>one_nq (Z i) _ a b ha hb,?_⟩;conv=>whnf
    refine⟨i64 (by omega) (by omega),?_⟩;conv=>whnf
    refine⟨i+1,by omega,Weak.gen [some 0,some 1] rfl ⟨boxK rfl rfl,⟨_,rfl,rfl,rfl,rfl,rfl,fun a b ha hb=>qY ?_ (qW (c:=fun k=>ofR (Z k)) a b)⟩,trivial⟩ ⟨rO rfl,rO rfl,⟨_,rfl,rfl,rfl⟩,⟨_,rfl,rfl,rfl⟩,⟨_,rfl,rfl⟩,⟨_,rfl,rfl⟩,trivial⟩,by omega⟩;exact appG (sz:=4) (g:=fun k=>nq (Z k)) (g':=fun k=>nq (Z k)) (l:=nq (Z i)) (app_sameq Z i a) (Nat.le_refl (i+1)) ha
  ·have n1:=n1 (z0 (of_decide_eq_true (gwf' k)) i);conv=>whnf
   refine⟨by omega,by omega,?_⟩;conv=>whnf
   refine⟨_,n1,?_⟩;conv=>whnf
   refine⟨by show i+1<=16777216;omega,fun a b ha hb=>one_nq (Z i) _ a b ha hb,?_⟩;conv=>whnf
   refine⟨i64 (by omega) (by omega),?_⟩;conv=>whnf
   refine⟨i+1,by omega,Weak.gen [some 0,some 1] rfl ⟨boxK rfl rfl,⟨_,rfl,rfl,rfl,rfl,rfl,fun a b ha hb=>qY ?_ (qW (c:=fun k=>ofR (Z k)) a b)⟩,trivial⟩ ⟨rO rfl,rO rfl,⟨_,rfl,rfl,rfl⟩,⟨_,rfl,rfl,rfl⟩,⟨_,rfl,rfl⟩,⟨_,rfl,rfl⟩,trivial⟩,by omega⟩;exact appG (sz:=4) (g:=fun k=>nq (Z k)) (g':=fun k=>nq (Z k)) (l:=nq (Z i)) (app_sameq Z i a) (Nat.le_refl (i+1)) ha
 ·have h:=of_decide_eq_false h;have e:i=n:=by omega
  conv=>whnf
  exact Weak.gen (tl:=[(0,.c (.gs 0 0))]) (xs:=[gqr n fun k=>ofR (Z k)]) [some 1] rfl ⟨⟨_,rfl,rfl,rfl,e,rfl,fun a b ha hb=>qY rfl (qW (c:=fun k=>ofR (Z k)) a b)⟩,trivial⟩ ⟨⟨_,rfl,rfl,rfl⟩,trivial⟩
abbrev cutR (m k:Nat) (q:Nat->Nat->RawR):Cell := .row 1 ((k:Int)-0).toNat fun i _=>ql m (q ((0:Int).toNat+i))
structure Rlw (N m k0 : Nat) (q : Nat → Nat → RawR) (G : Nat → Nat → Rat) (x y z : Nat → Rat) : Prop where
 hN:N<=64
 hk:k0<N
 kof:∀ k,k<=k0->FnOK Tryz.prog false 57 [.c (.int .i64 m),.c (cutR m k q)] (.g (zj k m G))
 kno:∀ k,k<k0->FnOK Tryz.prog false 118 [.g (zj k m G),.c (ql m (q k))] (.t2 (.c .nil) (.c (.bool false)))
 kyes:FnOK Tryz.prog false 118 [.g (zj k0 m G),.c (ql m (q k0))] (.t2 (.c (nql k0 x)) (.c (.bool true)))
 kc:FnT Tryz.prog false 63 0 [] [.c (nql k0 fun _=>0),.g (nq (-1)),.c (nql k0 x)] (.c (.gs 0 0)) [gb (gqr k0 fun i=>ofR (y i))]
 low:∀ i,i<k0->y i=z i
 top:z k0=1
set_option maxRecDepth 100000 in
set_option maxHeartbeats 8000000 in
theorem relation_walk {N m k0:Nat} {q:Nat->Nat->RawR} {G:Nat->Nat->Rat} {x y z:Nat->Rat} (h:Rlw N m k0 q G x y z):FnOK Tryz.prog false 76 [.c (.row 1 N fun i _=>ql m (q i))] (.c (nql (k0+1) z)):=by
 obtain⟨hN,hk,kof,kno,kyes,kc,low,top⟩:=h;have kz:=Xx (n:=k0) (by omega);have o1:FnOK Tryz.prog false 52 [.c (.int .i64 (-1))] (.g (nq (-1))):=vZ (n := -1) (by omega) (by omega);have o2:FnOK Tryz.prog false 52 [.c (.int .i64 1)] (.g (nq 1)):=vZ (n:=1) (by omega) (by omega);refine jy (E:=E0) qw Tryz.func76 rfl (by kernel_rfl) ?_;refine qy qw mixed (by kernel_rfl) ?_;conv=>whnf
 refine⟨gst [(0,.c (.row 1 N fun i _=>ql m (q i)))] [],Weak.gen [] rfl trivial ⟨rO rfl,trivial⟩,?_⟩;refine qF (fun _:Unit=>gst [] []) (fun _=>False) ?_ fun _ h=>h.elim;refine qy qw mixed (by kernel_rfl) ?_;conv=>whnf
 refine⟨(fun k:Nat=>gst [(0,.c (.row 1 N fun i _=>ql m (q i))),(3,.c (.int .i64 k))] []) 0,Weak.gen [] rfl trivial ⟨rO rfl,⟨_,rfl,rfl⟩,trivial⟩,?_⟩;refine qq (qZ (fun k:Nat=>gst [(0,.c (.row 1 N fun i _=>ql m (q i))),(3,.c (.int .i64 k))] []) (fun k=>k0+1-k) (fun k=>k<=k0) 0 (Weak.refl _) (Nat.zero_le k0) fun k hkk=>?_);have hkk:k<=k0:=hkk;have kofk:=kof k hkk;have i0:(0:Int)<=(k:Int):=by omega
 have i1:(k:Int)<(N:Int):=by omega
 refine qf qw mixed (by kernel_rfl) ?_;conv=>whnf
 refine xG (decide_eq_true i1) ?_;conv=>whnf
 refine qF (fun _:Unit=>gst [(0,.c (.row 1 N fun i _=>ql m (q i))),(3,.c (.int .i64 k))] []) (fun _=>k<k0) ?_ fun _ hlt=>?_;rotate_left
 ·refine qJ qw mixed (by kernel_rfl) ?_;conv=>whnf
  refine⟨qz (by omega) (by omega),?_⟩;conv=>whnf
  exact⟨k+1,by omega,Weak.gen [] rfl trivial ⟨rO rfl,⟨_,rfl,rfl⟩,trivial⟩,hlt⟩
 refine qq ?_;rcases Nat.lt_or_ge k k0 with hlt | hge
 ·have kno:=kno k hlt;clear kyes kc;refine qJ qw mixed (by kernel_rfl) ?_;conv=>whnf
  refine⟨i0,i1,?_⟩;conv=>whnf
  refine⟨Int.le_refl _,i0,?_⟩;conv=>whnf
  refine⟨by omega,?_⟩;conv=>whnf
  refine⟨_,kofk,?_⟩;conv=>whnf
  refine⟨i0,i1,?_⟩;conv=>whnf
  refine⟨_,kno,?_⟩;conv=>whnf
  exact⟨(),hlt,Weak.gen [] rfl trivial ⟨rO rfl,⟨_,rfl,rfl⟩,trivial⟩⟩
 ·obtain rfl:k=k0:=by omega
  clear kno;refine qy qw mixed (by kernel_rfl) ?_;conv=>whnf
  refine⟨i0,i1,?_⟩;conv=>whnf
  refine⟨Int.le_refl _,i0,?_⟩;conv=>whnf
  refine⟨by omega,?_⟩;conv=>whnf
  refine⟨_,kofk,?_⟩;conv=>whnf
  refine⟨i0,i1,?_⟩;conv=>whnf
  refine⟨_,kyes,?_⟩;conv=>whnf
  refine⟨gst [(3,.c (.int .i64 k)),(4,.c (nql k x)),(5,.c (.bool true))] [],Weak.gen [] rfl trivial ⟨⟨_,rfl,rfl⟩,rO rfl,⟨_,rfl,rfl⟩,trivial⟩,?_⟩;refine qf qw mixed (by kernel_rfl) ?_;conv=>whnf
  refine swp_cond (b:=true) rfl (fun _=>?_) fun h=>by cases h
  refine qF (fun _:Unit=>gst [(2,.c (.gs 0 0))] [gqr (k+1) fun i=>ofR (z i)]) (fun _=>True) ?_ fun _ _=>?_
  ·refine vK qw (pre:=[_,_,_,_]) (post:=[_,_,_,_]) rfl rfl (by kernel_rfl) ?_;conv=>whnf
   refine⟨_,kz,?_⟩;conv=>whnf
   refine⟨_,o1,?_⟩;conv=>whnf
   refine⟨0,_,Nat.le_refl _,OpGoT.call0 (f:=63) (cs:=[]) rfl rfl (fun B hB=>absurd hB List.not_mem_nil) kc (jp (jp (jp (jp (jp (Vg (tl:=[(3,.c (.int .i64 k)),(4,.c (nql k x)),(5,.c (.bool true))]) ⟨rfl,rfl,rfl,trivial⟩) rfl) rfl) rfl) rfl) rfl),?_⟩;conv=>whnf
   refine⟨_,o2,?_⟩;conv=>whnf
   refine⟨by show k+1<=16777216;omega,fun a b ha hb=>one_nq 1 _ a b ha hb,?_⟩;conv=>whnf
   refine⟨(),trivial,Weak.gen [some 0] rfl ⟨⟨_,rfl,rfl,rfl,rfl,rfl,fun a b ha hb=>qY ?_ (qW (c:=fun i=>ofR (z i)) a b)⟩,trivial⟩ ⟨⟨_,rfl,rfl,rfl⟩,trivial⟩⟩;refine appG (sz:=4) (g:=fun i=>nq (y i)) (g':=fun i=>nq (z i)) (l:=nq 1) ?_ (Nat.le_refl (k+1)) ha;have ha:a<k+1:=ha;split
   ·rename_i e;rw[e,top]
   ·rename_i e;have e:¬ a=k:=e;show nq (y a)=nq (z a);rw[low a (by omega)]
  ·refine qJ qw mixed (by kernel_rfl) ?_;conv=>whnf
   refine⟨fun a b _ _=>qW (c:=fun i=>ofR (z i)) a b,?_⟩;conv=>whnf
   exact⟨rfl,Sub.refl _⟩
end Mx
end Go.Proofs.YtkmbnldginonbaaGreat
namespace Go.Proofs.YtkmbnldginonbaaGreat
open Go.RowKit
open Crg Pol
namespace Mx
open Rf
def Rhs (m k:Nat) (q:Nat->RawR) (v:Nat->Rat):Prop:=∀ j,j<m->wq (q j)/\(q j).val=v j/\(1<=k->q j=ofR (v j))
def rho (m:Nat) (q:Nat->RawR) (ρ:Nat->Nat->Rat) (i j:Nat):RawR:=if i=0 then(if j<m then q j else ofR 0)else ofR (ρ i j)
theorem solve_ok {m k b : Nat} {T : Nat → Nat → Rat} {v : Nat → Rat} {q : Nat → RawR} (h : Sys m k b T v) (hT : ∀ i j, i < k → j < m → qlen (T i j) ≤ 524286) (hq : Rhs m k q v) :
  ((∀ j,j<m->jP m k T v j=0)->(∀ i,i<k->qlen (jP m k T v (m+i))<=65535)/\FnOK Tryz.prog false 118 [.g (zj k m T),.c (ql m q)] (.t2 (.c (nql k fun i=>0 + -1*jP m k T v (m+i))) (.c (.bool true)))) /\
  ((¬ ∀ j,j<m->jP m k T v j=0)->FnOK Tryz.prog false 118 [.g (zj k m T),.c (ql m q)] (.t2 (.c .nil) (.c (.bool false)))):=by
 obtain⟨P,O,ρ,π,hP,hπ,hO,hρ,r0,rs,rg,kR⟩:=h.red;have hk:=h.hk;have hm:=h.hm;have r1:∀ j,j<m->ρ 0 j=v j:=fun j hj=>by
  rw[r0];exact if_pos hj
 have r2:∀ j,m<=j->ρ 0 j=0:=fun j hj=>by
  rw[r0];exact if_neg (by omega)
 have e0:1<=k->∀ i j,rho m q ρ i j=ofR (ρ i j):=fun h1 i j=>by
  unfold rho;by_cases e:i=0
  ·rw[if_pos e,e];by_cases c:j<m
   ·rw[if_pos c,(hq j c).2.2 h1,r1 j c]
   ·rw[if_neg c,r2 j (by omega)]
  ·rw[if_neg e]
 have e1:∀ i j,(rho m q ρ i j).val=ρ i j:=fun i j=>by
  unfold rho;by_cases e:i=0
  ·rw[if_pos e,e];by_cases c:j<m
   ·rw[if_pos c,(hq j c).2.1,r1 j c]
   ·rw[if_neg c,qP,r2 j (by omega)]
  ·rw[if_neg e,qP]
 have e2:∀ j,j<m->wq (rho m q ρ P j):=fun j hj=>by
  unfold rho;by_cases e:P=0
  ·rw[if_pos e,if_pos hj];exact(hq j hj).1
  ·rw[if_neg e];exact wq_n (Nat.le_trans (hρ P j (Nat.le_refl P) (by omega)) (by decide))
 have kcl:∀ i,i<P->FnOK Tryz.prog false 153 [.c (ql (m+k) (rho m q ρ i)),.c (nql (m+k) (O i)),.c (.int .i64 (π i:Nat))] (.c (ql (m+k) (rho m q ρ (i+1)))):=fun i hi=>by
  have h1:1<=k:=by omega
  rw[show rho m q ρ i=fun j=>ofR (ρ i j)from funext (e0 h1 i),show rho m q ρ (i+1)=fun j=>ofR (gcl (π i) (O i) (ρ i) j)from funext fun j=>by rw[e0 h1,rs]];exact cleared_ok (by omega) (hπ i hi) (fun j hj=>hρ i j (by omega) hj) fun j hj=>hO i j hi hj
 have sg:∀ j,j<m->FnOK Tryz.prog false 106 [.g (rr (rho m q ρ P j))] (.c (.int .i64 (rho m q ρ P j).val.num.sign)):=fun j hj=>rqsignR (e2 j hj);have hx:∀ i,i<k->qlen (ρ P (m+i))<=65535:=fun i hi=>hρ P (m+i) (Nat.le_refl P) (by omega);have kc:FnOK Tryz.prog false 63 [.c (nql k fun _=>0),.g (nq (-1)),.c (.row 4 (((m+k:Nat):Int)-(m:Int)).toNat fun i j=>qlF (rho m q ρ P) ((m:Int).toNat+i) j)] (.c (nql k fun i=>0 + -1*ρ P (m+i))):=by
  refine arg_ok (rcomb_ok (n:=k) (X:=fun _=>0) (Y:=fun i=>ρ P (m+i)) (c := -1) (by omega) (fun _ _=>by decide) hx (by decide)) fun D w vs g=>?_;match vs,g with
  | [a,b,c],⟨g1,g2,g3,_⟩ =>
   refine⟨g1,g2,zg (show(((m+k:Nat):Int)-(m:Int)).toNat=k by omega) (fun i j hi _=>?_) D w c g3,trivial⟩;show(rr (rho m q ρ P ((m:Int).toNat+i))).getD j .any=(rr (ofR (ρ P (m+i)))).getD j .any;rw[show(m:Int).toNat+i=m+i by omega,e0 (by omega)]
 have es:∀ j,jP m k T v j=ρ P j:=fun j=>(rg j).symm;have S:∀(J:Nat) (X:V),J<=m->(∀ j,j<J->ρ P j=0)->(J<m->ρ P J≠0/\X = .t2 (.c .nil) (.c (.bool false)))->(J=m->X = .t2 (.c (nql k fun i=>0 + -1*ρ P (m+i))) (.c (.bool true)))->FnOK Tryz.prog false 118 [.g (zj k m T),.c (ql m q)] X:=fun J X hJ hz hn hy =>
  solve_walk (P:=P) (J:=J) (x:=fun i=>0 + -1*ρ P (m+i)) (O:=O) (ρ:=rho m q ρ) (π:=π) ⟨hk,hm,hP,hT,kR,kcl,fun j=>if_pos rfl,sg,kc,hJ,fun j hj=>by rw[e1];exact hz j hj,fun hj=>by rw[e1];exact hn hj,hy⟩
 refine⟨fun hz=>⟨fun i hi=>by rw[es];exact hx i hi,?_⟩,fun hnz=>?_⟩
 ·rw[show(fun i=>0 + -1*jP m k T v (m+i))=fun i=>0 + -1*ρ P (m+i)from funext fun i=>by rw[es]];exact S m _ (Nat.le_refl m) (fun j hj=>by rw[<- es];exact hz j hj) (fun hj=>absurd hj (Nat.lt_irrefl m)) fun _=>rfl
 ·obtain⟨J,hJ,h1,h2⟩:=least_ex (P:=fun j=>j=m∨ρ P j≠0) m ⟨m,Nat.le_refl m,.inl rfl⟩;have hJm:J≠m:=fun e=>hnz fun j hj=>by
   rw[es];exact Classical.byContradiction fun hne=>h2 j (by omega) (.inr hne)
  exact S J _ hJ (fun j hj=>Classical.byContradiction fun hne=>h2 j hj (.inr hne)) (fun _=>⟨h1.resolve_left hJm,rfl⟩) fun e=>absurd e hJm
theorem relation_ok {m b N:Nat} {T:Nat->Nat->Rat} {q:Nat->Nat->RawR} {g:Pol Rat} (hg:Frl m T g) (hl:g.len<=6) (hm:m<=64) (hb:bt b 6<270000) (hN:N<=64) (hgN:g.len<=N) (hT:∀ t,t<N->RowF m b (T t)) (hq:∀ t j,t<N->j<m->wq (q t j)/\(q t j).val=T t j) (hn:∀ t j,1<=t->t<N->j<m->q t j=ofR (T t j)):(∀ i,i<g.len->qlen (g.f i)<=65535)/\FnOK Tryz.prog false 76 [.c (.row 1 N fun i _=>ql m (q i))] (.c (nql g.len g.f)):=by
 have hg0:=hg.mon.1;obtain⟨k0,hk0⟩:∃ k0,g.len=k0+1:=⟨g.len-1,by omega⟩;have hgb:=bt_ge b;have hTl:∀ i j,i<N->j<m->qlen (T i j)<=65535:=fun i j hi hj=>(hT i hi).len (k:=65535) (by omega) hj;have sys:∀ k,k<=k0->Sys m k b T (T k):=fun k hk=>⟨by omega,hm,hb,fun i hi=>hT i (by omega),hT k (by omega)⟩;have rhs:∀ k,k<=k0->Rhs m k (q k) (T k):=fun k hk j hj=>⟨(hq k j (by omega) hj).1,(hq k j (by omega) hj).2,fun h1=>hn k j h1 (by omega) hj⟩;have sol:=fun k (hk:k<=k0)=>solve_ok (sys k hk) (fun i j hi hj=>Nat.le_trans (hTl i j (by omega) hj) (by decide)) (rhs k hk);have kof:∀ k,k<=k0->FnOK Tryz.prog false 57 [.c (.int .i64 m),.c (cutR m k q)] (.g (zj k m T)):=fun k hk=>by
  refine arg_ok (rofR (n:=k) (m:=m) (q:=q) (G:=T) (by omega) hm (fun i j hi hj=>(hq i j (by omega) hj).1) fun i j hi hj=>(hq i j (by omega) hj).2) fun D w vs g=>?_;match vs,g with
  | [x,y],⟨g1,g2,_⟩ =>
   refine⟨g1,zg (show((k:Int)-0).toNat=k by omega) (fun i j hi _=>?_) D w y g2,trivial⟩;show ql m (q ((0:Int).toNat+i))=ql m (q i);rw[show(0:Int).toNat+i=i by omega]
 obtain⟨y1,y2⟩:=hg.yes (k:=k0) hk0.symm;obtain⟨z1,z2⟩:=(sol k0 (Nat.le_refl k0)).1 y1;have lg:∀ i,i<k0->qlen (g.f i)<=65535:=fun i hi=>by rw[<- y2 i hi];exact z1 i hi
 have lt:g.f k0=1:=by have:=hg.top;rwa [hk0,Nat.add_sub_cancel]at this
 have ex:∀ i,i<k0->(0:Rat) + -1*jP m k0 T (T k0) (m+i) = -(g.f i):=fun i hi=>by rw[y2 i hi,Rat.zero_add,Rat.neg_mul,Rat.one_mul]
 have kyes:FnOK Tryz.prog false 118 [.g (zj k0 m T),.c (ql m (q k0))] (.t2 (.c (nql k0 fun i=>0 + -1*jP m k0 T (T k0) (m+i))) (.c (.bool true))):=z2;have kc0:=rcomb_t (n:=k0) (X:=fun _=>0) (Y:=fun i=>0 + -1*jP m k0 T (T k0) (m+i)) (c := -1) (by omega) (fun _ _=>by decide) (fun i hi=>by
  show qlen ((0:Rat) + -1*jP m k0 T (T k0) (m+i))<=65535;rw[ex i hi,q_neg];exact lg i hi) (by decide)
 refine⟨fun i hi=>?_,?_⟩
 ·rcases Nat.lt_or_ge i k0 with c | c
  ·exact lg i c
  ·rw[show i=k0 by omega,lt];decide
 ·have R:=relation_walk (N:=N) (m:=m) (k0:=k0) (q:=q) (G:=T) (x:=fun i=>0 + -1*jP m k0 T (T k0) (m+i)) (z:=g.f) ⟨hN,by omega,kof,fun k hk=>(sol k (by omega)).2 (hg.no (by omega)),kyes,kc0,fun i hi=>by rw[ex i hi,Rat.zero_add,Rat.neg_mul,Rat.one_mul,Rat.neg_neg],lt⟩;rw[hk0];exact R
end Mx
end Go.Proofs.YtkmbnldginonbaaGreat
namespace Go.Proofs.YtkmbnldginonbaaGreat
open Go.RowKit Crg
namespace Mx
open Rf
variable {n:Nat} {A:Nat->Nat->Rat} {D E:Nat}
end Mx
end Go.Proofs.YtkmbnldginonbaaGreat
namespace Go.Proofs.YtkmbnldginonbaaGreat
open Crg Pol
namespace Mx
open Rf
section
variable {n:Nat} {A:Nat->Nat->Rat} {D E:Nat}
def fq (D : Nat) : Nat → Nat
 | 0=>1
 | k+1=>(k+1)*D*fq D k
theorem fq_pos (h : 0 < D) : ∀ k, 0 < fq D k
 | 0=>Nat.one_pos
 | k+1=>Nat.mul_pos (Nat.mul_pos (Nat.succ_pos k) h) (fq_pos h k)
theorem fq_le (h : D ≤ 2 ^ E) : ∀ k, k ≤ 5 → fq D k ≤ 2 ^ ((E + 6) * k)
 | 0,_=>by rw[Nat.mul_zero];exact Nat.le_refl 1
 | k+1,hk=>by
  rw[Nat.mul_succ,Nat.add_comm ((E+6)*k)];refine kY (Nat.le_trans (kY (a:=6) (b:=E) (show k+1<=2^6 by omega) h) ?_) (fq_le h k (by omega));rw[Nat.add_comm];exact Nat.le_refl _
theorem IntB.nat (k:Nat):IntB k (k:Rat):=⟨k,(Rat.intCast_natCast k).symm,by rw[Int.natAbs_natCast];exact Nat.le_refl k⟩
theorem IntB.neg {M:Nat} {x:Rat} (h:IntB M x):IntB M (-x):=by
 have:=(IntB.zero 0).sub h;rwa [Nat.zero_add,Rat.sub_eq_add_neg,Rat.zero_add]at this
theorem IntB.add {M N:Nat} {x y:Rat} (h:IntB M x) (g:IntB N y):IntB (M+N) (x+y):=by
 have:=h.sub g.neg;rwa [Rat.sub_eq_add_neg,Rat.neg_neg]at this
theorem xpow (E k:Nat):(2^(E+6))^(k+1)=64*(2^E*(2^(E+6))^k):=by
 have h:∀ x y:Nat,y*(x*64)=64*(x*y):=fun x y=>by rw[Nat.mul_comm y,Nat.mul_comm x 64,Nat.mul_assoc]
 exact(Nat.pow_succ _ _).trans ((congrArg (fun z=>(2^(E+6))^k*z) (Nat.pow_add 2 E 6)).trans (h (2^E) _))
theorem flm_coef (hS:Sm5 n A D E) {c:Nat->Rat} (hc:Newt n A c) {k B:Nat} (hk:k+1<=n) (h:∀ i j,i<n->j<n->IntB B ((fq D k:Rat)*flm n A c k i j)):(∀ i j,i<n->j<n->IntB (n*(2^E*B)) ((D:Rat)*(fq D k:Rat)*mm n A (flm n A c k) i j))/\IntB (n*(n*(2^E*B))) ((fq D (k+1):Rat)*c (n-(k+1))):=by
 have hX:∀ i j,i<n->j<n->IntB (n*(2^E*B)) ((D:Rat)*(fq D k:Rat)*mm n A (flm n A c k) i j):=fun i j hi hj=>by
  show IntB _ ((D:Rat)*(fq D k:Rat)*Crg.sm (fun a=>A i a*flm n A c k a j) n);rw[mul_sm];refine IntB.sm n fun a ha=>?_;rw[show(D:Rat)*(fq D k:Rat)*(A i a*flm n A c k a j)=((D:Rat)*A i a)*((fq D k:Rat)*flm n A c k a j)from RE.eq [(D:Rat),(fq D k:Rat),A i a,flm n A c k a j] (t0*t1*(t2*t3)) (t0*t2*(t1*t3)) rfl];exact(IntB.of_fits (hS.hA i a hi ha) hS.h0).mul (h a j ha hj)
 refine⟨hX,?_⟩;have e:=flm_tr hc hk;rw[nc_rat]at e;have e2:(fq D (k+1):Rat)*c (n-(k+1)) = -Crg.sm (fun i=>(D:Rat)*(fq D k:Rat)*mm n A (flm n A c k) i i) n:=by
  rw[<- mul_sm];show _ = -((D:Rat)*(fq D k:Rat)*tr n (mm n A (flm n A c k)));rw[e,show(fq D (k+1):Rat)=((k+1:Nat):Rat)*(D:Rat)*(fq D k:Rat)from by
   show(((k+1)*D*fq D k:Nat):Rat)=_;rw[Rat.natCast_mul,Rat.natCast_mul]]
  exact RE.eq [((k+1:Nat):Rat),(D:Rat),(fq D k:Rat),c (n-(k+1))] (t0*t1*t2*t3) (-(t1*t2 * -(t0*t3))) rfl
 rw[e2];exact(IntB.sm n fun i hi=>hX i i hi hi).neg
theorem flm_int (hS : Sm5 n A D E) {c : Nat → Rat} (hc : Newt n A c) : ∀ k, k ≤ n → ∀ i j, i < n → j < n → IntB ((2 ^ (E + 6)) ^ k) ((fq D k : Rat) * flm n A c k i j)
 | 0,_,i,j,_,_=>by
  rw[flm_zero hc.top,Nat.pow_zero];show IntB 1 (((1:Nat):Rat)*if i=j then 1 else 0);split
  ·exact⟨1,by rw[Rat.mul_one];rfl,Nat.le_refl 1⟩
  ·exact⟨0,by rw[Rat.mul_zero];rfl,Nat.zero_le 1⟩
 | k+1,hk,i,j,hi,hj=>by
  have hn:=hS.hn;obtain⟨h1,h2⟩:=flm_coef hS hc hk (flm_int hS hc k (by omega));generalize hB:(2^(E+6))^k=B at h1 h2;have a1:=(IntB.nat (k+1)).mul (h1 i j hi hj);have a2:IntB (n*(n*(2^E*B))) ((fq D (k+1):Rat)*c (n-(k+1))*mI i j):=by
   unfold mI;split
   ·rw[Rat.mul_one];exact h2
   ·rw[Rat.mul_zero];exact IntB.zero _
  have a3:=a1.add a2;rw[flm_succ hk,show(fq D (k+1):Rat)*(mm n A (flm n A c k) i j+c (n-(k+1))*mI i j)=((k+1:Nat):Rat)*((D:Rat)*(fq D k:Rat)*mm n A (flm n A c k) i j)+(fq D (k+1):Rat)*c (n-(k+1))*mI i j from by
   have e:(fq D (k+1):Rat)=((k+1:Nat):Rat)*(D:Rat)*(fq D k:Rat):=by
    show(((k+1)*D*fq D k:Nat):Rat)=_;rw[Rat.natCast_mul,Rat.natCast_mul]
   rw[e];exact RE.eq [((k+1:Nat):Rat),(D:Rat),(fq D k:Rat),mm n A (flm n A c k) i j,c (n-(k+1)),mI i j] (t0*t1*t2*(t3+t4*t5)) (t0*(t1*t2*t3)+t0*t1*t2*t4*t5) rfl]
  refine a3.mono ?_;rw[xpow,hB];have b1:(k+1)*(n*(2^E*B))<=5*(5*(2^E*B)):=Nat.mul_le_mul (by omega) (Nat.mul_le_mul_right _ hn);have b2:n*(n*(2^E*B))<=5*(5*(2^E*B)):=Nat.mul_le_mul hn (Nat.mul_le_mul_right _ hn);generalize 2^E*B=Y at b1 b2 ⊢
  omega
def xF:Nat:=4030
def xV:Nat:=4175
def xU:Nat:=160
theorem fq_size (hS:Sm5 n A D E) {k:Nat} {x:Rat} (hk:k<=5) (h:IntB ((2^(E+6))^k) ((fq D k:Rat)*x)):qlen x<=126:=by
 obtain⟨z,hz,lz⟩:=h;have hE:=hS.hE;have hq:((fq D k:Nat):Int)≠0:=by have:=fq_pos hS.h0 k;omega
 have f:=kK (x:=x) (p:=z) hq (by rw[Rat.intCast_natCast,Rat.mul_comm];exact hz);have e1:(E+6)*k<=xF:=Nat.mul_le_mul (show E+6<=806 by omega) hk;exact fits_le (e:=xF) f (by omega) (by rw[Int.natAbs_natCast];exact Nat.le_trans (fq_le hS.hD k hk) (kV e1)) (Nat.le_trans lz (by rw[<- Nat.pow_mul];exact kV e1)) (by decide)
theorem flm_size (hS:Sm5 n A D E) {c:Nat->Rat} (hc:Newt n A c) {k i j:Nat} (hk:k<=n) (hi:i<n) (hj:j<n):qlen (flm n A c k i j)<=126:=fq_size hS (by have:=hS.hn;omega) (flm_int hS hc k hk i j hi hj)
theorem newt_size (hS:Sm5 n A D E) {c:Nat->Rat} (hc:Newt n A c) (i:Nat):qlen (c i)<=126:=by
 have hn:=hS.hn;rcases Nat.lt_trichotomy i n with h | h | h
 ·obtain⟨k,hk⟩:∃ k,n=k+1+i:=⟨n-(i+1),by omega⟩;have h2:=(flm_coef hS hc (k:=k) (by omega) (flm_int hS hc k (by omega))).2;rw[show n-(k+1)=i by omega]at h2;refine fq_size hS (k:=k+1) (by omega) (h2.mono ?_);rw[xpow];generalize (2^(E+6))^k=B;have b2:n*(n*(2^E*B))<=5*(5*(2^E*B)):=Nat.mul_le_mul hn (Nat.mul_le_mul_right _ hn);generalize 2^E*B=Y at b2 ⊢
  omega
 ·rw[h,hc.top];decide
 ·rw[hc.out i h];decide
theorem rowF_pow (hS:Sm5 n A D E) {t:Nat} (ht:t<=5):RowF (n*n) xM fun j=>mpw n A t (j / n) (j%n):=by
 have hE:=hS.hE;have e0:=Nat.mul_le_mul (show 3+E<=803 by omega) ht;have e1:(3+E)*t<=xM:=e0;have e2:E*t<=xM:=Nat.le_trans (Nat.mul_le_mul_right t (by omega)) e1;refine⟨D^t,Nat.pow_pos hS.h0,Nat.le_trans (VF hS.hD) (kV e2),fun j hj=>?_⟩;have hn:0<n:=Nat.pos_of_ne_zero fun e=>by rw[e,Nat.zero_mul]at hj;omega
 obtain⟨k,hk,lk⟩:=mpw_int hS.h0 hS.hA t (j / n) (j%n) (Nat.div_lt_of_lt_mul hj) (Nat.mod_lt _ hn);have hq:((D^t:Nat):Int)≠0:=by have:=Nat.pow_pos (n:=t) hS.h0;omega
 have f:=kK (x:=mpw n A t (j / n) (j%n)) (p:=k) hq (by rw[Rat.intCast_natCast,Rat.mul_comm];exact hk);rw[Int.natAbs_natCast]at f;exact f.mono (Nat.le_trans lk (Nat.le_trans (hS.pow t) (kV e1)))
theorem av_int (hS : Sm5 n A D E) {v : Nat → Rat} {F G : Nat} (hv : ∀ i, i < n → IntB G ((F : Rat) * v i)) : ∀ t j, j < n → IntB (G * (n * 2 ^ E) ^ t) (((F * D ^ t : Nat) : Rat) * av n A v t j)
 | 0,j,hj=>by
  rw[Nat.pow_zero,Nat.pow_zero,Nat.mul_one,Nat.mul_one];exact hv j hj
 | t+1,j,hj=>by
  show IntB _ (((F*D^(t+1):Nat):Rat)*Crg.sm (fun i=>av n A v t i*A i j) n);rw[mul_sm];have h:=IntB.sm (N:=G*(n*2^E)^t*2^E) (f:=fun i=>((F*D^(t+1):Nat):Rat)*(av n A v t i*A i j)) n fun i hi=>by
   show IntB _ (((F*D^(t+1):Nat):Rat)*(av n A v t i*A i j));rw[show((F*D^(t+1):Nat):Rat)*(av n A v t i*A i j)=(((F*D^t:Nat):Rat)*av n A v t i)*((D:Rat)*A i j)from by
    rw[Nat.pow_succ,<- Nat.mul_assoc,Rat.natCast_mul (F*D^t) D];exact RE.eq [((F*D^t:Nat):Rat),(D:Rat),av n A v t i,A i j] (t0*t1*(t2*t3)) (t0*t2*(t1*t3)) rfl]
   exact(av_int hS hv t i hi).mul (IntB.of_fits (hS.hA i j hi hj) hS.h0)
  refine h.mono ?_;rw[Nat.pow_succ];generalize (n*2^E)^t=Y;generalize 2^E=Z;exact Nat.le_of_eq (by ac_rfl)
theorem rowF_av (hS:Sm5 n A D E) {v:Nat->Rat} {F:Nat} (h0:0<F) (hF:F<=2^xU) (hv:∀ i,i<n->Fits F (2^xU) (v i)) {t:Nat} (ht:t<=5):RowF n xV (av n A v t):=by
 have hE:=hS.hE;have e0:=Nat.mul_le_mul (show 3+E<=803 by omega) ht;have e1:xU+(3+E)*t<=xV:=Nat.add_le_add_left e0 xU;have e2:E*t<=(3+E)*t:=Nat.mul_le_mul_right t (by omega);refine⟨F*D^t,Nat.mul_pos h0 (Nat.pow_pos hS.h0),Nat.le_trans (kY hF (VF hS.hD)) (kV (Nat.le_trans (Nat.add_le_add_left e2 xU) e1)),fun j hj=>?_⟩;obtain⟨k,hk,lk⟩:=av_int hS (fun i hi=>IntB.of_fits (hv i hi) h0) t j hj;have hq:((F*D^t:Nat):Int)≠0:=by have:=Nat.mul_pos h0 (Nat.pow_pos (n:=t) hS.h0);omega
 have f:=kK (x:=av n A v t j) (p:=k) hq (by rw[Rat.intCast_natCast,Rat.mul_comm];exact hk);rw[Int.natAbs_natCast]at f;exact f.mono (Nat.le_trans lk (Nat.le_trans (kY (Nat.le_refl _) (hS.pow t)) (kV e1)))
end
end Mx
end Go.Proofs.YtkmbnldginonbaaGreat
set_option maxHeartbeats 8000000
namespace Go.Proofs.YtkmbnldginonbaaGreat
open Go.RowKit
namespace Mx
open Rf
theorem app_raw {q:Nat} {bl:List Blk} {ks:List (Option Nat)} {m N i j:Nat} {f:Nat->Nat->RawR} {v:Nat->RawR} (hi:i<N+1) (hj:j<1) (h:v=f N):zF q bl ks (ql m (f i)) fun y=>zB N (fun a _=>ql m (f a)) (xJ 1 [ql m v]) i j=y:=by
 obtain rfl:j=0:=by omega
 refine .inl ⟨_,_,?_,rfl,fun _ _ _ _=>rfl⟩;unfold zB;by_cases c:i<N
 ·rw[if_pos c]
 ·rw[if_neg c,show i-N=0 by omega,show i=N by omega,h];rfl
theorem one_raw {bl:List Blk} {r:Prop} {m x y:Nat} {v:Nat->RawR} (hx:x<1) (hy:y<1):St.one bl (xJ 1 [ql m v] x y)=true/\(r->(xJ 1 [ql m v] x y).noU=true):=by
 match x,y,hx,hy with
 | 0,0,_,_=>exact⟨rfl,fun _=>rfl⟩
abbrev qlB (m N:Nat) (f:Nat->Nat->RawR):Gx:=⟨22,1,N,fun a _=>ql m (f a)⟩
theorem rmin_walk {n N:Nat} {p:Nat->RawR} {M:Nat->Nat->Nat->Rat} {z:Nat->Rat} (hn:n<=6) (kI:FnOK Tryz.prog false 74 [.c (.int .i64 n)] (.g (zj n n (M 0)))) (kM:∀ i,i<=n->FnOK Tryz.prog false 14 [.g (zj n n (M i)),.g (qG n n p)] (.g (zj n n (M (i+1))))) (kR:FnOK Tryz.prog false 76 [.c (.row 1 (n+1) fun i _=>ql (n*n) fun j=>ofR (M i (j / n) (j%n)))] (.c (nql N z))):FnOK Tryz.prog false 25 [.g (qG n n p)] (.c (nql N z)):=by
 obtain⟨f,hf⟩:∃ f:Nat->Nat->RawR,f=fun i j=>ofR (M i (j / n) (j%n)):=⟨_,rfl⟩;have eM:∀ i,zj n n (M i)=[.int .i64 n,.int .i64 n,ql (n*n) (f i)]:=fun i=>by rw[hf]
 simp only[eM]at kI kM;rw[show(fun i (_:Nat)=>ql (n*n) fun j=>ofR (M i (j / n) (j%n)))=fun i _=>ql (n*n) (f i)by rw[hf]]at kR;clear eM hf;refine jy (E:=E0) qw Tryz.func25 rfl (by kernel_rfl) ?_;refine qf qw mixed (by kernel_rfl) ?_;conv=>whnf
 refine qf qw mixed (by kernel_rfl) ?_;conv=>whnf
 refine qy qw mixed (by kernel_rfl) ?_;conv=>whnf
 refine⟨_,kI,?_⟩;conv=>whnf
 refine⟨gst [(1,.c (.p 0 0 3 0 0)),(3,.c (.gs 2 0)),(4,.c (.p 1 0 3 0 0))] [⟨24,3,1,qk (qG n n p)⟩,⟨24,3,1,qk [.int .i64 n,.int .i64 n,ql (n*n) (f 0)]⟩,qlB (n*n) 0 f],Weak.gen [some 0,some 1,none] rfl ⟨boxK rfl rfl,boxU rfl rfl rfl,rfl,trivial⟩ ⟨⟨_,rfl,rfl,rfl⟩,rfl,⟨_,rfl,rfl,rfl⟩,trivial⟩,?_⟩;refine qF (fun _:Unit=>gst [(3,.c (.gs 0 0))] [qlB (n*n) (n+1) f]) (fun _=>True) ?_ fun _ _=>?_;rotate_left
 ·refine qJ qw mixed (by kernel_rfl) ?_;conv=>whnf
  refine⟨fun _ _ _ _=>rfl,?_⟩;conv=>whnf
  refine⟨_,kR,?_⟩;conv=>whnf
  exact⟨rfl,Sub.refl _⟩
 refine qy qw mixed (by kernel_rfl) ?_;conv=>whnf
 refine⟨(fun i:Nat=>gst [(1,.c (.p 0 0 3 0 0)),(3,.c (.gs 2 0)),(4,.c (.p 1 0 3 0 0)),(5,.c (.int .i64 i))] [⟨24,3,1,qk (qG n n p)⟩,⟨24,3,1,qk [.int .i64 n,.int .i64 n,ql (n*n) (f i)]⟩,qlB (n*n) i f]) 0,Weak.gen [some 0,some 1,some 2] rfl ⟨boxK rfl rfl,boxK rfl rfl,⟨_,rfl,rfl,rfl,rfl,rfl,fun a b ha hb=>absurd ha (Nat.not_lt_zero a)⟩,trivial⟩ ⟨⟨_,rfl,rfl,rfl⟩,⟨_,rfl,rfl,rfl⟩,⟨_,rfl,rfl,rfl⟩,⟨_,rfl,rfl⟩,trivial⟩,?_⟩;refine qq (qZ (fun i:Nat=>gst [(1,.c (.p 0 0 3 0 0)),(3,.c (.gs 2 0)),(4,.c (.p 1 0 3 0 0)),(5,.c (.int .i64 i))] [⟨24,3,1,qk (qG n n p)⟩,⟨24,3,1,qk [.int .i64 n,.int .i64 n,ql (n*n) (f i)]⟩,qlB (n*n) i f]) (fun i=>n+1-i) (fun i=>i<=n+1) 0 (Weak.refl _) (Nat.zero_le _) fun i hi=>?_);have hi:i<=n+1:=hi;rcases Nat.lt_or_ge n i with h | h
 ·obtain rfl:i=n+1:=by omega
  refine qJ qw mixed (by kernel_rfl) ?_;conv=>whnf
  refine jj (show decide (((n+1:Nat):Int)<=(n:Int))=false from decide_eq_false (by omega)) ?_;conv=>whnf
  exact⟨(),trivial,Weak.gen [some 2] rfl ⟨⟨_,rfl,rfl,rfl,rfl,rfl,fun a b ha hb=>qY rfl rfl⟩,trivial⟩ ⟨⟨_,rfl,rfl,rfl⟩,trivial⟩⟩
 ·have kM:=kM i h;refine qJ qw mixed (by kernel_rfl) ?_;conv=>whnf
  refine xG (show decide ((i:Int)<=(n:Int))=true from decide_eq_true (by omega)) ?_;conv=>whnf
  refine⟨by show i+1<=16777216;omega,fun a b ha hb=>one_raw ha hb,?_⟩;conv=>whnf
  refine⟨_,kM,?_⟩;conv=>whnf
  refine⟨qz (by omega) (by omega),?_⟩;conv=>whnf
  exact⟨i+1,by omega,Weak.gen [some 0,some 1,some 2] rfl ⟨boxK rfl rfl,boxU rfl rfl rfl,⟨_,rfl,rfl,rfl,rfl,rfl,fun a b ha hb=>app_raw ha hb rfl⟩,trivial⟩ ⟨⟨_,rfl,rfl,rfl⟩,⟨_,rfl,rfl,rfl⟩,⟨_,rfl,rfl,rfl⟩,⟨_,rfl,rfl⟩,trivial⟩,by omega⟩
theorem rann_walk {n N:Nat} {p:Nat->RawR} {f:Nat->Nat->RawR} {z:Nat->Rat} (hn:n<=6) (kA:∀ i,i<=n->FnOK Tryz.prog false 56 [.c (ql n (f i)),.g (qG n n p)] (.c (ql n (f (i+1))))) (kR:FnOK Tryz.prog false 76 [.c (.row 1 (n+1) fun i _=>ql n (f i))] (.c (nql N z))):FnOK Tryz.prog false 26 [.g (qG n n p),.c (ql n (f 0))] (.c (nql N z)):=by
 refine jy (E:=E0) qw Tryz.func26 rfl (by kernel_rfl) ?_;refine qf qw mixed (by kernel_rfl) ?_;conv=>whnf
 refine qy qw mixed (by kernel_rfl) ?_;conv=>whnf
 refine⟨gst [(1,.c (ql n (f 0))),(2,.c (.p 0 0 3 0 0)),(5,.c (.gs 1 0))] [⟨24,3,1,qk (qG n n p)⟩,qlB n 0 f],Weak.gen [some 0,none] rfl ⟨boxK rfl rfl,rfl,trivial⟩ ⟨rO rfl,⟨_,rfl,rfl,rfl⟩,rfl,trivial⟩,?_⟩;refine qF (fun _:Unit=>gst [(5,.c (.gs 0 0))] [qlB n (n+1) f]) (fun _=>True) ?_ fun _ _=>?_;rotate_left
 ·refine qJ qw mixed (by kernel_rfl) ?_;conv=>whnf
  refine⟨fun _ _ _ _=>rfl,?_⟩;conv=>whnf
  refine⟨_,kR,?_⟩;conv=>whnf
  exact⟨rfl,Sub.refl _⟩
 refine qy qw mixed (by kernel_rfl) ?_;conv=>whnf
 refine⟨(fun i:Nat=>gst [(1,.c (ql n (f i))),(2,.c (.p 0 0 3 0 0)),(5,.c (.gs 1 0)),(6,.c (.int .i64 i))] [⟨24,3,1,qk (qG n n p)⟩,qlB n i f]) 0,Weak.gen [some 0,some 1] rfl ⟨boxK rfl rfl,⟨_,rfl,rfl,rfl,rfl,rfl,fun a b ha hb=>absurd ha (Nat.not_lt_zero a)⟩,trivial⟩ ⟨rO rfl,⟨_,rfl,rfl,rfl⟩,⟨_,rfl,rfl,rfl⟩,⟨_,rfl,rfl⟩,trivial⟩,?_⟩;refine qq (qZ (fun i:Nat=>gst [(1,.c (ql n (f i))),(2,.c (.p 0 0 3 0 0)),(5,.c (.gs 1 0)),(6,.c (.int .i64 i))] [⟨24,3,1,qk (qG n n p)⟩,qlB n i f]) (fun i=>n+1-i) (fun i=>i<=n+1) 0 (Weak.refl _) (Nat.zero_le _) fun i hi=>?_);have hi:i<=n+1:=hi;rcases Nat.lt_or_ge n i with h | h
 ·obtain rfl:i=n+1:=by omega
  refine qJ qw mixed (by kernel_rfl) ?_;conv=>whnf
  refine jj (show decide (((n+1:Nat):Int)<=(n:Int))=false from decide_eq_false (by omega)) ?_;conv=>whnf
  exact⟨(),trivial,Weak.gen [some 1] rfl ⟨⟨_,rfl,rfl,rfl,rfl,rfl,fun a b ha hb=>qY rfl rfl⟩,trivial⟩ ⟨⟨_,rfl,rfl,rfl⟩,trivial⟩⟩
 ·have kA:=kA i h;refine qJ qw mixed (by kernel_rfl) ?_;conv=>whnf
  refine xG (show decide ((i:Int)<=(n:Int))=true from decide_eq_true (by omega)) ?_;conv=>whnf
  refine⟨by show i+1<=16777216;omega,fun a b ha hb=>one_raw ha hb,?_⟩;conv=>whnf
  refine⟨_,kA,?_⟩;conv=>whnf
  refine⟨qz (by omega) (by omega),?_⟩;conv=>whnf
  exact⟨i+1,by omega,Weak.gen [some 0,some 1] rfl ⟨boxK rfl rfl,⟨_,rfl,rfl,rfl,rfl,rfl,fun a b ha hb=>app_raw ha hb rfl⟩,trivial⟩ ⟨rO rfl,⟨_,rfl,rfl,rfl⟩,⟨_,rfl,rfl,rfl⟩,⟨_,rfl,rfl⟩,trivial⟩,by omega⟩
set_option maxHeartbeats 16000000
theorem rzeros_t1 {n:Nat} {l0:List Cell} (h0:l0.all Cell.clos=true) (hn:n<=1024):FnT Tryz.prog false 64 1 [gb ⟨24,3,1,qk l0⟩] [.c (.int .i64 n)] (.c (.gs 1 0)) [gb ⟨24,3,1,qk l0⟩,gb (gqr n fun _=>ofR 0)]:=by
 have k0:=Xz;obtain⟨cb,hcb⟩:∃ cb:Gx,cb=⟨24,3,1,qk l0⟩:=⟨_,rfl⟩;have ck:=cb_keep hcb h0;have cu:(gb cb).u=0:=rfl;have cs:(gb cb).st<=1:=Nat.zero_le 1;rw[<- hcb];clear hcb h0;refine jX (E:=E0m) E0m_ok Tryz.func64 rfl (by kernel_rfl) ?_;refine qJ E0m_ok mixed (by kernel_rfl) ?_;conv=>whnf
 refine loop_ints1 (fun i:Nat=>gst [(0,.c (.int .i64 n)),(3,.c (.gs 1 0)),(4,.c (.int .i64 i))] [cb,gqr i fun _=>ofR 0]) (fun i=>n-i) (fun i=>i<=n) 0 rfl (Weak.genT [some 0,none] rfl rfl ⟨_,rfl,cu,cs⟩ ⟨ck _ _ rfl,rfl,trivial⟩ ⟨⟨_,rfl,rfl⟩,rfl,⟨_,rfl,rfl⟩,trivial⟩) (Nat.zero_le _) fun i hi=>?_;conv=>whnf
 refine qg (fun(h:decide ((i:Int)<n)=true)=>?_) fun(h:decide ((i:Int)<n)=false)=>?_
 ·have h:=of_decide_eq_true h;conv=>whnf
  refine⟨_,k0,?_⟩;conv=>whnf
  refine⟨by show i+1<=16777216;omega,fun a b ha hb=>one_nq 0 _ a b ha hb,?_⟩;conv=>whnf
  refine⟨i64 (by omega) (by omega),?_⟩;conv=>whnf
  refine⟨i+1,by omega,Weak.genT [some 0,some 1] rfl rfl ⟨_,rfl,cu,cs⟩ ⟨ck _ _ rfl,⟨_,rfl,rfl,rfl,rfl,rfl,fun a b ha hb=>qY ?_ (qW (c:=fun _=>ofR 0) a b)⟩,trivial⟩ ⟨⟨_,rfl,rfl⟩,⟨_,rfl,rfl,rfl⟩,⟨_,rfl,rfl⟩,trivial⟩,by omega⟩;exact appG (sz:=4) (g:=fun _=>nq 0) (g':=fun _=>nq 0) (l:=nq 0) (app_sameq (fun _=>0) i a) (Nat.le_refl (i+1)) ha
 ·have h:=of_decide_eq_false h;have e:i=n:=by omega
  conv=>whnf
  exact Weak.genT (tl:=[(0,.c (.gs 1 0))]) (xs:=[cb,gqr n fun _=>ofR 0]) [some 0,some 1] rfl rfl ⟨_,rfl,cu,cs⟩ ⟨ck _ _ rfl,⟨_,rfl,rfl,rfl,e,rfl,fun a b ha hb=>qY rfl (qW (c:=fun _=>ofR 0) a b)⟩,trivial⟩ ⟨⟨_,rfl,rfl,rfl⟩,trivial⟩
def flc (n k:Nat) (c:Nat->Rat) (i:Nat):Rat:=if n<=i+k then c i else 0
structure Flv (n : Nat) (p : Nat → RawR) (M P : Nat → Nat → Nat → Rat) (t c : Nat → Rat) : Prop where
 hn:n<=6
 kI:FnOK Tryz.prog false 74 [.c (.int .i64 n)] (.g (zj n n jk))
 kM:∀ k,k<n->FnOK Tryz.prog false 14 [.g (qG n n p),.g (zj n n (M k))] (.g (zj n n (P k)))
 kT:∀ k,k<n->FnOK Tryz.prog false 13 [.g (zj n n (P k))] (.g (nq (t k)))
 kO:∀ k:Nat,k<n->FnOK Tryz.prog false 52 [.c (.int .i64 (-((k:Int)+1)))] (.g (nq (-((k:Rat)+1))))
 kR:∀ k:Nat,k<n->FnOK Tryz.prog false 70 [.g (nq (t k)),.g (nq (-((k:Rat)+1)))] (.g (nq (c (n-(k+1)))))
 kA:∀ k,k<n->FnOK Tryz.prog false 75 [.g (zj n n (P k)),.g (nq (c (n-(k+1)))),.g (zj n n jk)] (.g (zj n n (M (k+1))))
 m0:M 0=jk
 top:c n=1
theorem flc_upd {n k:Nat} {c:Nat->Rat} (hk:k<n) (i:Nat):flc n (k+1) c i=if i=((n:Int)-((k:Int)+1)).toNat then c (n-(k+1))else flc n k c i:=by
 unfold flc;by_cases e:i=((n:Int)-((k:Int)+1)).toNat
 ·rw[if_pos e,if_pos (by omega),show i=n-(k+1)by omega]
 ·rw[if_neg e];by_cases g:n<=i+k
  ·rw[if_pos g,if_pos (by omega)]
  ·rw[if_neg g,if_neg (by omega)]
theorem flc_start {n:Nat} {c:Nat->Rat} (h:c n=1) {i:Nat} (hi:i<n+1):flc n 0 c i=if i=(n:Int).toNat then 1 else 0:=by
 unfold flc;by_cases e:i=(n:Int).toNat
 ·rw[if_pos e,if_pos (by omega),show i=n by omega,h]
 ·rw[if_neg e,if_neg (by omega)]
set_option maxRecDepth 100000 in
theorem rchar_walk {n:Nat} {p:Nat->RawR} {M P:Nat->Nat->Nat->Rat} {t c:Nat->Rat} (h:Flv n p M P t c):FnOK Tryz.prog false 24 [.g (qG n n p)] (.c (nql (n+1) c)):=by
 obtain⟨hn,kI,kM,kT,kO,kR,kA,m0,top⟩:=h;have kz:=rzeros_t1 (n:=n+1) (l0:=qG n n p) (by rfl) (by omega);have o1:FnOK Tryz.prog false 52 [.c (.int .i64 1)] (.g (nq 1)):=vZ (n:=1) (by omega) (by omega);have i0:(0:Int)<=(n:Int):=by omega
 have i1:(n:Int)<((n+1:Nat):Int):=by omega
 have kI0:FnOK Tryz.prog false 74 [.c (.int .i64 n)] (.g (zj n n (M 0))):=by rw[m0];exact kI
 clear m0;refine jy (E:=E0) qw Tryz.func24 rfl (by kernel_rfl) ?_;refine qf qw mixed (by kernel_rfl) ?_;conv=>whnf
 refine qy qw mixed (by kernel_rfl) ?_;conv=>whnf
 refine⟨gst [(1,.c (.p 0 0 3 0 0)),(3,.c (.int .i64 n))] [⟨24,3,1,qk (qG n n p)⟩],Weak.gen [some 0] rfl ⟨Rf.boxK rfl rfl,trivial⟩ ⟨⟨_,rfl,rfl,rfl⟩,⟨_,rfl,rfl⟩,trivial⟩,?_⟩;refine qF (fun _:Unit=>gst [(1,.c (.p 0 0 3 0 0)),(3,.c (.int .i64 n)),(4,.c (.gs 1 0))] [⟨24,3,1,qk (qG n n p)⟩,gqr (n+1) fun _=>ofR 0]) (fun _=>True) ?_ fun _ _=>?_
 ·refine vK qw (pre:=[_,_]) (post:=[_]) rfl rfl (by kernel_rfl) ?_;conv=>whnf
  refine⟨qz (by omega) (by omega),?_⟩;conv=>whnf
  refine⟨1,_,by decide,OpGoT.call0 (f:=64) (cs:=[]) rfl rfl U3 kz (jp (jp (Vg (tl:=[(1,.c (.p 0 0 3 0 0)),(3,.c (.int .i64 n))]) ⟨rfl,rfl,trivial⟩) rfl) rfl),?_⟩;conv=>whnf
  exact⟨(),trivial,Weak.gen [some 0,some 1] rfl ⟨Rf.boxK rfl rfl,⟨_,rfl,rfl,rfl,rfl,rfl,fun x y hx hy=>qY rfl (qW (c:=fun _=>ofR 0) x y)⟩,trivial⟩ ⟨⟨_,rfl,rfl,rfl⟩,⟨_,rfl,rfl⟩,⟨_,rfl,rfl,rfl⟩,trivial⟩⟩
 refine qy qw mixed (by kernel_rfl) ?_;conv=>whnf
 refine⟨_,o1,?_⟩;conv=>whnf
 refine⟨i0,i1,?_⟩;conv=>whnf
 refine⟨gst [(1,.c (.p 0 0 3 0 0)),(3,.c (.int .i64 n)),(4,.c (.gs 1 0))] [⟨24,3,1,qk (qG n n p)⟩,gqr (n+1) fun i=>ofR (flc n 0 c i)],Weak.gen [some 0,some 1] rfl ⟨Rf.boxK rfl rfl,⟨_,rfl,rfl,rfl,rfl,rfl,fun x y hx hy=>qY (one_upd (V:=fun _=>0) (V':=flc n 0 c) (flc_start top hx) hy) (qW (c:=fun i=>ofR (flc n 0 c i)) x y)⟩,trivial⟩ ⟨⟨_,rfl,rfl,rfl⟩,⟨_,rfl,rfl⟩,⟨_,rfl,rfl,rfl⟩,trivial⟩,?_⟩;refine qy qw mixed (by kernel_rfl) ?_;conv=>whnf
 refine⟨_,kI0,?_⟩;conv=>whnf
 refine⟨gst [(1,.c (.p 0 0 3 0 0)),(3,.c (.int .i64 n)),(4,.c (.gs 1 0)),(5,.c (.p 2 0 3 0 0))] [⟨24,3,1,qk (qG n n p)⟩,gqr (n+1) fun i=>ofR (flc n 0 c i),⟨24,3,1,qk (zj n n (M 0))⟩],Weak.gen [some 0,some 1,some 2] rfl ⟨Rf.boxK rfl rfl,⟨_,rfl,rfl,rfl,rfl,rfl,fun x y hx hy=>qY rfl (qW (c:=fun i=>ofR (flc n 0 c i)) x y)⟩,Rf.boxU rfl rfl rfl,trivial⟩ ⟨⟨_,rfl,rfl,rfl⟩,⟨_,rfl,rfl⟩,⟨_,rfl,rfl,rfl⟩,⟨_,rfl,rfl,rfl⟩,trivial⟩,?_⟩;refine qF (fun _:Unit=>gst [(4,.c (.gs 0 0))] [gqr (n+1) fun i=>ofR (flc n n c i)]) (fun _=>True) ?_ fun _ _=>?_;rotate_left
 ·refine qJ qw mixed (by kernel_rfl) ?_;conv=>whnf
  refine⟨fun a b _ _=>qW (c:=fun i=>ofR (flc n n c i)) a b,?_⟩;conv=>whnf
  exact⟨rfl,zg rfl fun i j hi _=>congrArg (fun z=>(rr (ofR z)).getD j .any) (if_pos (Nat.le_add_left n i))⟩
 refine qy qw mixed (by kernel_rfl) ?_;conv=>whnf
 refine⟨(fun k:Nat=>gst [(1,.c (.p 0 0 3 0 0)),(3,.c (.int .i64 n)),(4,.c (.gs 1 0)),(5,.c (.p 2 0 3 0 0)),(6,.c (.int .i64 ((k:Int)+1)))] [⟨24,3,1,qk (qG n n p)⟩,gqr (n+1) fun i=>ofR (flc n k c i),⟨24,3,1,qk (zj n n (M k))⟩]) 0,Weak.gen [some 0,some 1,some 2] rfl ⟨Rf.boxK rfl rfl,⟨_,rfl,rfl,rfl,rfl,rfl,fun x y hx hy=>qY rfl (qW (c:=fun i=>ofR (flc n 0 c i)) x y)⟩,Rf.boxK rfl rfl,trivial⟩ ⟨⟨_,rfl,rfl,rfl⟩,⟨_,rfl,rfl⟩,⟨_,rfl,rfl,rfl⟩,⟨_,rfl,rfl,rfl⟩,⟨_,rfl,rfl⟩,trivial⟩,?_⟩;refine qq (qZ (fun k:Nat=>gst [(1,.c (.p 0 0 3 0 0)),(3,.c (.int .i64 n)),(4,.c (.gs 1 0)),(5,.c (.p 2 0 3 0 0)),(6,.c (.int .i64 ((k:Int)+1)))] [⟨24,3,1,qk (qG n n p)⟩,gqr (n+1) fun i=>ofR (flc n k c i),⟨24,3,1,qk (zj n n (M k))⟩]) (fun k=>n-k) (fun k=>k<=n) 0 (Weak.refl _) (Nat.zero_le _) fun k hk=>?_);have hk:k<=n:=hk;rcases Nat.lt_or_ge k n with h | h;rotate_left
 ·obtain rfl:k=n:=by omega
  refine qJ qw mixed (by kernel_rfl) ?_;conv=>whnf
  refine jj (show decide ((k:Int)+1<=(k:Int))=false from decide_eq_false (by omega)) ?_;conv=>whnf
  exact⟨(),trivial,Weak.gen [some 1] rfl ⟨⟨_,rfl,rfl,rfl,rfl,rfl,fun x y hx hy=>qY rfl (qW (c:=fun i=>ofR (flc k k c i)) x y)⟩,trivial⟩ ⟨⟨_,rfl,rfl,rfl⟩,trivial⟩⟩
 have kM:=kM k h;have kT:=kT k h;have kO:=kO k h;have kR:=kR k h;have kA:=kA k h;have d0:(0:Int)<=(n:Int)-((k:Int)+1):=by omega
 have d1:(n:Int)-((k:Int)+1)<((n+1:Nat):Int):=by omega
 have r1:inR .i64 ((n:Int)-((k:Int)+1)):=qz (by omega) (by omega);have r2:inR .i64 (-((k:Int)+1)):=qz (by omega) (by omega);have ef:flc n (k+1) c ((n:Int)-((k:Int)+1)).toNat=c (n-(k+1)):=by rw[flc_upd h,if_pos rfl]
 rw[<- ef]at kA;have kO:FnOK Tryz.prog false 52 [.c (.int .i64 (IntKind.i64.wrap (-((k:Int)+1))))] (.g (nq (-((k:Rat)+1)))):=by rw[inR_wrap r2];exact kO
 clear r2 ef;refine qf qw mixed (by kernel_rfl) ?_;conv=>whnf
 refine xG (show decide ((k:Int)+1<=(n:Int))=true from decide_eq_true (by omega)) ?_;conv=>whnf
 refine qF (fun _:Unit=>gst [(1,.c (.p 0 0 3 0 0)),(3,.c (.int .i64 n)),(4,.c (.gs 1 0)),(5,.c (.p 2 0 3 0 0)),(6,.c (.int .i64 ((k:Int)+1)))] [⟨24,3,1,qk (qG n n p)⟩,gqr (n+1) fun i=>ofR (flc n (k+1) c i),⟨24,3,1,qk (zj n n (M (k+1)))⟩]) (fun _=>True) ?_ fun _ _=>?_;rotate_left
 ·refine qJ qw mixed (by kernel_rfl) ?_;conv=>whnf
  refine⟨qz (by omega) (by omega),?_⟩;conv=>whnf
  exact⟨k+1,by omega,Weak.gen [some 0,some 1,some 2] rfl ⟨Rf.boxK rfl rfl,⟨_,rfl,rfl,rfl,rfl,rfl,fun x y hx hy=>qY rfl (qW (c:=fun i=>ofR (flc n (k+1) c i)) x y)⟩,Rf.boxK rfl rfl,trivial⟩ ⟨⟨_,rfl,rfl,rfl⟩,⟨_,rfl,rfl⟩,⟨_,rfl,rfl,rfl⟩,⟨_,rfl,rfl,rfl⟩,⟨_,rfl,rfl⟩,trivial⟩,h⟩
 refine qq ?_;refine qy qw mixed (by kernel_rfl) ?_;conv=>whnf
 refine⟨_,kM,?_⟩;conv=>whnf
 refine⟨gst [(1,.c (.p 0 0 3 0 0)),(3,.c (.int .i64 n)),(4,.c (.gs 1 0)),(5,.c (.p 2 0 3 0 0)),(6,.c (.int .i64 ((k:Int)+1))),(7,.c (.p 3 0 3 0 0))] [⟨24,3,1,qk (qG n n p)⟩,gqr (n+1) fun i=>ofR (flc n k c i),⟨24,3,1,qk (zj n n (M k))⟩,⟨24,3,1,qk (zj n n (P k))⟩],Weak.gen [some 0,some 1,some 2,some 3] rfl ⟨Rf.boxK rfl rfl,⟨_,rfl,rfl,rfl,rfl,rfl,fun x y hx hy=>qY rfl (qW (c:=fun i=>ofR (flc n k c i)) x y)⟩,Rf.boxK rfl rfl,Rf.boxU rfl rfl rfl,trivial⟩ ⟨⟨_,rfl,rfl,rfl⟩,⟨_,rfl,rfl⟩,⟨_,rfl,rfl,rfl⟩,⟨_,rfl,rfl,rfl⟩,⟨_,rfl,rfl⟩,⟨_,rfl,rfl,rfl⟩,trivial⟩,?_⟩;refine qy qw mixed (by kernel_rfl) ?_;conv=>whnf
 refine⟨r1,?_⟩;conv=>whnf
 refine⟨_,kT,?_⟩;conv=>whnf
 refine⟨_,kO,?_⟩;conv=>whnf
 refine⟨_,kR,?_⟩;conv=>whnf
 refine⟨d0,d1,?_⟩;conv=>whnf
 refine⟨gst [(1,.c (.p 0 0 3 0 0)),(3,.c (.int .i64 n)),(4,.c (.gs 1 0)),(5,.c (.p 2 0 3 0 0)),(6,.c (.int .i64 ((k:Int)+1))),(7,.c (.p 3 0 3 0 0))] [⟨24,3,1,qk (qG n n p)⟩,gqr (n+1) fun i=>ofR (flc n (k+1) c i),⟨24,3,1,qk (zj n n (M k))⟩,⟨24,3,1,qk (zj n n (P k))⟩],Weak.gen [some 0,some 1,some 2,some 3] rfl ⟨Rf.boxK rfl rfl,⟨_,rfl,rfl,rfl,rfl,rfl,fun x y hx hy=>qY (one_upd (V:=flc n k c) (V':=flc n (k+1) c) (flc_upd h x) hy) (qW (c:=fun i=>ofR (flc n (k+1) c i)) x y)⟩,Rf.boxK rfl rfl,Rf.boxK rfl rfl,trivial⟩ ⟨⟨_,rfl,rfl,rfl⟩,⟨_,rfl,rfl⟩,⟨_,rfl,rfl,rfl⟩,⟨_,rfl,rfl,rfl⟩,⟨_,rfl,rfl⟩,⟨_,rfl,rfl,rfl⟩,trivial⟩,?_⟩;refine qJ qw mixed (by kernel_rfl) ?_;conv=>whnf
 refine⟨r1,?_⟩;conv=>whnf
 refine⟨d0,d1,?_⟩;conv=>whnf
 refine⟨_,kI,?_⟩;conv=>whnf
 refine⟨_,kA,?_⟩;conv=>whnf
 exact⟨(),trivial,Weak.gen [some 0,some 1,some 2] rfl ⟨Rf.boxK rfl rfl,⟨_,rfl,rfl,rfl,rfl,rfl,fun x y hx hy=>qY rfl (qW (c:=fun i=>ofR (flc n (k+1) c i)) x y)⟩,Rf.boxU rfl rfl rfl,trivial⟩ ⟨⟨_,rfl,rfl,rfl⟩,⟨_,rfl,rfl⟩,⟨_,rfl,rfl,rfl⟩,⟨_,rfl,rfl,rfl⟩,⟨_,rfl,rfl⟩,trivial⟩⟩
end Mx
end Go.Proofs.YtkmbnldginonbaaGreat
namespace Go.Proofs.YtkmbnldginonbaaGreat
open Go.RowKit
open Crg Pol
namespace Mx
open Rf
section
variable {n:Nat} {A:Nat->Nat->Rat} {D E:Nat}
theorem sub_matL {n m:Nat} {G H:Nat->Nat->Rat} (h:∀ i j,i<n->j<m->G i j=H i j):Sub (.g (zj n m G)) (.g (zj n m H)):=fun D w v hv=>matL_eq h D w v hv
theorem mpw_right (t:Nat) {i j:Nat} (hi:i<n) (hj:j<n):xY (mpw n A t i) A n j=mpw n A (t+1) i j:=by
 show Q.su (fun a=>mpw n A t i a*A a j) n=_;rw[Vy];have e:Crg.sm (fun a=>mpw n A t i a*A a j) n=mm n (mpw n A t) (mpw n A 1) i j:=Crg.sm_congr fun a _=>congrArg (mpw n A t i a*·) (mm_I hj a).symm;rw[e,mpw_add A t 1 i j hi hj]
theorem Sm5.part (hS:Sm5 n A D E) {x:Nat->Rat} {i j:Nat} {L:Nat} (h1:1<=L) (hL:L<=10000) (hx:∀ a,a<n->qlen (x a)<=L) (hi:i<=n) (hj:j<n):qlen (xY x A i j)<=65535:=by
 have hn:=hS.hn;refine Nat.le_trans (sumR_len (L:=L) (L':=251) (by omega) h1 (fun a ha=>hx a (by omega)) fun a ha=>hS.one (by omega) hj) (by omega)
theorem rmin_ok (hS:Sm5 n A D E) {p:Nat->RawR} (hp:∀ a,a<n*n->wq (p a)) (hpv:∀ i j,i<n->j<n->(p (i*n+j)).val=A i j) {μ:Pol Rat} (hμ:Mn n A n μ):(∀ i,i<μ.len->qlen (μ.f i)<=65535)/\FnOK Tryz.prog false 25 [.g (qG n n p)] (.c (nql μ.len μ.f)):=by
 have hn:=hS.hn;have nn:=Nat.mul_le_mul hn hn;have hl:=hμ.len (Nat.le_refl n);have lp:∀ t i j,t<=10->i<n->j<n->qlen (mpw n A t i j)<=251:=fun t i j ht hi hj=>hS.pwl ht hi hj;obtain⟨l,R⟩:=relation_ok (m:=n*n) (b:=xM) (N:=n+1) (T:=fun t j=>mpw n A t (j / n) (j%n)) (q:=fun i j=>ofR (mpw n A i (j / n) (j%n))) hμ.fr (by omega) (by omega) (by decide) (by omega) (by omega) (fun t ht=>rowF_pow hS (by omega)) (fun t j ht hj=>by
  have hn:0<n:=Nat.pos_of_ne_zero fun e=>by rw[e,Nat.zero_mul]at hj;omega
  exact⟨wq_n (Nat.le_trans (lp t _ _ (by omega) (Nat.div_lt_of_lt_mul hj) (Nat.mod_lt _ hn)) (by decide)),qP _⟩) fun t j _ _ _=>rfl
 refine⟨l,rmin_walk (n:=n) (M:=mpw n A) (by omega) ((ridentity_ok (by omega)).res (sub_matL fun i j hi hj=>rfl)) (fun i hi=>?_) R⟩;refine(rmatmulR_ok (n:=n) (k:=n) (m:=n) (q:=fun a=>ofR (mpw n A i (a / n) (a%n))) (p:=p) (A:=mpw n A i) (B:=A) (by omega) (by omega) (by omega) (fun a b ha hb=>Nat.le_trans (lp i a b (by omega) ha hb) (by decide)) (fun a b ha hb=>Nat.le_trans (hS.one ha hb) (by decide)) (fun r a b hr ha hb=>hS.part (L:=251) (by decide) (by decide) (fun c hc=>lp i r c (by omega) hr hc) ha hb) (wq_mat fun a b ha hb=>Nat.le_trans (lp i a b (by omega) ha hb) (by decide)) (Xq (n:=n)) hp hpv).res (sub_matL fun a b ha hb=>mpw_right i ha hb)
theorem rann_ok (hS:Sm5 n A D E) {p qv:Nat->RawR} (hp:∀ a,a<n*n->wq (p a)) (hpv:∀ i j,i<n->j<n->(p (i*n+j)).val=A i j) {v:Nat->Rat} {F:Nat} (h0:0<F) (hF:F<=2^xU) (hv:∀ i,i<n->Fits F (2^xU) (v i)) (hq:∀ i,i<n->wq (qv i)/\qB (qv i).num.val<=65535/\qB (qv i).den.val<=65535/\(qv i).val=v i) {g:Pol Rat} (hg:Ann n A v g) (hl:g.len<=n+1):(∀ i,i<g.len->qlen (g.f i)<=65535)/\FnOK Tryz.prog false 26 [.g (qG n n p),.c (ql n qv)] (.c (nql g.len g.f)):=by
 have hn:=hS.hn;have lv:∀ t j,t<=5->j<n->qlen (av n A v t j)<=131:=fun t j ht hj=>(rowF_av hS h0 hF hv ht).len (by decide) hj;obtain⟨f,hf⟩:∃ f:Nat->Nat->RawR,f=fun i j=>if i=0 then qv j else ofR (av n A v i j):=⟨_,rfl⟩
 have f0:f 0=qv:=by rw[hf];rfl
 have f1:∀ i,f (i+1)=fun j=>ofR (av n A v (i+1) j):=fun i=>by rw[hf];exact funext fun j=>if_neg (Nat.succ_ne_zero i)
 obtain⟨l,R⟩:=relation_ok (m:=n) (b:=xV) (N:=n+1) (T:=av n A v) (q:=f) hg.fr (by omega) (by omega) (by decide) (by omega) (by omega) (fun t ht=>rowF_av hS h0 hF hv (by omega)) (fun t j ht hj=>by
  cases t with
  | zero=>rw[f0];exact⟨(hq j hj).1,(hq j hj).2.2.2⟩
  | succ t=>rw[f1];exact⟨wq_n (Nat.le_trans (lv _ j (by omega) hj) (by decide)),qP _⟩) fun t j h1 _ _=>by
   obtain⟨s,rfl⟩:∃ s,t=s+1:=⟨t-1,by omega⟩;rw[f1]
 have W:=rann_walk (n:=n) (N:=g.len) (p:=p) (f:=f) (z:=g.f) (by omega) (fun i hi=>?_) R
 ·rw[f0]at W;exact⟨l,W⟩
 ·have es:∀ j,xY (av n A v i) A n j=av n A v (i+1) j:=fun j=>Vy _ n;rw[f1];have a1:∀ a b,a<n->b<n->qlen (A a b)<=65535:=fun a b ha hb=>Nat.le_trans (hS.one ha hb) (by decide);have a2:∀ a b,a<=n->b<n->qlen (xY (av n A v i) A a b)<=65535:=fun a b ha hb=>hS.part (L:=131) (by decide) (by decide) (fun c hc=>lv i c (by omega) hc) ha hb;rw[show(fun j=>ofR (av n A v (i+1) j))=fun j=>ofR (xY (av n A v i) A n j)from funext fun j=>by rw[es]];cases i with
  | zero =>
   rw[f0];exact applyV_ok (k:=n) (m:=n) (x:=v) (qx:=qv) (p:=p) (G:=A) (by omega) (by omega) (fun i hi=>⟨(hq i hi).1,(hq i hi).2.1,(hq i hi).2.2.1,(hq i hi).2.2.2,Nat.le_trans (lv 0 i (by omega) hi) (by decide)⟩) a1 a2 hp hpv
  | succ i =>
   rw[f1];exact applyR_ok (k:=n) (m:=n) (x:=av n A v (i+1)) (p:=p) (G:=A) (by omega) (by omega) (fun j hj=>Nat.le_trans (lv (i+1) j (by omega) hj) (by decide)) a1 a2 hp hpv
theorem rchar_ok (hS:Sm5 n A D E) {p:Nat->RawR} (hp:∀ a,a<n*n->wq (p a)) (hpv:∀ i j,i<n->j<n->(p (i*n+j)).val=A i j) {c:Nat->Rat} (hc:Newt n A c):FnOK Tryz.prog false 24 [.g (qG n n p)] (.c (nql (n+1) c)):=by
 have hn:=hS.hn;have lc:=newt_size hS hc;have lf:∀ k i j,k<=n->i<n->j<n->qlen (flm n A c k i j)<=126:=fun k i j hk hi hj=>flm_size hS hc hk hi hj;let P:Nat->Nat->Nat->Rat:=fun k r=>xY (A r) (flm n A c k) n;have eP:∀ k i j,P k i j=mm n A (flm n A c k) i j:=fun k i j=>Vy _ n;have part:∀ k r i j,k<=n->r<n->i<=n->j<n->qlen (xY (A r) (flm n A c k) i j)<=5*(251+126+1)+1:=fun k r i j hk hr hi hj=>sumR_len (L:=251) (L':=126) (by omega) (by decide) (fun a ha=>hS.one hr (by omega)) fun a ha=>lf k a j hk (by omega) hj;have lP:∀ k i j,k<=n->i<n->j<n->qlen (P k i j)<=1891:=fun k i j hk hi hj=>Nat.le_trans (part k i n j hk hi (Nat.le_refl n) hj) (by decide);have lT:∀ k i,k<=n->i<=n->qlen (Crg.sm (fun i=>P k i i) i)<=9461:=fun k i hk hi=>Nat.le_trans (sm_len i fun a ha=>lP k a a hk (by omega) (by omega)) (Nat.le_trans (Nat.add_le_add_right (Nat.mul_le_mul_right _ (show i<=5 by omega)) 1) (by decide));have lI:∀ i j,qlen (jk i j)<=1:=fun i j=>by
  unfold jk;split
  ·decide
  ·exact Uy
 refine rchar_walk (n:=n) (p:=p) (M:=fun k=>if k=0 then jk else flm n A c k) (P:=P) (t:=fun k=>Crg.sm (fun i=>P k i i) n) (c:=c) ⟨by omega,ridentity_ok (by omega),fun k hk=>?_,fun k hk=>?_,fun k hk=>?_,fun k hk=>?_,fun k hk=>?_,if_pos rfl,hc.top⟩
 ·have M:=rmatmulR_ok (n:=n) (k:=n) (m:=n) (q:=p) (p:=fun a=>ofR (flm n A c k (a / n) (a%n))) (A:=A) (B:=flm n A c k) (by omega) (by omega) (by omega) (fun a b ha hb=>Nat.le_trans (hS.one ha hb) (by decide)) (fun a b ha hb=>Nat.le_trans (lf k a b (by omega) ha hb) (by decide)) (fun r a b hr ha hb=>Nat.le_trans (part k r a b (by omega) hr ha hb) (by decide)) hp hpv (wq_mat fun a b ha hb=>Nat.le_trans (lf k a b (by omega) ha hb) (by decide)) (Xq (n:=n));by_cases e:k=0
  ·subst e;rw[show(if 0=0 then jk else flm n A c 0)=jk from if_pos rfl];have e0:flm n A c 0=jk:=funext fun i=>funext fun j=>flm_zero hc.top i j;rw[e0]at M;rw[show P 0=fun r=>xY (A r) jk n from by rw[<- e0]];exact M
  ·rw[if_neg e];exact M
 ·exact rat_trace (n:=n) (q:=fun a=>ofR (P k (a / n) (a%n))) (G:=fun i=>P k i i) (by omega) (fun i hi=>wq_mat (n:=n) (m:=n) (fun a b ha hb=>Nat.le_trans (lP k a b (by omega) ha hb) (by decide)) (i*n+i) (mat_idx hi hi).1) (fun i hi=>Xq (n:=n) i i hi hi) (fun i hi=>Nat.le_trans (lP k i i (by omega) hi hi) (by decide)) fun i hi=>Nat.le_trans (lT k i (by omega) hi) (by decide)
 ·have:=vZ (n := -((k:Int)+1)) (by omega) (by omega);rwa [show((-((k:Int)+1):Int):Rat) = -((k:Rat)+1)by rw[Rat.intCast_neg,Rat.intCast_add,Rat.intCast_natCast];rfl]at this
 ·have lk:qlen (-((k:Rat)+1))<=1:=by
   have h:=qlen_int (x := -((k:Int)+1)) (L:=1) (VG (by show(-((k:Int)+1)).natAbs<4294967296;omega)) (Nat.le_refl 1);rwa [show((-((k:Int)+1):Int):Rat) = -((k:Rat)+1)by rw[Rat.intCast_neg,Rat.intCast_add,Rat.intCast_natCast];rfl]at h
  have R:=rqratio_n (x:=Crg.sm (fun i=>P k i i) n) (y := -((k:Rat)+1)) (Nat.le_trans (lT k n (by omega) (Nat.le_refl n)) (by decide)) (Nat.le_trans lk (by decide));have e:Crg.sm (fun i=>P k i i) n = -(((k:Rat)+1)*c (n-(k+1))):=by
   have t:=flm_tr hc (k:=k) (by omega);rw[nc_rat,show((k+1:Nat):Rat)=(k:Rat)+1 from Rat.natCast_add k 1]at t;rw[<- t];exact Crg.sm_congr fun i _=>eP k i i
  have hk0:((k:Rat)+1)≠0:=by
   have:((k+1:Nat):Rat)≠0:=fun h=>by
    have:=Rat.natCast_eq_zero_iff.1 h;omega
   rwa [Rat.natCast_add]at this
  have e2:Crg.sm (fun i=>P k i i) n / -((k:Rat)+1)=c (n-(k+1)):=by
   have hne : -((k:Rat)+1)≠0:=fun h=>hk0 (by rw[<- Rat.neg_neg ((k:Rat)+1),h];rfl);rw[e,show -(((k:Rat)+1)*c (n-(k+1)))=c (n-(k+1)) * -((k:Rat)+1)from RE.eq [(k:Rat)+1,c (n-(k+1))] (-(t0*t1)) (t1 * -t0) rfl,Rat.div_def,Rat.mul_assoc,Rat.mul_inv_cancel _ hne,Rat.mul_one]
  rw[e2]at R;exact R
 ·have R:=raddm_ok (n:=n) (m:=n) (A:=P k) (B:=jk) (c:=c (n-(k+1))) (by omega) (by omega) (fun i j hi hj=>Nat.le_trans (lP k i j (by omega) hi hj) (by decide)) (fun i j _ _=>Nat.le_trans (lI i j) (by decide)) (Nat.le_trans (lc _) (by decide)) fun i j hi hj=>by
   have e:P k i j+c (n-(k+1))*jk i j=flm n A c (k+1) i j:=by
    rw[flm_succ (by omega),eP];rfl
   rw[e];exact Nat.le_trans (lf (k+1) i j (by omega) hi hj) (by decide)
  rw[if_neg (Nat.succ_ne_zero k)];exact R.res (sub_matL fun i j hi hj=>by
   show P k i j+c (n-(k+1))*jk i j=_;rw[flm_succ (by omega),eP];rfl)
end
end Mx
end Go.Proofs.YtkmbnldginonbaaGreat
namespace Go.Proofs.YtkmbnldginonbaaGreat
open Go.RowKit Crg
namespace Mx
open Rf
variable {n:Nat} {A:Nat->Nat->Rat} {D E:Nat}
/-! Exponents by name. -/
end Mx
end Go.Proofs.YtkmbnldginonbaaGreat
namespace Go.Proofs.YtkmbnldginonbaaGreat
open Go.RowKit
def inlAwake (f:FuncId):Bool:=[39,40,92,151,58,108,48,100].contains f
theorem awake_run:(pureX orcC (runX ER orcC okF inlAwake 1000 40) 8 []).map (fun x=>match x with | .c (.bool b)=>b | _=>false)=some true:=by kernel_rfl
theorem awake_ok:FnOK Tryz.prog false 8 [] (.c (.bool true)):=by
 have h:=awake_run;cases hx:pureX orcC (runX ER orcC okF inlAwake 1000 40) 8 []with
 | none=>rw[hx]at h;cases h
 | some X =>
  rw[hx]at h;have hX:X = .c (.bool true):=by
   simp only[Option.map_some,Option.some.injEq]at h;split at h
   ·rename_i b;subst h;rfl
   ·cases h
  subst hX;exact run_call orcC_ok hx
end Go.Proofs.YtkmbnldginonbaaGreat
namespace Go.Proofs.YtkmbnldginonbaaGreat
open Go.RowKit
namespace Mx
open Rf
def qs (n : Nat) (p : Nat → RawR) (A : Nat → Nat → Rat) : Nat → Nat → RawR
 | 0=>p
 | t+1=>fun k=>ofR (xw n A (t+1) (k / n) (k%n))
theorem pb_lit {n:Nat} (hn:n<=5):PB (KB n 1) n<=32700000000:=by
 rcases(show n=0∨n=1∨n=2∨n=3∨n=4∨n=5 by omega)with rfl | rfl | rfl | rfl | rfl | rfl
 ·decide
 ·decide
 ·decide
 ·decide
 ·decide
 ·decide
set_option maxHeartbeats 16000000
set_option maxRecDepth 100000
theorem po_no {p qv:Nat->RawR} {r c:Int} {len N:Nat} (h1:FnOK Tryz.prog true 9 [.c (.int .i64 5),oneM r c len p] (.c (.bool false))):FnOK Tryz.prog true 5 [.g [.int .i64 r,.int .i64 c,ql len p],.c (ql N qv)] (.c (.bool true)):=by
 have h0:=awake_ok.weak (r:=true);refine jy (E:=E1v) zz Tryz.func5 rfl (by kernel_rfl) ?_;refine qf zz mixed (by kernel_rfl) ?_;conv=>whnf
 refine qf zz mixed (by kernel_rfl) ?_;conv=>whnf
 refine⟨_,h0,?_⟩;conv=>whnf
 refine qJ zz mixed (by kernel_rfl) ?_;conv=>whnf
 refine⟨fun i j hi hj=>?_,?_⟩
 ·match i,j,hi,hj with
  | 0,0,_,_=>rfl
  | 0,1,_,_=>rfl
  | 0,2,_,_=>rfl
 conv=>whnf
 refine⟨_,h1,?_⟩;conv=>whnf
 exact⟨rfl,Sub.refl _⟩
theorem po_len {p qv:Nat->RawR} {n N:Nat} (hN:N≠n) (h1:FnOK Tryz.prog true 9 [.c (.int .i64 5),oneM n n (n*n) p] (.c (.bool true))):FnOK Tryz.prog true 5 [.g (qG n n p),.c (ql N qv)] (.c (.bool true)):=by
 have h0:=awake_ok.weak (r:=true);refine jy (E:=E1v) zz Tryz.func5 rfl (by kernel_rfl) ?_;refine qf zz mixed (by kernel_rfl) ?_;conv=>whnf
 refine qf zz mixed (by kernel_rfl) ?_;conv=>whnf
 refine⟨_,h0,?_⟩;conv=>whnf
 refine qJ zz mixed (by kernel_rfl) ?_;conv=>whnf
 refine⟨fun i j hi hj=>?_,?_⟩
 ·match i,j,hi,hj with
  | 0,0,_,_=>rfl
  | 0,1,_,_=>rfl
  | 0,2,_,_=>rfl
 conv=>whnf
 refine⟨_,h1,?_⟩;conv=>whnf
 refine jj (show gw false (!decide ((N:Int)=(n:Int)))=false by rw[decide_eq_false (by omega)];rfl) ?_;conv=>whnf
 exact⟨rfl,Sub.refl _⟩
theorem po_long {p qv:Nat->RawR} {n:Nat} (h1:FnOK Tryz.prog true 9 [.c (.int .i64 5),oneM n n (n*n) p] (.c (.bool true))) (h2:FnOK Tryz.prog true 15 [.c (ql n qv)] (.c (.bool false))):FnOK Tryz.prog true 5 [.g (qG n n p),.c (ql n qv)] (.c (.bool true)):=by
 have h0:=awake_ok.weak (r:=true);refine jy (E:=E1v) zz Tryz.func5 rfl (by kernel_rfl) ?_;refine qf zz mixed (by kernel_rfl) ?_;conv=>whnf
 refine qf zz mixed (by kernel_rfl) ?_;conv=>whnf
 refine⟨_,h0,?_⟩;conv=>whnf
 refine qJ zz mixed (by kernel_rfl) ?_;conv=>whnf
 refine⟨fun i j hi hj=>?_,?_⟩
 ·match i,j,hi,hj with
  | 0,0,_,_=>rfl
  | 0,1,_,_=>rfl
  | 0,2,_,_=>rfl
 conv=>whnf
 refine⟨_,h1,?_⟩;conv=>whnf
 refine xG (show gw false (!decide ((n:Int)=(n:Int)))=true by rw[decide_eq_true rfl];rfl) ?_;conv=>whnf
 refine⟨_,h2,?_⟩;conv=>whnf
 exact⟨rfl,Sub.refl _⟩
theorem po_yes {n M L : Nat} {p qv : Nat → RawR} {c μ g : Nat → Rat} (h1 : FnOK Tryz.prog true 9 [.c (.int .i64 5), oneM n n (n * n) p] (.c (.bool true))) (h2 : FnOK Tryz.prog true 15 [.c (ql n qv)] (.c (.bool true)))
  (kc:FnOK Tryz.prog true 10 [.g (qG n n p)] (.t2 (.c (nql (n+1) c)) (.c (.int .i64 0))))
  (km:FnOK Tryz.prog true 20 [.g (qG n n p)] (.t2 (.c (nql M μ)) (.c (.int .i64 0))))
  (ka:FnOK Tryz.prog true 23 [.g (qG n n p),.c (ql n qv)] (.t2 (.c (nql L g)) (.c (.int .i64 0))))
  (rc:FnOK Tryz.prog true 24 [.g (qG n n p)] (.c (nql (n+1) c)))
  (rm:FnOK Tryz.prog true 25 [.g (qG n n p)] (.c (nql M μ)))
  (ra:FnOK Tryz.prog true 26 [.g (qG n n p),.c (ql n qv)] (.c (nql L g)))
  (sc:FnOK Tryz.prog true 21 [.c (nql (n+1) c),.c (nql (n+1) c)] (.c (.bool true)))
  (sm:FnOK Tryz.prog true 21 [.c (nql M μ),.c (nql M μ)] (.c (.bool true)))
  (sa:FnOK Tryz.prog true 21 [.c (nql L g),.c (nql L g)] (.c (.bool true))):FnOK Tryz.prog true 5 [.g (qG n n p),.c (ql n qv)] (.c (.bool true)):=by
 have h0:=awake_ok.weak (r:=true);refine jy (E:=E1v) zz Tryz.func5 rfl (by kernel_rfl) ?_;refine qf zz mixed (by kernel_rfl) ?_;conv=>whnf
 refine qf zz mixed (by kernel_rfl) ?_;conv=>whnf
 refine⟨_,h0,?_⟩;conv=>whnf
 refine qy zz mixed (by kernel_rfl) ?_;conv=>whnf
 refine⟨fun i j hi hj=>?_,?_⟩
 ·match i,j,hi,hj with
  | 0,0,_,_=>rfl
  | 0,1,_,_=>rfl
  | 0,2,_,_=>rfl
 conv=>whnf
 refine⟨_,h1,?_⟩;conv=>whnf
 refine xG (show gw false (!decide ((n:Int)=(n:Int)))=true by rw[decide_eq_true rfl];rfl) ?_;conv=>whnf
 refine⟨_,h2,?_⟩;conv=>whnf
 refine⟨gst [(1,.c (ql n qv)),(2,.c (.p 0 0 3 0 0))] [⟨24,3,1,qk (qG n n p)⟩],Weak.gen [some 0] rfl ⟨Rf.boxK rfl rfl,trivial⟩ ⟨rO rfl,⟨_,rfl,rfl,rfl⟩,trivial⟩,?_⟩;refine qy zz mixed (by kernel_rfl) ?_;conv=>whnf
 refine⟨_,kc,?_⟩;conv=>whnf
 refine⟨gst [(1,.c (ql n qv)),(2,.c (.p 0 0 3 0 0)),(5,.c (nql (n+1) c)),(6,.c (.int .i64 0))] [⟨24,3,1,qk (qG n n p)⟩],Weak.gen [some 0] rfl ⟨Rf.boxK rfl rfl,trivial⟩ ⟨rO rfl,⟨_,rfl,rfl,rfl⟩,rO rfl,⟨_,rfl,rfl⟩,trivial⟩,?_⟩;refine qy zz mixed (by kernel_rfl) ?_;conv=>whnf
 refine⟨_,km,?_⟩;conv=>whnf
 refine⟨gst [(1,.c (ql n qv)),(2,.c (.p 0 0 3 0 0)),(5,.c (nql (n+1) c)),(6,.c (.int .i64 0)),(7,.c (nql M μ)),(8,.c (.int .i64 0))] [⟨24,3,1,qk (qG n n p)⟩],Weak.gen [some 0] rfl ⟨Rf.boxK rfl rfl,trivial⟩ ⟨rO rfl,⟨_,rfl,rfl,rfl⟩,rO rfl,⟨_,rfl,rfl⟩,rO rfl,⟨_,rfl,rfl⟩,trivial⟩,?_⟩;refine qy zz mixed (by kernel_rfl) ?_;conv=>whnf
 refine⟨_,ka,?_⟩;conv=>whnf
 refine⟨gst [(1,.c (ql n qv)),(2,.c (.p 0 0 3 0 0)),(5,.c (nql (n+1) c)),(6,.c (.int .i64 0)),(7,.c (nql M μ)),(8,.c (.int .i64 0)),(9,.c (nql L g)),(10,.c (.int .i64 0))] [⟨24,3,1,qk (qG n n p)⟩],Weak.gen [some 0] rfl ⟨Rf.boxK rfl rfl,trivial⟩ ⟨rO rfl,⟨_,rfl,rfl,rfl⟩,rO rfl,⟨_,rfl,rfl⟩,rO rfl,⟨_,rfl,rfl⟩,rO rfl,⟨_,rfl,rfl⟩,trivial⟩,?_⟩;refine qJ zz mixed (by kernel_rfl) ?_;conv=>whnf
 refine⟨_,rc,?_⟩;conv=>whnf
 refine⟨_,sc,?_⟩;conv=>whnf
 refine⟨_,rm,?_⟩;conv=>whnf
 refine⟨_,sm,?_⟩;conv=>whnf
 refine⟨_,ra,?_⟩;conv=>whnf
 refine⟨_,sa,?_⟩;conv=>whnf
 exact⟨rfl,Sub.refl _⟩
set_option maxRecDepth 100000 in
set_option maxHeartbeats 8000000 in
theorem pann_walk {n N:Nat} {p qv:Nat->RawR} {v g:Nat->Rat} (hn:n<=6) (kN:∀ i,i<n->FnOK Tryz.prog true 73 [.g (rr (qv i))] (.g (nq (v i)))) (ka:FnOK Tryz.prog true 67 [.g (qG n n p),.c (nql n v)] (.c (nql N g))):FnOK Tryz.prog true 23 [.g (qG n n p),.c (ql n qv)] (.t2 (.c (nql N g)) (.c (.int .i64 0))):=by
 have kv:FnOK Tryz.prog true 72 [.g (qG n n p)] (.c (.bool true)):=by
  have h:=valid_ok (r:=n) (c:=n) (len:=n*n) (f:=qlF p);rwa [decide_eq_true ⟨⟨by omega,by omega⟩,⟨by omega,by omega⟩,Int.natCast_mul n n⟩]at h
 have k0:FnOK Tryz.prog true 38 [.g (qG n n p)] (.c (.int .i64 0)):=by
  have h:=check_ok (r:=n) (c:=n) (len:=n*n) (f:=qlF p);rwa [show jW (n:Int) n ((n*n:Nat):Int)=0 by
   unfold jW;rw[if_pos ⟨⟨⟨by omega,by omega⟩,⟨by omega,by omega⟩,by rw[Int.natCast_mul]⟩,rfl⟩,if_neg (by omega)]]at h
 refine jy (E:=E1) qQ Tryz.func23 rfl (by kernel_rfl) ?_;refine qy qQ mixed (by kernel_rfl) ?_;conv=>whnf
 refine⟨gst [(1,.c (ql n qv)),(2,.c (.p 0 0 3 0 0))] [⟨24,3,1,qk (qG n n p)⟩],Weak.gen [some 0] rfl ⟨Rf.boxK rfl rfl,trivial⟩ ⟨rO rfl,⟨_,rfl,rfl,rfl⟩,trivial⟩,?_⟩;refine qy qQ mixed (by kernel_rfl) ?_;conv=>whnf
 refine⟨_,kv,?_⟩;conv=>whnf
 refine jj (show(!decide ((n:Int)=(n:Int)))=false by rw[decide_eq_true rfl];rfl) ?_;conv=>whnf
 refine⟨gst [(1,.c (ql n qv)),(2,.c (.p 0 0 3 0 0))] [⟨24,3,1,qk (qG n n p)⟩],Weak.gen [some 0] rfl ⟨Rf.boxK rfl rfl,trivial⟩ ⟨rO rfl,⟨_,rfl,rfl,rfl⟩,trivial⟩,?_⟩;refine qy qQ mixed (by kernel_rfl) ?_;conv=>whnf
 refine⟨_,k0,?_⟩;conv=>whnf
 refine⟨gst [(1,.c (ql n qv)),(2,.c (.p 0 0 3 0 0))] [⟨24,3,1,qk (qG n n p)⟩],Weak.gen [some 0] rfl ⟨Rf.boxK rfl rfl,trivial⟩ ⟨rO rfl,⟨_,rfl,rfl,rfl⟩,trivial⟩,?_⟩;refine qy qQ mixed (by kernel_rfl) ?_;conv=>whnf
 refine⟨gst [(1,.c (ql n qv)),(2,.c (.p 0 0 3 0 0)),(7,.c (.gs 1 0))] [⟨24,3,1,qk (qG n n p)⟩,gqr 0 fun i=>ofR (v i)],Weak.gen [some 0,none] rfl ⟨Rf.boxK rfl rfl,rfl,trivial⟩ ⟨rO rfl,⟨_,rfl,rfl,rfl⟩,rfl,trivial⟩,?_⟩;refine qF (fun _:Unit=>gst [(2,.c (.p 0 0 3 0 0)),(7,.c (.gs 1 0))] [⟨24,3,1,qk (qG n n p)⟩,gqr n fun i=>ofR (v i)]) (fun _=>True) ?_ fun _ _=>?_;rotate_left
 ·refine qJ qQ mixed (by kernel_rfl) ?_;conv=>whnf
  refine⟨fun a b _ _=>qW (c:=fun i=>ofR (v i)) a b,?_⟩;conv=>whnf
  refine⟨_,ka,?_⟩;conv=>whnf
  exact⟨rfl,Sub.refl _⟩
 refine qy qQ mixed (by kernel_rfl) ?_;conv=>whnf
 refine⟨(fun i:Nat=>gst [(2,.c (.p 0 0 3 0 0)),(7,.c (.gs 1 0)),(24,.c (ql n qv)),(25,.c (.int .i64 n)),(26,.c (.int .i64 i))] [⟨24,3,1,qk (qG n n p)⟩,gqr i fun j=>ofR (v j)]) 0,Weak.gen [some 0,some 1] rfl ⟨Rf.boxK rfl rfl,⟨_,rfl,rfl,rfl,rfl,rfl,fun a b ha hb=>qY rfl (qW (c:=fun i=>ofR (v i)) a b)⟩,trivial⟩ ⟨⟨_,rfl,rfl,rfl⟩,⟨_,rfl,rfl,rfl⟩,rO rfl,⟨_,rfl,rfl⟩,⟨_,rfl,rfl⟩,trivial⟩,?_⟩;refine qq (qZ (fun i:Nat=>gst [(2,.c (.p 0 0 3 0 0)),(7,.c (.gs 1 0)),(24,.c (ql n qv)),(25,.c (.int .i64 n)),(26,.c (.int .i64 i))] [⟨24,3,1,qk (qG n n p)⟩,gqr i fun j=>ofR (v j)]) (fun i=>n-i) (fun i=>i<=n) 0 (Weak.refl _) (Nat.zero_le _) fun i hi=>?_);have hi:i<=n:=hi;rcases Nat.lt_or_ge i n with h | h;rotate_left
 ·obtain rfl:i=n:=by omega
  refine qJ qQ mixed (by kernel_rfl) ?_;conv=>whnf
  refine jj (show decide ((i:Int)<(i:Int))=false from decide_eq_false (by omega)) ?_;conv=>whnf
  exact⟨(),trivial,Weak.gen [some 0,some 1] rfl ⟨Rf.boxK rfl rfl,⟨_,rfl,rfl,rfl,rfl,rfl,fun a b ha hb=>qY rfl (qW (c:=fun j=>ofR (v j)) a b)⟩,trivial⟩ ⟨⟨_,rfl,rfl,rfl⟩,⟨_,rfl,rfl,rfl⟩,trivial⟩⟩
 ·have kN:=kN i h;refine qJ qQ mixed (by kernel_rfl) ?_;conv=>whnf
  refine xG (show decide ((i:Int)<(n:Int))=true from decide_eq_true (by omega)) ?_;conv=>whnf
  refine⟨by omega,by omega,?_⟩;conv=>whnf
  refine⟨_,kN,?_⟩;conv=>whnf
  refine⟨by show i+1<=16777216;omega,fun a b ha hb=>one_nq (v i) _ a b ha hb,?_⟩;conv=>whnf
  refine⟨qz (by omega) (by omega),?_⟩;conv=>whnf
  refine⟨i+1,by omega,Weak.gen [some 0,some 1] rfl ⟨Rf.boxK rfl rfl,⟨_,rfl,rfl,rfl,rfl,rfl,fun a b ha hb=>qY ?_ (qW (c:=fun j=>ofR (v j)) a b)⟩,trivial⟩ ⟨⟨_,rfl,rfl,rfl⟩,⟨_,rfl,rfl,rfl⟩,rO rfl,⟨_,rfl,rfl⟩,⟨_,rfl,rfl⟩,trivial⟩,h⟩;exact appG (sz:=4) (g:=fun k=>nq (v k)) (g':=fun k=>nq (v k)) (l:=nq (v i)) (app_sameq v i a) (Nat.le_refl (i+1)) ha
end Mx
end Go.Proofs.YtkmbnldginonbaaGreat
namespace Go.Proofs.YtkmbnldginonbaaGreat
open Go.ChangeShapes Go.WideShapes Go.ChangeAt Go.RowKit
theorem lawOwn:ownKnob Tryz.prog.godebug=none:=by kernel_rfl
theorem lawLaid:laidOutB Tryz.prog=true:=by kernel_rfl
section
variable {H:Type} {enc:TypeId × Value->H} {P:Program}
theorem post_below {f : Func} {s : ChangeSpec} {apart fresh handsOn again : Bool} {W W' : World} {args : Array Value} {v : Value} {ds gs : List (DataW H)} {before pa pv : List MemPlace}
  (hW:DataW.Whole enc P f.params.toList s.vars apart W args.toList ds gs before)
  (hres:∀(b:Nat) (sp:Nat->Bool) (hd:Bool),DataW.TrodAll enc P W' b sp hd f.resultTypes.toList (v.resultList f.resultTypes.size) (s.fn H (ds++gs)).results [])
  (hargs:∀ sp:Nat->Bool,(∀ p∈before,sp p.block=true)->DataW.TrodAll enc P W' 0 sp true f.params.toList args.toList (s.fn H (ds++gs)).args pa)
  (hvars:∀ sp:Nat->Bool,(∀ p∈before,sp p.block=true)->DataW.TrodVars enc P W' sp s.vars (s.fn H (ds++gs)).vars pv)
  (hps:before=pa++pv) (hb:Below W.heap.size W W')
  (hok:∀(j:Nat) (t:TypeId) (r:Value),f.resultTypes[j]? = some t->(v.resultList f.resultTypes.size)[j]? = some r->Value.okWide P W' .any 0 t r) :
  s.post enc P f apart fresh handsOn again W args v W':=by
 have hlt:∀ p∈before,p.block<W.heap.size:=fun p hp=>hW.lt p hp;have hold:∀ p∈before,(fun b=>decide (b<W.heap.size)) p.block=true:=fun p hp=>by simpa using hlt p hp
 refine⟨ds,gs,before,[],pa,pv,hW,hres _ _ _,hargs _ hold,hvars _ hold,World.keptBut_mono (fun p hp=>⟨hp,?_⟩) (hb.frame (·∈before)),fun _=>?_⟩
 ·rw[hps,List.mem_append]at hp;exact Or.inr hp
 ·obtain⟨_,_,_,_,_,hz,hn⟩:=hW;refine⟨hok,_,_,([]++pa)++pv,⟨[]++pa,pv,trodAll_append (hargs _ (fun _ _=>rfl)) (hres _ _ _),hvars _ (fun _ _=>rfl),rfl,?_,?_⟩,?_⟩
  ·intro b off hp;have hin:MemPlace.cell b off∈before:=by rw[hps];simpa using hp
   rw[hb.frozen (hlt _ hin)];exact hz b off hin
  ·intro ha;have:=hn ha;rw[hps]at this;simpa using this
  ·intro p hp _;rw[hps];simpa using hp
theorem Below.trodS {t : TypeId} (hl : laidOutB P = true) (hr : P.readableRec t = true) (hrow : t < P.types.size) {W W' : World} {sp : Nat → Bool} {v : Value} {d : DataW H} {ps : List MemPlace}
  (h:DataW.Trod enc P W 0 (fun _=>true) true t v d ps) (hb:Below W.heap.size W W') (hlt:∀ x∈ps,x.block<W.heap.size) (hs:∀ x∈ps,sp x.block=true) :
  DataW.Trod enc P W' 0 sp true t v d ps :=
 WideElems.Trod_stays hl hr hrow h (fun x hx=>hb.same (hlt x hx)) hs
end
section
variable {H:Type} {enc:TypeId × Value->H} {P:Program} {w:World} {sp:Nat->Bool} {held:Bool}
theorem trod_struct3 {t : TypeId} {f0 f1 f2 : Field} {fuel : Nat} {cs : List Value} {x : DataW H × List MemPlace} (ht : P.underlying t = some (.struct #[f0, f1, f2])) (h : DataW.trod enc P w 0 sp held fuel t cs = some x) :
  ∃ y0 y1 y2 n,cs.length=P.cellsOf t/\DataW.trod enc P w 0 sp held n f0.type ((cs.drop f0.offset).take (P.cellsOf f0.type))=some y0/\DataW.trod enc P w 0 sp held n f1.type ((cs.drop f1.offset).take (P.cellsOf f1.type))=some y1/\DataW.trod enc P w 0 sp held n f2.type ((cs.drop f2.offset).take (P.cellsOf f2.type))=some y2:=by
 obtain⟨xs,n,_,rfl,hl,hlen,hf⟩:=DataW.trod_struct ht h;match xs,hlen with
 | [y0,y1,y2],_=>exact⟨y0,y1,y2,n,hl,by simpa using hf 0 f0 rfl,by simpa using hf 1 f1 rfl,by simpa using hf 2 f2 rfl⟩
theorem cell_int {t fuel:Nat} {k:IntKind} {cs:List Value} {x:DataW H × List MemPlace} (ht:P.underlying t=some (.int k)) (h:DataW.trod enc P w 0 sp held fuel t cs=some x):∃ n,cs=[.int k n]/\(Lit.int k n).wf=true:=by
 obtain⟨n,h1,_,h2⟩:=DataW.trod_int ht h;exact⟨n,h1,h2⟩
theorem okWide_slice {r:Reach} {b0 t e:Nat} {v:Value} (ht:P.underlying t=some (.slice e)) (hval:Value.okWide P w r b0 t v):v.cells.toList=[v]:=by
 cases v with
 | agg cs=>simp[Value.okWide,ht,Cell.okWide,Cell.ok]at hval
 | _=>rfl
theorem okWide_agg {r:Reach} {b0 t:Nat} {fs:Array Field} {v:Value} (ht:P.underlying t=some (.struct fs)) (hval:Value.okWide P w r b0 t v):∃ cs,v = .agg cs:=by
 simp only[Value.okWide,ht]at hval;obtain⟨cs,h,_⟩:=hval;exact⟨cs,h⟩
end
section
variable {H:Type} {enc:TypeId × Value->H} {w:World} {sp:Nat->Bool} {held:Bool}
theorem cellsMat:Tryz.prog.cellsOf 24=3:=by kernel_rfl
theorem cellsInt:Tryz.prog.cellsOf 3=1:=by kernel_rfl
theorem cellsRats:Tryz.prog.cellsOf 22=1:=by kernel_rfl
end
theorem law_call {r:Bool} {f:FuncId} {al:List V} (h:FnOK Tryz.prog r f al (.c (.bool true))) {w:World} {vs:List Value} (hv:VRels (fun _=>False) w [] al vs):Calls Tryz.prog f vs.toArray w fun e w'=>e = .returned (.bool true)/\Below w.heap.size w w' :=
 (h.2 (fun _=>False) w vs (fun b hb=>hb.elim) (fun _ b o d hb=>hb.elim) hv).mono fun _ _ ⟨v,he,hv,hb⟩=>⟨by rw[he,show v = .bool true from hv],hb⟩
end Go.Proofs.YtkmbnldginonbaaGreat
set_option maxRecDepth 100000
namespace Go.Proofs.YtkmbnldginonbaaGreat
open Go.ChangeShapes Go.WideShapes Go.ChangeAt Go.RowKit
section
variable {H:Type} {enc:TypeId × Value->H} {P:Program} {w:World} {sp:Nat->Bool} {held:Bool}
theorem bulk_one (d:DataW H):1<=Rows.uptoBulk d:=by
 cases d with
 | lit l=>cases l <;> simp[Rows.uptoBulk]
 | nil=>simp[Rows.uptoBulk]
 | ptr d=>simp[Rows.uptoBulk]
 | slice elems spare=>simp[Rows.uptoBulk]
 | agg parts=>simp[Rows.uptoBulk]
 | iface t d=>simp[Rows.uptoBulk]
 | map entries=>simp[Rows.uptoBulk]
 | held h=>simp[Rows.uptoBulk]
theorem bulk_part {d:DataW H} {l:List (DataW H)} (h:d∈l):Rows.uptoBulk d<=Rows.uptoBulkAll l:=by
 induction l with
 | nil=>cases h
 | cons x r ih =>
  simp only[Rows.uptoBulkAll];cases List.mem_cons.1 h with
  | inl e=>subst e;omega
  | inr e=>have:=ih e;omega
theorem bulk_len (l:List (DataW H)):l.length<=Rows.uptoBulkAll l:=by
 induction l with
 | nil=>simp[Rows.uptoBulkAll]
 | cons x r ih=>have:=bulk_one x;simp only[Rows.uptoBulkAll,List.length_cons];omega
theorem free_addr {a:Addr} {sz:Nat} {cs:List Value} (h0:0<sz) (h:w.cells? 0 (a.add (0*sz)) sz=some cs):∃ b o,a=⟨b,o,none⟩/\b<w.heap.size:=by
 obtain⟨b,o,spt⟩:=a;have hs:spt=none/\b<w.heap.size:=by
  obtain⟨_,h2,h3⟩:=World.cells?_some h;have h4:=h3 0 h0;rw[Nat.zero_mul,Addr.add,if_pos rfl,Addr.add,if_pos rfl,List.getElem?_eq_getElem (by omega)]at h4;unfold World.cell? at h4;split at h4
  ·rename_i hh;refine⟨?_,(Array.getElem?_eq_some_iff.1 hh).1⟩;split at h4
   ·cases h4
   ·rename_i hs;simpa using hs
  ·cases h4
 exact⟨b,o,by rw[hs.1],hs.2⟩
theorem crels_get {D : Nat → Prop} {ρ : List Loc} : ∀ {l : List Cell} {vs : List Value}, CRels D w ρ l vs → ∀ j, j < l.length → ∃ u, vs[j]? = some u ∧ CRel D w ρ (l.getD j .any) u
 | [],_,_,j,hj=>absurd hj (Nat.not_lt_zero j)
 | _ :: _,[],h,_,_=>h.elim
 | x :: l,v :: vs,h,j,hj=>by
  cases j with
  | zero=>exact⟨v,rfl,h.1⟩
  | succ j=>exact crels_get h.2 j (by simpa using hj)
theorem cell_list {α : Type} [Inhabited α] {t e sz fuel : Nat} {cs : List Value} {x : DataW H × List MemPlace} {G : α → List Cell} {Q : α → DataW H → Prop} (ht : P.underlying t = some (.slice e)) (hk : P.cellsOf e = sz) (h0 : 0 < sz) (hG : ∀ a, (G a).length = sz)
  (one:∀(n:Nat) (cs':List Value) (y:DataW H × List MemPlace),DataW.trod enc P w 0 sp held n e cs'=some y->∃ a:α,CRels (fun _=>False) w [] (G a) cs'/\Q a y.1)
  (h:DataW.trod enc P w 0 sp held fuel t cs=some x) :
  ∃(v:Value) (n:Nat) (f:Nat->α),cs=[v]/\CRel (fun _=>False) w [] (.row sz n fun i j=>(G (f i)).getD j .any) v/\n<=Rows.uptoBulk x.1/\∀ i,i<n->∃ d,Q (f i) d/\Rows.uptoBulk d<=Rows.uptoBulk x.1:=by
 rcases DataW.trod_slice ht h with⟨rfl,rfl⟩ | ⟨a,len,cap,elems,rest,n,_,rfl,hx,_,hl,hm,hlen,hel,_⟩
 ·exact⟨_,0,fun _=>default,rfl,⟨none,0,rfl,Nat.le_refl _,fun h=>absurd h (Nat.lt_irrefl 0)⟩,Nat.zero_le _,fun i hi=>absurd hi (Nat.not_lt_zero i)⟩
 ·have get:∀ i (hi:i<len),∃ b:α,(∃ cs',w.cells? 0 (a.add (i*sz)) sz=some cs'/\CRels (fun _=>False) w [] (G b) cs')/\Q b (elems[i]'(by omega)).1:=by
   intro i hi;have:=hel i hi;rw[hk,List.getElem?_eq_getElem (by omega),Option.bind_eq_some_iff]at this;obtain⟨cs',h1,h2⟩:=this;obtain⟨b,h3,h4⟩:=one n cs' _ h2;exact⟨b,⟨cs',h1,h3⟩,h4⟩
  have hbulk:elems.length<=Rows.uptoBulk x.1/\∀ i (hi:i<len),Rows.uptoBulk (elems[i]'(by omega)).1<=Rows.uptoBulk x.1:=by
   rw[hx];simp only[Rows.uptoBulk];refine⟨?_,fun i hi=>?_⟩
   ·have:=bulk_len (elems.map (·.1));simp only[List.length_map]at this;omega
   ·have:=bulk_part (l:=elems.map (·.1)) (d:=(elems[i]'(by omega)).1) (List.mem_map_of_mem (List.getElem_mem _));omega
  obtain⟨f,hf⟩:∃ f:Nat->α,∀ i (hi:i<len),(∃ cs',w.cells? 0 (a.add (i*sz)) sz=some cs'/\CRels (fun _=>False) w [] (G (f i)) cs')/\Q (f i) (elems[i]'(by omega)).1 :=
   ⟨fun i=>if h:i<len then(get i h).choose else default,fun i hi=>by
    simp only[dif_pos hi];exact(get i hi).choose_spec⟩
  refine⟨_,len,f,rfl,⟨_,cap,rfl,hl,fun hn=>?_⟩,by omega,fun i hi=>⟨_,(hf i hi).2,hbulk.2 i hi⟩⟩;obtain⟨cs0,c1,_⟩:=(hf 0 hn).1;obtain⟨b,o,rfl,hb⟩:=free_addr h0 c1;refine⟨b,o,rfl,hb,id,fun i j hi hj=>?_⟩;obtain⟨cs',c1,c2⟩:=(hf i hi).1;obtain⟨_,h2,h3⟩:=World.cells?_some c1;have h4:=h3 j hj;obtain⟨u,hu,hr⟩:=crels_get c2 j (by rw[hG];exact hj);rw[vP,vP,hu]at h4;exact⟨u,by rw[show o+(i*sz+j)=o+i*sz+j by omega];exact h4,hr⟩
theorem cell_mag {t e fuel:Nat} {cs:List Value} {x:DataW H × List MemPlace} (ht:P.underlying t=some (.slice e)) (hk:P.cellsOf e=1) (he:P.underlying e=some (.int .u32)) (h:DataW.trod enc P w 0 sp held fuel t cs=some x):∃(v:Value) (l:List Nat),cs=[v]/\CRel (fun _=>False) w [] (dsC l) v/\Dg.ok l/\l.length<=Rows.uptoBulk x.1:=by
 obtain⟨v,n,f,h1,h2,h3,h4⟩:=cell_list (G:=fun a:Nat=>[Cell.int .u32 a]) (Q:=fun a _=>a<4294967296) ht hk (by decide) (fun _=>rfl) (fun n cs' y hy=>by
  obtain⟨k,e1,hw⟩:=cell_int he hy;have hw:0<=k/\k<4294967296:=by
   simp[Lit.wf]at hw;have h1:(IntKind.u32.min:Int)=0:=by decide
   have h2:(IntKind.u32.max:Int)=4294967295:=by decide
   omega
  refine⟨k.toNat,?_,by omega⟩;subst e1;exact⟨by show Value.int .u32 k = .int .u32 (k.toNat:Int);rw[Int.toNat_of_nonneg hw.1],trivial⟩) h
 refine⟨v,(List.range n).map f,h1,?_,fun d hd=>?_,by simpa using h3⟩
 ·refine zg (by simp) (fun i j hi hj=>?_) (fun _=>False) w v h2;have hi:i<n:=by simpa using hi
  obtain rfl:=Nat.lt_one_iff.1 hj;simp[List.getD,hi]
 ·obtain⟨i,hi,rfl⟩:=List.mem_map.1 hd;obtain⟨_,h5,_⟩:=h4 i (List.mem_range.1 hi);exact h5
instance:Inhabited RawZ:=⟨⟨false,[]⟩⟩
instance:Inhabited RawR:=⟨⟨default,default⟩⟩
end
section
variable {H:Type} {enc:TypeId × Value->H} {w:World} {sp:Nat->Bool} {held:Bool}
theorem cBool:Tryz.prog.cellsOf 4=1:=by kernel_rfl
theorem cMag:Tryz.prog.cellsOf 34=1:=by kernel_rfl
theorem cU32:Tryz.prog.cellsOf 119=1:=by kernel_rfl
theorem cBig:Tryz.prog.cellsOf 36=2:=by kernel_rfl
theorem cRat:Tryz.prog.cellsOf 38=4:=by kernel_rfl
theorem one_int {n:Nat} {cs:List Value} {y:DataW H × List MemPlace} (h:DataW.trod enc Tryz.prog w 0 sp held n 36 cs=some y):∃ a:RawZ,CRels (fun _=>False) w [] (zr a) cs/\Dg.ok a.ds/\a.ds.length<=Rows.uptoBulk y.1:=by
 obtain⟨xs,m,_,rfl,hl,hlen,hf⟩:=DataW.trod_struct Tryz.underlying36 h;match xs,hlen with
 | [y0,y1],_ =>
  have h0:DataW.trod enc Tryz.prog w 0 sp held m 4 ((cs.drop 0).take (Tryz.prog.cellsOf 4))=some y0:=by simpa using hf 0 _ rfl
  have h1:DataW.trod enc Tryz.prog w 0 sp held m 34 ((cs.drop 1).take (Tryz.prog.cellsOf 34))=some y1:=by simpa using hf 1 _ rfl
  rw[cBool]at h0;rw[cMag]at h1;rw[cBig]at hl;obtain⟨s,e0,_⟩:=DataW.trod_bool Tryz.underlying4 h0;obtain⟨v,l,e1,hv,ho,hb⟩:=cell_mag Tryz.underlying34 cU32 Tryz.underlying119 h1;match cs,hl,e0,e1 with
  | [x0,x1],_,e0,e1 =>
   simp at e0 e1;subst e0 e1;refine⟨⟨s,l⟩,⟨rfl,hv,trivial⟩,ho,?_⟩;show l.length<=_;simp only[List.map,Rows.uptoBulk,Rows.uptoBulkAll];omega
theorem one_rat {n:Nat} {cs:List Value} {y:DataW H × List MemPlace} (h:DataW.trod enc Tryz.prog w 0 sp held n 38 cs=some y):∃ a:RawR,CRels (fun _=>False) w [] (rr a) cs/\Rf.dgq a:=by
 obtain⟨xs,m,_,rfl,hl,hlen,hf⟩:=DataW.trod_struct Tryz.underlying38 h;match xs,hlen with
 | [y0,y1],_ =>
  have h0:DataW.trod enc Tryz.prog w 0 sp held m 36 ((cs.drop 0).take (Tryz.prog.cellsOf 36))=some y0:=by simpa using hf 0 _ rfl
  have h1:DataW.trod enc Tryz.prog w 0 sp held m 36 ((cs.drop 2).take (Tryz.prog.cellsOf 36))=some y1:=by simpa using hf 1 _ rfl
  rw[cBig]at h0 h1;rw[cRat]at hl;obtain⟨a0,c0,d0,_⟩:=one_int h0;obtain⟨a1,c1,d1,_⟩:=one_int h1;match cs,hl,c0,c1 with
  | [x0,x1,x2,x3],_,c0,c1 =>
   exact⟨⟨a0,a1⟩,⟨c0.1,c0.2.1,c1.1,c1.2.1,trivial⟩,d0,d1⟩
end
end Go.Proofs.YtkmbnldginonbaaGreat
/- Fields and elements, opened. -/
namespace Go.Proofs.YtkmbnldginonbaaGreat
open Go.ChangeShapes Go.WideShapes Go.ChangeAt Go.RowKit
section
variable {H:Type} {enc:TypeId × Value->H} {w:World} {sp:Nat->Bool} {held:Bool}
end
end Go.Proofs.YtkmbnldginonbaaGreat
set_option maxRecDepth 100000
namespace Go.Proofs.YtkmbnldginonbaaGreat
open Go.ChangeShapes Go.WideShapes Go.ChangeAt Go.RowKit
section
variable {H:Type} {enc:TypeId × Value->H} {w:World} {sp:Nat->Bool} {held:Bool}
theorem slice_len {t e fuel:Nat} {cs:List Value} {x:DataW H × List MemPlace} {v:Value} {sz n:Nat} {f:Nat->Nat->Cell} (ht:Tryz.prog.underlying t=some (.slice e)) (h:DataW.trod enc Tryz.prog w 0 sp held fuel t cs=some x) (hc:cs=[v]) (hv:CRel (fun _=>False) w [] (.row sz n f) v):n<=9223372036854775807:=by
 obtain⟨A,c,rfl,_,_⟩:=hv;rcases DataW.trod_slice ht h with⟨e1,_⟩ | ⟨a,len,cap,elems,rest,m,_,e1,_,_,hl,hm,_⟩
 ·rw[hc]at e1;injection e1 with e2 _;injection e2 with _ e3 _;omega
 ·rw[hc]at e1;injection e1 with e2 _;injection e2 with _ e3 _;have:cap<=2^63-1:=hm;omega
theorem open_list {r:Reach} {b0 t:Nat} {v:Value} {d:DataW H} {ps:List MemPlace} (ht:Tryz.prog.underlying t=some (.slice 38)) (hval:Value.okWide Tryz.prog w r b0 t v) (hd:DataW.Trod enc Tryz.prog w 0 sp held t v d ps):∃(n:Nat) (q:Nat->RawR),n<=9223372036854775807/\VRel (fun _=>False) w [] (.c (ql n q)) v/\∀ j,j<n->Rf.dgq (q j):=by
 obtain⟨fuel,hf⟩:=hd;obtain⟨u,n,f,h1,h2,h3,h4⟩:=cell_list (G:=rr) (Q:=fun a _=>Rf.dgq a) ht cRat (by decide) (fun _=>rfl) (fun n cs' y hy=>one_rat hy) hf;have h5:=slice_len ht hf h1 h2;rw[okWide_slice ht hval]at h1;cases h1;exact⟨n,f,h5,h2,fun j hj=>(h4 j hj).elim fun _ h=>h.1⟩
theorem open_mat {r:Reach} {b0:Nat} {v:Value} {d:DataW H} {ps:List MemPlace} (hval:Value.okWide Tryz.prog w r b0 24 v) (hd:DataW.Trod enc Tryz.prog w 0 sp held 24 v d ps):∃(a b:Int) (n:Nat) (q:Nat->RawR),n<=9223372036854775807/\VRel (fun _=>False) w [] (.g [.int .i64 a,.int .i64 b,ql n q]) v/\∀ j,j<n->Rf.dgq (q j):=by
 obtain⟨cs,rfl⟩:=okWide_agg Tryz.underlying24 hval;obtain⟨fuel,hf⟩:=hd;obtain⟨y0,y1,y2,n,hl,h0,h1,h2⟩:=trod_struct3 Tryz.underlying24 hf;simp only[cellsInt,cellsRats]at h0 h1 h2;obtain⟨a,e0,_⟩:=cell_int Tryz.underlying3 h0;obtain⟨b,e1,_⟩:=cell_int Tryz.underlying3 h1;obtain⟨u,m,f,e2,hu,_,hq⟩:=cell_list (G:=rr) (Q:=fun a _=>Rf.dgq a) Tryz.underlying22 cRat (by decide) (fun _=>rfl) (fun n cs' y hy=>one_rat hy) h2;have hm:=slice_len Tryz.underlying22 h2 e2 hu;refine⟨a,b,m,f,hm,⟨cs,rfl,?_⟩,fun j hj=>(hq j hj).elim fun _ h=>h.1⟩;have hl:cs.toList.length=3:=by rw[<- cellsMat];exact hl
 change (cs.toList.drop 0).take 1=_ at e0;change (cs.toList.drop 1).take 1=_ at e1;change (cs.toList.drop 2).take 1=_ at e2;match hcs:cs.toList,hl with
 | [x,y,z],_ =>
  rw[hcs]at e0 e1 e2;simp at e0 e1 e2;subst e0;subst e1;subst e2;exact⟨rfl,rfl,hu,trivial⟩
end
end Go.Proofs.YtkmbnldginonbaaGreat
namespace Go.Proofs.YtkmbnldginonbaaGreat
open Go.ChangeShapes Go.WideShapes Go.ChangeAt Go.RowKit
namespace Mx
open Rf
theorem short_wq {N:Nat} {q:Nat->RawR} (hs:shq N q) (hd:∀ i,i<N->dgq (q i)) (i:Nat) (hi:i<N):(q i).Fit 1/\wq (q i)/\qB (q i).num.val<=65535/\qB (q i).den.val<=65535:=by
 have f:(q i).Fit 1:=⟨(hd i hi).1,(hd i hi).2,(hs i hi).1,(hs i hi).2⟩;have a:=f.zn;have b:=f.zd;have c:=hs i hi;exact⟨f,⟨⟨⟨(hd i hi).1,by omega⟩,⟨(hd i hi).2,by omega⟩⟩,by omega,by omega⟩,by omega,by omega⟩
open Classical in
theorem po_ok {len N:Nat} {r c:Int} {p qv:Nat->RawR} (hl:len<=9223372036854775807) (dp:∀ i,i<len->dgq (p i)) (hN:N<=9223372036854775807) (dv:∀ i,i<N->dgq (qv i)):FnOK Tryz.prog true 5 [.g [.int .i64 r,.int .i64 c,ql len p],.c (ql N qv)] (.c (.bool true)):=by
 have hLIM:LIM=1099511627776:=rfl;have h1:=light11_ok (m:=5) (r:=r) (c:=c) (len:=len) (q:=p) hl;by_cases g1:lite11 5 r c len p
 ·rw[decide_eq_true g1]at h1;obtain⟨⟨u1,u2,u3,u4,u5⟩,e1,e2,e3⟩:=g1;obtain⟨n,rfl⟩:∃ n:Nat,r=n:=⟨r.toNat,by omega⟩;obtain rfl:c=n:=e1.symm;obtain rfl:len=n*n:=by
   have:(len:Int)=((n*n:Nat):Int):=by rw[u5,Int.natCast_mul]
   exact Int.ofNat.inj this
  have hn:n<=5:=by omega
  have hnn:n*n<=25:=Nat.mul_le_mul hn hn;by_cases hNn:N=n
  ·subst hNn;by_cases hs:shq N qv
   ·have h2:FnOK Tryz.prog true 15 [.c (ql N qv)] (.c (.bool true)):=short11_ok (by omega) ⟨fun _=>hs,fun _=>rfl⟩;obtain⟨D,d0,d1,d2⟩:=short_fits dp e3;obtain⟨F,f0,f1,f2⟩:=short_fits dv hs;obtain⟨A,hA⟩:∃ A:Nat->Nat->Rat,∀ i j,(p (i*N+j)).val=A i j:=⟨_,fun _ _=>rfl⟩;obtain⟨v,hv⟩:∃ v:Nat->Rat,∀ i,(qv i).val=v i:=⟨_,fun _=>rfl⟩;have hS:Sm5 N A D (32*(N*N)):=⟨hn,by omega,d0,d1,fun i j hi hj=>by
     rw[<- hA];exact d2 _ (mat_idx hi hj).1⟩
    have wp:=short_wq e3 dp;have wv:=short_wq hs dv;have hK:∀ k,k<N*N->(p k).Fit KD:=fun k hk=>(wp k hk).1.mono (by decide);have eF:2^(32*N)<=2^xU:=kV (show 32*N<=160 by omega);have hF:F<=2^xU:=Nat.le_trans f1 eF;have hvF:∀ i,i<N->Fits F (2^xU) (v i):=fun i hi=>by
     rw[<- hv];exact(f2 i hi).mono eF
    have lv:∀ t j,t<=5->j<N->qlen (av N A v t j)<=131:=fun t j ht hj=>(rowF_av hS f0 hF hvF ht).len (by decide) hj;have hB:=pb_lit hn;have kc:=charpoly_ok (n:=N) (p:=p) (A:=A) (L:=1) hn (fun k hk=>(wp k hk).1) (Nat.le_refl 1) (fun i j _ _=>hA i j) (by omega);have hc:Newt N A (chp N A).f:=newt_hsn N A;obtain⟨μ,hμ,km⟩:=min_ok hS hK fun i j _ _=>hA i j;obtain⟨g,hg,hgl,-,ka0⟩:=ann_ok (n:=N) (p:=p) (A:=A) (v:=v) (L:=131) (by omega) hK (fun i j _ _=>hA i j) (fun i j hi hj=>Nat.le_trans (hS.one hi hj) (by decide)) (fun t j ht hj=>lv t j (by omega) hj) (by decide) (by decide) fun t i j ht hi hj=>Nat.le_trans (hS.part (L:=131) (by decide) (by decide) (fun a ha=>lv t a (by omega) ha) hi hj) (by decide);have ka:=pann_walk (n:=N) (N:=g.len) (p:=p) (qv:=qv) (v:=v) (g:=g.f) (by omega) (fun i hi=>by
     have:=wV (q:=qv i) (L:=1) (wv i hi).1 (by omega);rwa [hv]at this) ka0
    have rc:=rchar_ok hS (fun a ha=>(wp a ha).2.1) (fun i j _ _=>hA i j) hc;obtain⟨lm,rm⟩:=rmin_ok hS (fun a ha=>(wp a ha).2.1) (fun i j _ _=>hA i j) hμ;obtain⟨lg,ra⟩:=rann_ok hS (fun a ha=>(wp a ha).2.1) (fun i j _ _=>hA i j) f0 hF hvF (fun i hi=>⟨(wv i hi).2.1,(wv i hi).2.2.1,(wv i hi).2.2.2,hv i⟩) hg hgl;have hml:=hμ.len (Nat.le_refl N);exact po_yes h1 h2 kc km ka rc.weak rm.weak ra.weak (sameRats_n (n:=N+1) (v:=(chp N A).f) (by omega) fun i _=>Nat.le_trans (newt_size hS hc i) (by decide)).weak (sameRats_n (n:=μ.len) (v:=μ.f) (by omega) fun i hi=>Nat.le_trans (lm i hi) (by decide)).weak (sameRats_n (n:=g.len) (v:=g.f) (by omega) fun i hi=>Nat.le_trans (lg i hi) (by decide)).weak
   ·exact po_long h1 (short11_ok hN ⟨fun h=>absurd h (by decide),fun h=>absurd h hs⟩)
  ·exact po_len hNn h1
 ·rw[decide_eq_false g1]at h1;exact po_no h1
end Mx
section
variable {H:Type} {enc:TypeId × Value->H} {w:World} {sp:Nat->Bool} {held:Bool}
set_option maxRecDepth 100000 in
theorem walk_CharpolyPolynomials {H : Type} {enc : TypeId × Value → H} {W : World} {base : Nat} {v0 v1 : Value} {d0 d1 : DataW H} {p0 p1 : List MemPlace}
  (u0:Value.okWide Tryz.prog W .any base 24 v0) (h0:DataW.Trod enc Tryz.prog W 0 (fun _=>true) true 24 v0 d0 p0)
  (u1:Value.okWide Tryz.prog W .any base 22 v1) (h1:DataW.Trod enc Tryz.prog W 0 (fun _=>true) true 22 v1 d1 p1) :
  Calls Tryz.prog 5 #[v0,v1] W fun e w'=>e = .returned (.bool true)/\Below W.heap.size W w':=by
 obtain⟨r,c,len,p,hl,g0,dp⟩:=open_mat u0 h0;obtain⟨N,q,hN,g1,dq⟩:=open_list Tryz.underlying22 u1 h1;exact law_call (vs:=[v0,v1]) (Mx.po_ok (r:=r) (c:=c) hl dp hN dq) ⟨g0,g1,trivial⟩
end
end Go.Proofs.YtkmbnldginonbaaGreat
