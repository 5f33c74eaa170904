/- charpoly.reduced: the reduction of a vector and its polynomial by known ones. -/
import Derived.Test.YtkmbnldginonbaaGreatPo13
import Derived.Test.YtkmbnldginonbaaGreatPo1
namespace Go.Proofs.YtkmbnldginonbaaGreat
open Go.RowKit
namespace Mx
open Rf
abbrev tiK:TI:=⟨true,3,[.nil,.int .i64 0,.nil],56,[some (0,1),some (1,1),some (2,1)],none,none,3⟩
abbrev tiKs:TI:=⟨false,1,[.nil],24,[],some 130,none,0⟩
noncomputable def tyK (T:Nat):Option TI:=if T == 130 then some tiK else if T == 126 then some tiKs else tyE T
noncomputable def E1k:Env:=⟨Tryz.prog,true,tyK,0⟩
theorem tyK1:yf Tryz.prog 130=some tiK:=by kernel_rfl
theorem tyK2:yf Tryz.prog 126=some tiKs:=by kernel_rfl
theorem tyK_ok (T:Nat) (ti:TI) (h:tyK T=some ti):yf Tryz.prog T=some ti:=by
 unfold tyK at h;split at h
 ·next e =>
  rw[beq_iff_eq.1 e,<- h];exact tyK1
 ·split at h
  ·next e =>
   rw[beq_iff_eq.1 e,<- h];exact tyK2
  ·exact tyE_ok T ti h
theorem kJ:EnvOK E1k:=⟨tyK_ok⟩
noncomputable def E1km:Env:=⟨Tryz.prog,true,tyK,1⟩
theorem ky:EnvOK E1km:=⟨tyK_ok⟩
theorem FnT.m {P:Program} {r:Bool} {f:FuncId} {B B':Blk} {fresh:List Blk} {args:List V} {X:V} (h:FnT P r f 1 [B] args X (B' :: fresh)):FnM P r f B args X B' fresh:=⟨h.1,fun D w0 l w vs hs hv=>(h.2 D w0 [l] w vs hs hv).mono fun e w' ⟨v,ρ',he,hs',hl,hr⟩=>by
 match ρ',hs'.len with
 | [],hlen=>simp at hlen
 | l' :: ρ'',_=>exact⟨v,l',ρ'',he,hs',fun i x hx=>by
   match i,hx with
   | 0,hx =>
    obtain⟨y,hy,k⟩:=hl 0 x hx;exact⟨y,hy,k⟩,hr⟩⟩
abbrev V7 (n:Nat) (kv kq:Nat->Nat->Rat) (kp:Nat->Nat) (i:Nat):List Cell:=[nql n (kv i),.int .i64 (kp i:Nat),nql (i+1) (kq i)]
abbrev kcF (n:Nat) (kv kq:Nat->Nat->Rat) (kp:Nat->Nat):Nat->Nat->Cell:=fun i y=>(V7 n kv kq kp i).getD y .any
abbrev kcl (n m:Nat) (kv kq:Nat->Nat->Rat) (kp:Nat->Nat):Cell := .row 3 m (kcF n kv kq kp)
abbrev kcB (n m:Nat) (kv kq:Nat->Nat->Rat) (kp:Nat->Nat):Gx:=⟨130,3,m,kcF n kv kq kp⟩
theorem zZ {n:Nat} {kv kq:Nat->Nat->Rat} {kp:Nat->Nat} {i y:Nat} (hy:y<3):(kcF n kv kq kp i y).clos=true:=by
 match y,hy with
 | 0,_=>rfl
 | 1,_=>rfl
 | 2,_=>rfl
structure Rdk (n m : Nat) (W G kv kq : Nat → Nat → Rat) (kp : Nat → Nat) (L : Nat) : Prop where
 p:∀ i,i<m->kp i<n
 lW:∀ i j,i<=m->j<n->qlen (W i j)<=L
 lG:∀ i j,i<=m->j<m+1->qlen (G i j)<=L
 lv:∀ i j,i<m->j<n->qlen (kv i j)<=L
 lq:∀ i j,i<m->j<i+1->qlen (kq i j)<=L
 sW:∀ i j,i<m->j<n->W i j-W i (kp i)*kv i j=W (i+1) j
 sG:∀ i j,i<m->j<m+1->G i j-kq i j*W i (kp i)=G (i+1) j
 zq:∀ i j,i<m->i<j->kq i j=0
 gt:∀ i,i<=m->G i m=1
theorem reg_nq {q:Nat} {bl:List Blk} {ks:List (Option Nat)} {n:Nat} {v w:Nat->Rat} (h:∀ i,i<n->w i=v i):gP q bl ks (.c (nql n w)) (.c (nql n v)) := .inl ⟨_,_,rfl,rfl,fun i j hi _=>congrArg (fun x=>(rr (ofR x)).getD j .any) (h i hi)⟩
theorem rat_one_ne:(1:Rat)≠0:=by decide
set_option maxRecDepth 100000 in
set_option maxHeartbeats 16000000 in
theorem red_ok {n m:Nat} {W G kv kq:Nat->Nat->Rat} {kp:Nat->Nat} {L:Nat} (hn:n<=1000) (hm:m<=100) (h:Rdk n m W G kv kq kp L) (h1:1<=L) (hL:8*L+32<=LIM):FnM Tryz.prog true 113 (gb (kcB n m kv kq kp)) [.c (.gs 0 0),.c (nql n (W 0)),.c (nql (m+1) (G 0))] (.t2 (.c (nql n (W m))) (.c (nql (m+1) (G m)))) (gb (kcB n m kv kq kp)) []:=by
 have knz:∀ i,i<m->FnOK Tryz.prog true 47 [.g (nq (W i (kp i)))] (.c (.bool (decide (W i (kp i)≠0)))):=fun i hi=>nz_ok (h.lW i _ (by omega) (h.p i hi)) (by omega);have kmul:∀ i j,i<m->j<n->FnOK Tryz.prog true 46 [.g (nq (W i (kp i))),.g (nq (kv i j))] (.g (nq (W i (kp i)*kv i j))):=fun i j hi hj=>Uf (h.lW i _ (by omega) (h.p i hi)) (h.lv i j hi hj) (by omega) rfl;have ksub:∀ i j,i<m->j<n->FnOK Tryz.prog true 50 [.g (nq (W i j)),.g (nq (W i (kp i)*kv i j))] (.g (nq (W (i+1) j))):=fun i j hi hj=>qsub_n (h.lW i j (by omega) hj) (kb (h.lW i _ (by omega) (h.p i hi)) (h.lv i j hi hj) (by omega)) (by omega) (by omega) (h.sW i j hi hj);have ksc:∀ i,i<m->FnOK Tryz.prog true 44 [.c (nql (i+1) (kq i)),.g (nq (W i (kp i)))] (.c (nql (Q.tq (fun t=>kq i t*W i (kp i)) (i+1)) fun t=>kq i t*W i (kp i))):=fun i hi=>gj (by omega) (fun j hj=>h.lq i j hi hj) (h.lW i _ (by omega) (h.p i hi)) (by omega);have ksb:∀ i,i<m->FnOK Tryz.prog true 42 [.c (nql (m+1) (G i)),.c (nql (Q.tq (fun t=>kq i t*W i (kp i)) (i+1)) fun t=>kq i t*W i (kp i))] (.c (nql (m+1) (G (i+1)))):=fun i hi=>sub_step (L:=2*L) (by omega) (by omega) (by omega) (fun j hj=>Nat.le_trans (h.lG i j (by omega) hj) (by omega)) (fun j hj=>Nat.le_trans (kb (h.lq i j hi hj) (h.lW i _ (by omega) (h.p i hi)) (by omega)) (by omega)) (by omega) (by omega) (fun t ht=>by rw[h.zq i t hi (by omega),Rat.zero_mul]) (fun j hj=>h.sG i j hi hj) (by rw[Nat.add_sub_cancel,h.gt (i+1) (by omega)];exact rat_one_ne);have hsk:∀ i,i<m->W i (kp i)=0->(∀ j,j<n->W i j=W (i+1) j)/\∀ j,j<m+1->G i j=G (i+1) j:=fun i hi e=>⟨fun j hj=>by rw[<- h.sW i j hi hj,e,Rat.zero_mul,Rat.sub_eq_add_neg,Rat.neg_zero,Rat.add_zero],fun j hj=>by rw[<- h.sG i j hi hj,e,Rat.mul_zero,Rat.sub_eq_add_neg,Rat.neg_zero,Rat.add_zero]⟩;have hp:=h.p;clear h h1;refine FnT.m ?_;refine jX (E:=E1km) ky Tryz.func113 rfl (by kernel_rfl) ?_;refine qf ky mixed (by kernel_rfl) ?_;conv=>whnf
 refine qF (fun _:Unit=>gst [(1,.c (nql n (W m))),(2,.c (nql (m+1) (G m)))] [kcB n m kv kq kp]) (fun _=>True) ?_ fun _ _=>?_;rotate_left
 ·refine qJ ky mixed (by kernel_rfl) ?_;conv=>whnf
  exact Weak.genT (tl:=[(0,.t2 (.c (nql n (W m))) (.c (nql (m+1) (G m))))]) (xs:=[kcB n m kv kq kp]) [some 0] rfl rfl ⟨_,rfl,rfl,Nat.zero_le 1⟩ ⟨⟨_,rfl,rfl,rfl,rfl,rfl,fun x y hx hy=>qY rfl (zZ hy)⟩,trivial⟩ ⟨⟨rfl,rfl⟩,trivial⟩
 refine qy ky mixed (by kernel_rfl) ?_;conv=>whnf
 refine⟨(fun i:Nat=>gst [(1,.c (nql n (W i))),(2,.c (nql (m+1) (G i))),(13,.c (.gs 0 0)),(14,.c (.int .i64 ((m:Nat):Int))),(15,.c (.int .i64 ((i:Nat):Int)))] [kcB n m kv kq kp]) 0,Weak.genT [some 0] rfl rfl ⟨_,rfl,rfl,Nat.zero_le 1⟩ ⟨⟨_,rfl,rfl,rfl,rfl,rfl,fun x y hx hy=>qY rfl (zZ hy)⟩,trivial⟩ ⟨rO rfl,rO rfl,⟨_,rfl,rfl,rfl⟩,⟨_,rfl,rfl⟩,⟨_,rfl,rfl⟩,trivial⟩,?_⟩;refine qq (qZ (fun i:Nat=>gst [(1,.c (nql n (W i))),(2,.c (nql (m+1) (G i))),(13,.c (.gs 0 0)),(14,.c (.int .i64 ((m:Nat):Int))),(15,.c (.int .i64 ((i:Nat):Int)))] [kcB n m kv kq kp]) (fun i=>m-i) (fun i=>i<=m) 0 (Weak.refl _) (Nat.zero_le m) fun i hi=>?_);have i0:(0:Int)<=(i:Int):=by omega
 refine qf ky mixed (by kernel_rfl) ?_;conv=>whnf
 refine qy ky mixed (by kernel_rfl) ?_;conv=>whnf
 refine qg (fun(g:decide ((i:Int)<(m:Int))=true)=>?_) fun(g:decide ((i:Int)<(m:Int))=false)=>?_;rotate_left
 ·have g:=of_decide_eq_false g;obtain rfl:i=m:=by have hi:i<=m:=hi;omega
  conv=>whnf
  exact⟨(),trivial,Weak.genT [some 0] rfl rfl ⟨_,rfl,rfl,Nat.zero_le 1⟩ ⟨⟨_,rfl,rfl,rfl,rfl,rfl,fun x y hx hy=>qY rfl (zZ hy)⟩,trivial⟩ ⟨rO rfl,rO rfl,trivial⟩⟩
 have g:=of_decide_eq_true g;have i1:(i:Int)<(m:Int):=g;have him:i<m:=by omega
 have knz:=knz i him;have kmul:=fun j=>kmul i j him;have ksub:=fun j=>ksub i j him;have ksc:=ksc i him;have ksb:=ksb i him;have hsk:=hsk i him;have hp:=hp i him;conv=>whnf
 refine⟨gst [(1,.c (nql n (W i))),(2,.c (nql (m+1) (G i))),(13,.c (.gs 0 0)),(14,.c (.int .i64 ((m:Nat):Int))),(15,.c (.int .i64 ((i:Nat):Int)))] [kcB n m kv kq kp],Weak.genT [some 0] rfl rfl ⟨_,rfl,rfl,Nat.zero_le 1⟩ ⟨⟨_,rfl,rfl,rfl,rfl,rfl,fun x y hx hy=>qY rfl (zZ hy)⟩,trivial⟩ ⟨rO rfl,rO rfl,⟨_,rfl,rfl,rfl⟩,⟨_,rfl,rfl⟩,⟨_,rfl,rfl⟩,trivial⟩,?_⟩;refine qF (fun _:Unit=>gst [(1,.c (nql n (W (i+1)))),(2,.c (nql (m+1) (G (i+1)))),(13,.c (.gs 0 0)),(14,.c (.int .i64 ((m:Nat):Int))),(15,.c (.int .i64 ((i:Nat):Int)))] [kcB n m kv kq kp]) (fun _=>True) ?_ fun _ _=>?_;rotate_left
 ·refine qJ ky mixed (by kernel_rfl) ?_;conv=>whnf
  refine⟨qz (by omega) (by omega),?_⟩;conv=>whnf
  exact⟨i+1,by omega,Weak.genT [some 0] rfl rfl ⟨_,rfl,rfl,Nat.zero_le 1⟩ ⟨⟨_,rfl,rfl,rfl,rfl,rfl,fun x y hx hy=>qY rfl (zZ hy)⟩,trivial⟩ ⟨rO rfl,rO rfl,⟨_,rfl,rfl,rfl⟩,⟨_,rfl,rfl⟩,⟨_,rfl,rfl⟩,trivial⟩,him⟩
 refine qq ?_;refine qy ky mixed (by kernel_rfl) ?_;conv=>whnf
 refine⟨i0,i1,?_⟩;conv=>whnf
 refine⟨gst [(1,.c (nql n (W i))),(2,.c (nql (m+1) (G i))),(13,.c (.gs 0 0)),(14,.c (.int .i64 ((m:Nat):Int))),(15,.c (.int .i64 ((i:Nat):Int))),(9,.c (.p 1 0 3 0 0))] [kcB n m kv kq kp,⟨130,3,1,qk (V7 n kv kq kp i)⟩],Weak.genT [some 0,some 1] rfl rfl ⟨_,rfl,rfl,Nat.zero_le 1⟩ ⟨⟨_,rfl,rfl,rfl,rfl,rfl,fun x y hx hy=>qY rfl (zZ hy)⟩,Rf.boxU rfl rfl rfl,trivial⟩ ⟨rO rfl,rO rfl,⟨_,rfl,rfl,rfl⟩,⟨_,rfl,rfl⟩,⟨_,rfl,rfl⟩,⟨_,rfl,rfl,rfl⟩,trivial⟩,?_⟩;refine qy ky mixed (by kernel_rfl) ?_;conv=>whnf
 refine⟨by omega,by show((kp i:Nat):Int)<((n:Nat):Int);omega,?_⟩;conv=>whnf
 refine⟨gst [(1,.c (nql n (W i))),(2,.c (nql (m+1) (G i))),(13,.c (.gs 0 0)),(14,.c (.int .i64 ((m:Nat):Int))),(15,.c (.int .i64 ((i:Nat):Int))),(9,.c (.p 1 0 3 0 0)),(10,.c (.p 2 0 4 0 0))] [kcB n m kv kq kp,⟨130,3,1,qk (V7 n kv kq kp i)⟩,⟨38,4,1,qk (nq (W i (kp i)))⟩],Weak.genT [some 0,some 1,some 2] rfl rfl ⟨_,rfl,rfl,Nat.zero_le 1⟩ ⟨⟨_,rfl,rfl,rfl,rfl,rfl,fun x y hx hy=>qY rfl (zZ hy)⟩,Rf.boxK rfl rfl,Rf.boxU rfl rfl rfl,trivial⟩ ⟨rO rfl,rO rfl,⟨_,rfl,rfl,rfl⟩,⟨_,rfl,rfl⟩,⟨_,rfl,rfl⟩,⟨_,rfl,rfl,rfl⟩,⟨_,rfl,rfl,rfl⟩,trivial⟩,?_⟩;refine qy ky mixed (by kernel_rfl) ?_;conv=>whnf
 refine⟨_,knz,?_⟩;conv=>whnf
 refine qg (fun(g:(!decide (W i (kp i)≠0))=true)=>?_) fun(g:(!decide (W i (kp i)≠0))=false)=>?_
 ·have h0:W i (kp i)=0:=by simpa using g
  obtain⟨w1,w2⟩:=hsk h0;conv=>whnf
  exact⟨(),trivial,Weak.genT [some 0] rfl rfl ⟨_,rfl,rfl,Nat.zero_le 1⟩ ⟨⟨_,rfl,rfl,rfl,rfl,rfl,fun x y hx hy=>qY rfl (zZ hy)⟩,trivial⟩ ⟨reg_nq fun x hx=>w1 x hx,reg_nq fun x hx=>w2 x hx,⟨_,rfl,rfl,rfl⟩,⟨_,rfl,rfl⟩,⟨_,rfl,rfl⟩,trivial⟩⟩
 conv=>whnf
 refine⟨gst [(1,.c (nql n (W i))),(2,.c (nql (m+1) (G i))),(13,.c (.gs 0 0)),(14,.c (.int .i64 ((m:Nat):Int))),(15,.c (.int .i64 ((i:Nat):Int))),(9,.c (.p 1 0 3 0 0)),(10,.c (.p 2 0 4 0 0))] [kcB n m kv kq kp,⟨130,3,1,qk (V7 n kv kq kp i)⟩,⟨38,4,1,qk (nq (W i (kp i)))⟩],Weak.genT [some 0,some 1,some 2] rfl rfl ⟨_,rfl,rfl,Nat.zero_le 1⟩ ⟨⟨_,rfl,rfl,rfl,rfl,rfl,fun x y hx hy=>qY rfl (zZ hy)⟩,Rf.boxK rfl rfl,Rf.boxK rfl rfl,trivial⟩ ⟨rO rfl,rO rfl,⟨_,rfl,rfl,rfl⟩,⟨_,rfl,rfl⟩,⟨_,rfl,rfl⟩,⟨_,rfl,rfl,rfl⟩,⟨_,rfl,rfl,rfl⟩,trivial⟩,?_⟩;refine qy ky mixed (by kernel_rfl) ?_;conv=>whnf
 refine⟨by omega,Int.le_refl _,by omega,by show(64:Int)*n<=281474976710656;omega,?_⟩;conv=>whnf
 refine⟨gst [(1,.c (nql n (W i))),(2,.c (nql (m+1) (G i))),(13,.c (.gs 0 0)),(14,.c (.int .i64 ((m:Nat):Int))),(15,.c (.int .i64 ((i:Nat):Int))),(9,.c (.p 1 0 3 0 0)),(10,.c (.p 2 0 4 0 0)),(11,.c (.gs 3 0))] [kcB n m kv kq kp,⟨130,3,1,qk (V7 n kv kq kp i)⟩,⟨38,4,1,qk (nq (W i (kp i)))⟩,gqp n (W (i+1)) 0],Weak.genT [some 0,some 1,some 2,some 3] rfl rfl ⟨_,rfl,rfl,Nat.zero_le 1⟩ ⟨⟨_,rfl,rfl,rfl,rfl,rfl,fun x y hx hy=>qY rfl (zZ hy)⟩,Rf.boxK rfl rfl,Rf.boxK rfl rfl,⟨_,rfl,rfl,rfl,by show Int.toNat n=n;omega,rfl,fun k j hk hj=>qY (congrArg (fun l=>l.getD j .any) (gV (W (i+1)) k).symm) (z5 k j)⟩,trivial⟩ ⟨rO rfl,rO rfl,⟨_,rfl,rfl,rfl⟩,⟨_,rfl,rfl⟩,⟨_,rfl,rfl⟩,⟨_,rfl,rfl,rfl⟩,⟨_,rfl,rfl,rfl⟩,⟨_,rfl,rfl,rfl⟩,trivial⟩,?_⟩;refine qF (fun _:Unit=>gst [(1,.c (nql n (W i))),(2,.c (nql (m+1) (G i))),(13,.c (.gs 0 0)),(14,.c (.int .i64 ((m:Nat):Int))),(15,.c (.int .i64 ((i:Nat):Int))),(9,.c (.p 1 0 3 0 0)),(10,.c (.p 2 0 4 0 0)),(11,.c (nql n (W (i+1))))] [kcB n m kv kq kp,⟨130,3,1,qk (V7 n kv kq kp i)⟩,⟨38,4,1,qk (nq (W i (kp i)))⟩]) (fun _=>True) ?_ fun _ _=>?_;rotate_left
 ·refine qJ ky mixed (by kernel_rfl) ?_;conv=>whnf
  refine⟨_,ksc,?_⟩;conv=>whnf
  refine⟨_,ksb,?_⟩;conv=>whnf
  exact⟨(),trivial,Weak.genT [some 0] rfl rfl ⟨_,rfl,rfl,Nat.zero_le 1⟩ ⟨⟨_,rfl,rfl,rfl,rfl,rfl,fun x y hx hy=>qY rfl (zZ hy)⟩,trivial⟩ ⟨rO rfl,rO rfl,⟨_,rfl,rfl,rfl⟩,⟨_,rfl,rfl⟩,⟨_,rfl,rfl⟩,trivial⟩⟩
 refine qy ky mixed (by kernel_rfl) ?_;conv=>whnf
 refine⟨(fun j:Nat=>gst [(1,.c (nql n (W i))),(2,.c (nql (m+1) (G i))),(13,.c (.gs 0 0)),(14,.c (.int .i64 ((m:Nat):Int))),(15,.c (.int .i64 ((i:Nat):Int))),(9,.c (.p 1 0 3 0 0)),(10,.c (.p 2 0 4 0 0)),(11,.c (.gs 3 0)),(31,.c (.int .i64 ((n:Nat):Int))),(32,.c (.int .i64 ((j:Nat):Int)))] [kcB n m kv kq kp,⟨130,3,1,qk (V7 n kv kq kp i)⟩,⟨38,4,1,qk (nq (W i (kp i)))⟩,gqp n (W (i+1)) j]) 0,Weak.genT [some 0,some 1,some 2,some 3] rfl rfl ⟨_,rfl,rfl,Nat.zero_le 1⟩ ⟨⟨_,rfl,rfl,rfl,rfl,rfl,fun x y hx hy=>qY rfl (zZ hy)⟩,Rf.boxK rfl rfl,Rf.boxK rfl rfl,⟨_,rfl,rfl,rfl,rfl,rfl,fun k j hk hj=>qY rfl (z5 k j)⟩,trivial⟩ ⟨rO rfl,rO rfl,⟨_,rfl,rfl,rfl⟩,⟨_,rfl,rfl⟩,⟨_,rfl,rfl⟩,⟨_,rfl,rfl,rfl⟩,⟨_,rfl,rfl,rfl⟩,⟨_,rfl,rfl,rfl⟩,⟨_,rfl,rfl⟩,⟨_,rfl,rfl⟩,trivial⟩,?_⟩;refine qq (qZ (fun j:Nat=>gst [(1,.c (nql n (W i))),(2,.c (nql (m+1) (G i))),(13,.c (.gs 0 0)),(14,.c (.int .i64 ((m:Nat):Int))),(15,.c (.int .i64 ((i:Nat):Int))),(9,.c (.p 1 0 3 0 0)),(10,.c (.p 2 0 4 0 0)),(11,.c (.gs 3 0)),(31,.c (.int .i64 ((n:Nat):Int))),(32,.c (.int .i64 ((j:Nat):Int)))] [kcB n m kv kq kp,⟨130,3,1,qk (V7 n kv kq kp i)⟩,⟨38,4,1,qk (nq (W i (kp i)))⟩,gqp n (W (i+1)) j]) (fun j=>n-j) (fun j=>j<=n) 0 (Weak.refl _) (Nat.zero_le n) fun j hj=>?_);have kmul:=kmul j;have ksub:=ksub j;have hj:j<=n:=hj;have j0:(0:Int)<=(j:Int):=by omega
 refine qJ ky mixed (by kernel_rfl) ?_;conv=>whnf
 refine qg (fun(g:decide ((j:Int)<(n:Int))=true)=>?_) fun(g:decide ((j:Int)<(n:Int))=false)=>?_
 ·have g:=of_decide_eq_true g;have j1:(j:Int)<(n:Int):=g;have kmul:=kmul (by omega);have ksub:=ksub (by omega);conv=>whnf
  repeat (refine⟨by first | exact j0 | exact j1,?_⟩;conv=>whnf)
  refine⟨_,kmul,?_⟩;conv=>whnf
  repeat (refine⟨by first | exact j0 | exact j1,?_⟩;conv=>whnf)
  refine⟨_,ksub,?_⟩;conv=>whnf
  repeat (refine⟨by first | exact j0 | exact j1,?_⟩;conv=>whnf)
  refine⟨qz (by omega) (by omega),?_⟩;conv=>whnf
  exact⟨j+1,by omega,Weak.genT [some 0,some 1,some 2,some 3] rfl rfl ⟨_,rfl,rfl,Nat.zero_le 1⟩ ⟨⟨_,rfl,rfl,rfl,rfl,rfl,fun x y hx hy=>qY rfl (zZ hy)⟩,Rf.boxK rfl rfl,Rf.boxK rfl rfl,⟨_,rfl,rfl,rfl,rfl,rfl,fun k y hk hy=>qY (WZ (sz:=4) (g:=qpF (W (i+1)) j) (g':=qpF (W (i+1)) (j+1)) (l:=nq (W (i+1) j)) rfl hy (y6 (W (i+1)) j k)) (z5 k y)⟩,trivial⟩ ⟨rO rfl,rO rfl,⟨_,rfl,rfl,rfl⟩,⟨_,rfl,rfl⟩,⟨_,rfl,rfl⟩,⟨_,rfl,rfl,rfl⟩,⟨_,rfl,rfl,rfl⟩,⟨_,rfl,rfl,rfl⟩,⟨_,rfl,rfl⟩,⟨_,rfl,rfl⟩,trivial⟩,by omega⟩
 ·have g:=of_decide_eq_false g;obtain rfl:j=n:=by omega
  conv=>whnf
  exact⟨(),trivial,Weak.genT [some 0,some 1,some 2] rfl rfl ⟨_,rfl,rfl,Nat.zero_le 1⟩ ⟨⟨_,rfl,rfl,rfl,rfl,rfl,fun x y hx hy=>qY rfl (zZ hy)⟩,Rf.boxK rfl rfl,Rf.boxK rfl rfl,trivial⟩ ⟨rO rfl,rO rfl,⟨_,rfl,rfl,rfl⟩,⟨_,rfl,rfl⟩,⟨_,rfl,rfl⟩,⟨_,rfl,rfl,rfl⟩,⟨_,rfl,rfl,rfl⟩,.inr (.inr ⟨3,_,rfl,rfl,rfl,rfl,Nat.zero_le _,rfl,rfl,fun x y hx hy=>⟨V5 hx y,Uw _ x y⟩⟩),trivial⟩⟩
abbrev gR (n:Nat) (H:Nat->Nat->Rat):Gx:=⟨22,1,n,fun i _=>nql n (H i)⟩
abbrev gL (k:Nat) (P:Nat->Nat->Rat):Gx:=⟨27,1,k,fun i _=>nql (i+1) (P i)⟩
theorem xy {q:Nat} {bl:List Blk} {ks:List (Option Nat)} {P:Nat->Nat->Rat} {i:Nat}:zF q bl ks (nql (i+1) (P i)) fun y=>nql (i+1) (P i)=y := .inl ⟨_,_,rfl,rfl,fun _ _ _ _=>rfl⟩
theorem poly_app {q:Nat} {bl:List Blk} {ks:List (Option Nat)} {P:Nat->Nat->Rat} {k i j:Nat} {v:Nat->Rat} (hv:∀ x,x<k+1->v x=P k x) (hi:i<k+1) (hj:j<1):zF q bl ks (nql (i+1) (P i)) fun y=>zB k (fun i _=>nql (i+1) (P i)) (xJ 1 [nql (k+1) v]) i j=y:=by
 obtain rfl:j=0:=by omega
 unfold zB;by_cases h:i<k
 ·rw[if_pos h];exact .inl ⟨_,_,rfl,rfl,fun _ _ _ _=>rfl⟩
 ·rw[if_neg h];obtain rfl:i=k:=by omega
  rw[Nat.sub_self];exact .inl ⟨_,_,rfl,rfl,fun x y hx _=>congrArg (fun z=>(rr (ofR z)).getD y .any) (hv x hx)⟩
theorem poly_first {q:Nat} {bl:List Blk} {ks:List (Option Nat)} {P:Nat->Nat->Rat} (hp:∀ x,x<1->(1:Rat)=P 0 x):zF q bl ks (nql (0+1) (P 0)) fun y=>xJ 1 [nql 1 fun _=>1] 0 0=y := .inl ⟨_,_,rfl,rfl,fun x y hx _=>congrArg (fun z=>(rr (ofR z)).getD y .any) (hp x hx)⟩
theorem one_poly {bl:List Blk} {r:Prop} {k:Nat} {v:Nat->Rat} {x y:Nat} (hx:x<1) (hy:y<1):St.one bl (xJ 1 [nql k v] x y)=true/\(r->(xJ 1 [nql k v] x y).noU=true):=by
 obtain rfl:x=0:=by omega
 obtain rfl:y=0:=by omega
 exact⟨rfl,fun _=>rfl⟩
theorem box_eq {q k t u:Nat} {bl:List Blk} {ks:List (Option Nat)} {x y:Rat} (e:x=y) (h:bl[k]? = some ⟨t,4,1,u,0,qk (nq x)⟩:=by rfl):yZ q bl ks ⟨t,4,1,qk (nq y)⟩ (some k):=by
 subst e;exact Rf.boxK h rfl
theorem reg_nql {q:Nat} {bl:List Blk} {ks:List (Option Nat)} {n:Nat} {v w:Nat->Rat} (h:∀ i,i<n->w i=v i):gP q bl ks (.c (nql n w)) (.c (nql n v)) := .inl ⟨_,_,rfl,rfl,fun i j hi _=>congrArg (fun x=>(rr (ofR x)).getD j .any) (h i hi)⟩

structure Ch (n : Nat) (H W D P : Nat → Nat → Rat) (N : Nat → Nat → Nat → Rat) (K Bd : Nat) : Prop where
 hH:Bq n K H
 hW:∀ i k,i<=k->k<n->qlen (W i k)<=7*K
 hD:∀ i k,i<=k->k<n->qlen (D i k)<=6*K
 hN:∀ k,k<n->∀ i,i<=k->∀ j,qlen (N k i j)<=Bd
 hP:∀ k,k<=n->∀ j,qlen (P k j)<=Bd
 pz:∀ k j,k<j->P k j=0
 pt:∀ k,P k k=1
 nt:∀ k i,N k i (k+1)=1
 wd:∀ i k,W i k=D i k*H i k
 dl:∀ i k,i<k->D i k=D (i+1) k*H (i+1) i
 ds:∀ k,D k k=1
 br:∀ i k j,D i k=0->i<=k->N k (i+1) j=P (k+1) j
 nf:∀ k j,xs (P k) j-P k j*W k k=N k k j
 nn:∀ k i j,i<k->N k (i+1) j-P i j*W i k=N k i j
 nl:∀ k j,N k 0 j=P (k+1) j
theorem ch_of {n K:Nat} {H:Nat->Nat->Rat} (hn:n<=6) (hK:1<=K) (hH:Bq n K H):Ch n H (wd H) (dd H) (fun k=>(hp (wd H) k).f) (nx (wd H)) K (PB K n):=by
 have h3:∀ k,k<=n->PB K k<=PB K n:=fun k hk=>Nat.mul_le_mul_right _ (Nat.mul_le_mul_left 8 (Nat.pow_le_pow_right (by omega) hk));have hPb:=hp_bq hH hn hK;refine⟨hH,fun i k hi hk=>wd_bq hH hn hK hi hk,fun i k hi hk=>dd_b5 hH hn hK hi hk,fun k hk i hi j=>?_,fun k hk j=>Nat.le_trans (hPb k hk j) (h3 k hk),fun k j h=>(jQ (wd H) k).1 j h,fun k=>(jQ (wd H) k).2,fun k i=>(nx_deg (wd H)).2,fun _ _=>rfl,fun i k h=>dd_left H h,dd_self H,fun i k j h hi=>nx_break _ (wd_zero H h hi) hi j,fun k j=>?_,fun k i j h=>?_,fun k j=>nx_last _ k j⟩
 ·have h:=nx_bq hH hn hK hk (fun a ha=>hPb a (by omega)) (k-i) (by omega) j;rw[show k-(k-i)=i by omega]at h;refine Nat.le_trans h (Nat.le_trans ?_ (h3 (k+1) (by omega)));unfold PB;rw[show 8*3^(k+1)=24*3^k by rw[Nat.pow_succ];omega];exact Nat.mul_le_mul_right _ (ck_le (by omega) hi)
 ·rw[nx_first,Rat.mul_comm];rfl
 ·rw[nx_next _ h,Rat.mul_comm]
abbrev RR (n:Nat) (A:Nat->Nat->Rat):List Gx:=gG n idn :: (List.range n).map fun x=>gq n (A x)
theorem rr_get {n x:Nat} {A:Nat->Nat->Rat} (hx:x<n):((RR n A).map gb)[x+1]? = some (gb (gq n (A x))):=by
 simp[RR,hx]
theorem rr_cells {n x y:Nat} {A:Nat->Nat->Rat} (hx:x<n) (_:y<1):zF 0 ((RR n A).map gb) [some 0] (nql n (A x)) fun z=>(gG n idn).f x y=z := .inr (.inr ⟨x+1,_,rr_get hx,rfl,rfl,rfl,Nat.zero_le 1,rfl,rfl,fun i j _ _=>⟨rfl,Uw _ i j⟩⟩)
set_option maxHeartbeats 64000000 in
set_option maxRecDepth 100000 in
theorem yG {n:Nat} {p:Nat->RawR} {A H W D P:Nat->Nat->Rat} {N:Nat->Nat->Nat->Rat} {K Bd:Nat} (hn:n<=6) (hg:FnT Tryz.prog true 39 0 [] [.g [.int .i64 n,.int .i64 n,ql (n*n) p]] (.c (.gs 0 0)) ((RR n A).map gb)) (hh:FnT Tryz.prog true 40 1 ((RR n A).map gb) [.c (.gs 0 0)] (.c .any) ((RR n H).map gb)) (hK:1<=K) (hBd:8*K<=Bd) (hL:4*Bd+64<=LIM) (ch:Ch n H W D P N K Bd):FnOK Tryz.prog true 10 [.g (qG n n p)] (.t2 (.c (nql (n+1) (P n))) (.c (.int .i64 0))):=by
 have k0:FnOK Tryz.prog true 38 [.g (qG n n p)] (.c (.int .i64 0)):=by
  have h:=check_ok (r:=n) (c:=n) (len:=n*n) (f:=qlF p);rwa [show jW (n:Int) n ((n*n:Nat):Int)=0 by
   unfold jW;rw[if_pos ⟨⟨⟨by omega,by omega⟩,⟨by omega,by omega⟩,by rw[Int.natCast_mul]⟩,rfl⟩,if_neg (by omega)]]at h
 have k1:=q1_ok;have k2:=one_ok;refine jy (E:=E1) qQ Tryz.func10 rfl (by kernel_rfl) ?_;refine qy qQ mixed (by kernel_rfl) ?_;conv=>whnf
 refine⟨gst [(1,.c (.p 0 0 3 0 0))] [⟨24,3,1,qk (qG n n p)⟩],Weak.gen [some 0] rfl ⟨Rf.boxK rfl rfl,trivial⟩ ⟨⟨_,rfl,rfl,rfl⟩,trivial⟩,?_⟩;refine qy qQ mixed (by kernel_rfl) ?_;conv=>whnf
 refine⟨_,k0,?_⟩;conv=>whnf
 refine⟨gst [(1,.c (.p 0 0 3 0 0))] [⟨24,3,1,qk (qG n n p)⟩],Weak.gen [some 0] rfl ⟨Rf.boxK rfl rfl,trivial⟩ ⟨⟨_,rfl,rfl,rfl⟩,trivial⟩,?_⟩;refine V4 (fun _:Unit=>gst [(5,.c (.gs 0 0))] [gR n H]) (fun _=>True) ?_ fun _ _=>?_
 ·clear ch k1 k2;refine vK qQ (pre:=[_]) (post:=[_]) rfl rfl (by kernel_rfl) ?_;conv=>whnf
  refine⟨0,_,by decide,OpGoT.weak (σ1:=gst [(16,.g [.int .i64 n,.int .i64 n,ql (n*n) p])] []) (Weak.gen [] rfl trivial ⟨.inl ⟨rfl,rfl⟩,trivial⟩) (OpGoT.call0 (f:=39) (cs:=[]) rfl rfl (fun B hB=>absurd hB List.not_mem_nil) hg (Vg (tl:=[(16,.g [.int .i64 n,.int .i64 n,ql (n*n) p])]) ⟨rfl,trivial⟩)),?_⟩;conv=>whnf
  refine vK qQ (pre:=[_]) (post:=[]) rfl rfl (by kernel_rfl) ?_;conv=>whnf
  refine⟨1,_,by decide,OpGoT.call0 (f:=40) (cs:=[]) rfl rfl U3 hh (jp (jp (jp (Vg (tl:=[(16,.g [.int .i64 n,.int .i64 n,ql (n*n) p])]) ⟨rfl,trivial⟩) rfl) rfl) rfl),?_⟩;conv=>whnf
  exact⟨(),trivial,Weak.gen [some 0] rfl ⟨⟨_,rfl,rfl,rfl,rfl,rfl,fun x y hx hy=>rr_cells hx hy⟩,trivial⟩ ⟨⟨_,rfl,rfl,rfl⟩,trivial⟩⟩
 clear hg hh k0;have hww:∀ k,W k k=H k k:=fun k=>by rw[ch.wd,ch.ds,Rat.one_mul]
 have hsc:=fun k (hk:k<n)=>gj (m:=k+1) (F:=P k) (w:=H k k) (L:=Bd) (L':=K) (by omega) (fun i _=>ch.hP k (by omega) i) (ch.hH k k hk hk) (by omega);have hsh:=fun k (hk:k<n)=>shift_step (n:=k) (v:=P k) (L:=Bd) (by omega) (fun i _=>ch.hP k (by omega) i) (by omega) (by omega) (by rw[ch.pt];decide);have hs0:=fun k (hk:k<n)=>sub_step (m:=k+1) (N:=k+2) (F:=xs (P k)) (Z:=fun i=>P k i*H k k) (v:=N k k) (L:=2*Bd) (by omega) (by omega) (by omega) (fun i _=>by
  unfold xs;split
  ·exact Nat.le_trans (ch.hP k (by omega) _) (by omega)
  ·exact Nat.le_trans Uy (by omega)) (fun i _=>Nat.le_trans (kb (ch.hP k (by omega) i) (ch.hH k k hk hk) (by omega)) (by omega)) (by omega) (by omega) (fun i hi=>by rw[ch.pz k i (by omega),Rat.zero_mul]) (fun i _=>by rw[<- ch.nf,hww]) (by show N k k (k+1)≠0;rw[ch.nt];decide)
 have hc2:=fun k i (hk:k<n) (hi:i<k)=>gj (m:=i+1) (F:=P i) (w:=W i k) (L:=Bd) (L':=7*K) (by omega) (fun j _=>ch.hP i (by omega) j) (ch.hW i k (by omega) hk) (by omega);have hs2:=fun k i (hk:k<n) (hi:i<k)=>sub_step (m:=i+1) (N:=k+2) (F:=N k (i+1)) (Z:=fun j=>P i j*W i k) (v:=N k i) (L:=2*Bd) (by omega) (by omega) (by omega) (fun j _=>Nat.le_trans (ch.hN k hk (i+1) (by omega) j) (by omega)) (fun j _=>Nat.le_trans (kb (ch.hP i (by omega) j) (ch.hW i k (by omega) hk) (by omega)) (by omega)) (by omega) (by omega) (fun j hj=>by rw[ch.pz i j (by omega),Rat.zero_mul]) (fun j _=>ch.nn k i j hi) (by show N k i (k+1)≠0;rw[ch.nt];decide);have hm1:=fun k i (hk:k<n) (hi:i<k)=>Uf (x:=D (i+1) k) (y:=H (i+1) i) (z:=D i k) (ch.hD (i+1) k (by omega) hk) (ch.hH (i+1) i (by omega) (by omega)) (by omega) (ch.dl i k hi).symm;have hm2:=fun k i (hk:k<n) (hi:i<k)=>Uf (x:=D i k) (y:=H i k) (z:=W i k) (ch.hD i k (by omega) hk) (ch.hH i k (by omega) (by omega)) (by omega) (ch.wd i k).symm;have hnz:=fun k i (hk:k<n) (hi:i<k)=>nz_ok (x:=D i k) (ch.hD i k (by omega) hk) (by omega);have hp0:∀ x,x<1->(1:Rat)=P 0 x:=fun x hx=>by
  obtain rfl:x=0:=by omega
  exact(ch.pt 0).symm
 have hbr:=ch.br;have hnl:=ch.nl;have hds:=ch.ds;clear ch hww hL hBd;refine qy qQ mixed (by kernel_rfl) ?_;conv=>whnf
 refine⟨_,k2,?_⟩;conv=>whnf
 refine⟨gst [(5,.c (.gs 0 0)),(6,.c (.gs 1 0))] [gR n H,gL (1) P],Weak.gen [some 0,some 1] rfl ⟨⟨_,rfl,rfl,rfl,rfl,rfl,fun x y hx hy => .inl ⟨_,_,rfl,rfl,fun _ _ _ _=>rfl⟩⟩,⟨_,rfl,rfl,rfl,rfl,rfl,cells1 (poly_first hp0)⟩,trivial⟩ ⟨⟨_,rfl,rfl,rfl⟩,⟨_,rfl,rfl,rfl⟩,trivial⟩,?_⟩;refine qF (fun _:Unit=>gst [(5,.c (.gs 0 0)),(6,.c (.gs 1 0))] [gR n H,gL (n+1) P]) (fun _=>True) ?_ fun _ _=>?_;rotate_left
 ·refine qJ qQ mixed (by kernel_rfl) ?_;conv=>whnf
  refine⟨by omega,by show(n:Int)<((n+1:Nat):Int);omega,?_⟩;conv=>whnf
  exact⟨rfl,Sub.refl _⟩
 refine qy qQ mixed (by kernel_rfl) ?_;conv=>whnf
 refine⟨(fun k:Nat=>gst [(5,.c (.gs 0 0)),(6,.c (.gs 1 0)),(22,.c (.gs 0 0)),(23,.c (.int .i64 ((n:Nat):Int))),(24,.c (.int .i64 ((k:Nat):Int)))] [gR n H,gL (k+1) P]) 0,Weak.gen [some 0,some 1] rfl ⟨⟨_,rfl,rfl,rfl,rfl,rfl,fun x y hx hy => .inl ⟨_,_,rfl,rfl,fun _ _ _ _=>rfl⟩⟩,⟨_,rfl,rfl,rfl,rfl,rfl,fun x y hx hy=>xy⟩,trivial⟩ ⟨⟨_,rfl,rfl,rfl⟩,⟨_,rfl,rfl,rfl⟩,⟨_,rfl,rfl,rfl⟩,⟨_,rfl,rfl⟩,⟨_,rfl,rfl⟩,trivial⟩,?_⟩;refine qq (qZ (fun k:Nat=>gst [(5,.c (.gs 0 0)),(6,.c (.gs 1 0)),(22,.c (.gs 0 0)),(23,.c (.int .i64 ((n:Nat):Int))),(24,.c (.int .i64 ((k:Nat):Int)))] [gR n H,gL (k+1) P]) (fun k=>n-k) (fun k=>k<=n) 0 (Weak.refl _) (Nat.zero_le _) fun k hk=>?_);have hsc:=hsc k;have hsh:=hsh k;have hs0:=hs0 k;have hc2:=hc2 k;have hs2:=hs2 k;have hm1:=hm1 k;have hm2:=hm2 k;have hnz:=hnz k;refine qf qQ mixed (by kernel_rfl) ?_;conv=>whnf
 refine qy qQ mixed (by kernel_rfl) ?_;conv=>whnf
 refine qg (fun(h:decide ((k:Int)<(n:Int))=true)=>?_) fun(h:decide ((k:Int)<(n:Int))=false)=>?_;rotate_left
 ·have h:=of_decide_eq_false h;obtain rfl:k=n:=by omega
  conv=>whnf
  exact⟨(),trivial,Weak.gen [some 0,some 1] rfl ⟨⟨_,rfl,rfl,rfl,rfl,rfl,fun x y hx hy => .inl ⟨_,_,rfl,rfl,fun _ _ _ _=>rfl⟩⟩,⟨_,rfl,rfl,rfl,rfl,rfl,fun x y hx hy=>xy⟩,trivial⟩ ⟨⟨_,rfl,rfl,rfl⟩,⟨_,rfl,rfl,rfl⟩,trivial⟩⟩
 have h:=of_decide_eq_true h;have hk:k<n:=by omega
 have hsc:=hsc hk;have hsh:=hsh hk;have hs0:=hs0 hk;conv=>whnf
 refine⟨gst [(5,.c (.gs 0 0)),(6,.c (.gs 1 0)),(22,.c (.gs 0 0)),(23,.c (.int .i64 ((n:Nat):Int))),(24,.c (.int .i64 ((k:Nat):Int)))] [gR n H,gL (k+1) P],Weak.gen [some 0,some 1] rfl ⟨⟨_,rfl,rfl,rfl,rfl,rfl,fun x y hx hy => .inl ⟨_,_,rfl,rfl,fun _ _ _ _=>rfl⟩⟩,⟨_,rfl,rfl,rfl,rfl,rfl,fun x y hx hy=>xy⟩,trivial⟩ ⟨⟨_,rfl,rfl,rfl⟩,⟨_,rfl,rfl,rfl⟩,⟨_,rfl,rfl,rfl⟩,⟨_,rfl,rfl⟩,⟨_,rfl,rfl⟩,trivial⟩,?_⟩;refine qF (fun _:Unit=>gst [(5,.c (.gs 0 0)),(6,.c (.gs 1 0)),(22,.c (.gs 0 0)),(23,.c (.int .i64 ((n:Nat):Int))),(24,.c (.int .i64 ((k:Nat):Int)))] [gR n H,gL (k+2) P]) (fun _=>True) ?_ fun _ _=>?_;rotate_left
 ·refine qJ qQ mixed (by kernel_rfl) ?_;conv=>whnf
  refine⟨qz (by omega) (by omega),?_⟩;conv=>whnf
  exact⟨k+1,by omega,Weak.gen [some 0,some 1] rfl ⟨⟨_,rfl,rfl,rfl,rfl,rfl,fun x y hx hy => .inl ⟨_,_,rfl,rfl,fun _ _ _ _=>rfl⟩⟩,⟨_,rfl,rfl,rfl,rfl,rfl,fun x y hx hy=>xy⟩,trivial⟩ ⟨⟨_,rfl,rfl,rfl⟩,⟨_,rfl,rfl,rfl⟩,⟨_,rfl,rfl,rfl⟩,⟨_,rfl,rfl⟩,⟨_,rfl,rfl⟩,trivial⟩,by omega⟩
 refine qq ?_;refine qy qQ mixed (by kernel_rfl) ?_;conv=>whnf
 refine⟨gst [(5,.c (.gs 0 0)),(6,.c (.gs 1 0)),(22,.c (.gs 0 0)),(23,.c (.int .i64 ((n:Nat):Int))),(24,.c (.int .i64 ((k:Nat):Int))),(7,.c (.int .i64 ((k:Nat):Int)))] [gR n H,gL (k+1) P],Weak.gen [some 0,some 1] rfl ⟨⟨_,rfl,rfl,rfl,rfl,rfl,fun x y hx hy => .inl ⟨_,_,rfl,rfl,fun _ _ _ _=>rfl⟩⟩,⟨_,rfl,rfl,rfl,rfl,rfl,fun x y hx hy=>xy⟩,trivial⟩ ⟨⟨_,rfl,rfl,rfl⟩,⟨_,rfl,rfl,rfl⟩,⟨_,rfl,rfl,rfl⟩,⟨_,rfl,rfl⟩,⟨_,rfl,rfl⟩,⟨_,rfl,rfl⟩,trivial⟩,?_⟩;have j0:(0:Int)<=(k:Int):=by omega
 have j1:(k:Int)<((k+1:Nat):Int):=by omega
 have j2:(k:Int)<(n:Int):=by omega
 refine qy qQ mixed (by kernel_rfl) ?_;conv=>whnf
 repeat (refine⟨by first | exact j0 | exact j1 | exact j2,?_⟩;conv=>whnf)
 refine⟨_,hsh,?_⟩;conv=>whnf
 repeat (refine⟨by first | exact j0 | exact j1 | exact j2,?_⟩;conv=>whnf)
 refine⟨_,hsc,?_⟩;conv=>whnf
 refine⟨_,hs0,?_⟩;conv=>whnf
 refine⟨gst [(5,.c (.gs 0 0)),(6,.c (.gs 1 0)),(22,.c (.gs 0 0)),(23,.c (.int .i64 ((n:Nat):Int))),(24,.c (.int .i64 ((k:Nat):Int))),(7,.c (.int .i64 ((k:Nat):Int))),(8,.c (nql (k+2) (N k k)))] [gR n H,gL (k+1) P],Weak.gen [some 0,some 1] rfl ⟨⟨_,rfl,rfl,rfl,rfl,rfl,fun x y hx hy => .inl ⟨_,_,rfl,rfl,fun _ _ _ _=>rfl⟩⟩,⟨_,rfl,rfl,rfl,rfl,rfl,fun x y hx hy=>xy⟩,trivial⟩ ⟨⟨_,rfl,rfl,rfl⟩,⟨_,rfl,rfl,rfl⟩,⟨_,rfl,rfl,rfl⟩,⟨_,rfl,rfl⟩,⟨_,rfl,rfl⟩,⟨_,rfl,rfl⟩,rO rfl,trivial⟩,?_⟩;refine qy qQ mixed (by kernel_rfl) ?_;conv=>whnf
 refine⟨_,k1,?_⟩;conv=>whnf
 refine⟨gst [(5,.c (.gs 0 0)),(6,.c (.gs 1 0)),(22,.c (.gs 0 0)),(23,.c (.int .i64 ((n:Nat):Int))),(24,.c (.int .i64 ((k:Nat):Int))),(7,.c (.int .i64 ((k:Nat):Int))),(8,.c (nql (k+2) (N k k))),(9,.c (.p 2 0 4 0 0))] [gR n H,gL (k+1) P,⟨38,4,1,qk (nq (1))⟩],Weak.gen [some 0,some 1,some 2] rfl ⟨⟨_,rfl,rfl,rfl,rfl,rfl,fun x y hx hy => .inl ⟨_,_,rfl,rfl,fun _ _ _ _=>rfl⟩⟩,⟨_,rfl,rfl,rfl,rfl,rfl,fun x y hx hy=>xy⟩,Rf.boxU rfl rfl rfl,trivial⟩ ⟨⟨_,rfl,rfl,rfl⟩,⟨_,rfl,rfl,rfl⟩,⟨_,rfl,rfl,rfl⟩,⟨_,rfl,rfl⟩,⟨_,rfl,rfl⟩,⟨_,rfl,rfl⟩,rO rfl,⟨_,rfl,rfl,rfl⟩,trivial⟩,?_⟩;refine qF (fun _:Unit=>gst [(5,.c (.gs 0 0)),(6,.c (.gs 1 0)),(22,.c (.gs 0 0)),(23,.c (.int .i64 ((n:Nat):Int))),(24,.c (.int .i64 ((k:Nat):Int))),(7,.c (.int .i64 ((k:Nat):Int))),(8,.c (nql (k+2) (P (k+1))))] [gR n H,gL (k+1) P]) (fun _=>True) ?_ fun _ _=>?_;rotate_left
 ·refine qJ qQ mixed (by kernel_rfl) ?_;conv=>whnf
  refine⟨by show k+1+1<=16777216;omega,fun x y hx hy=>one_poly (k:=k+2) (v:=P (k+1)) hx hy,?_⟩;conv=>whnf
  exact⟨(),trivial,Weak.gen [some 0,some 1] rfl ⟨⟨_,rfl,rfl,rfl,rfl,rfl,fun x y hx hy => .inl ⟨_,_,rfl,rfl,fun _ _ _ _=>rfl⟩⟩,⟨_,rfl,rfl,rfl,rfl,rfl,fun x y hx hy=>poly_app (k:=k+1) (v:=P (k+1)) (fun _ _=>rfl) hx hy⟩,trivial⟩ ⟨⟨_,rfl,rfl,rfl⟩,⟨_,rfl,rfl,rfl⟩,⟨_,rfl,rfl,rfl⟩,⟨_,rfl,rfl⟩,⟨_,rfl,rfl⟩,trivial⟩⟩
 refine qy qQ mixed (by kernel_rfl) ?_;conv=>whnf
 refine⟨qz (by omega) (by omega),?_⟩;conv=>whnf
 refine⟨(fun i:Nat=>gst [(5,.c (.gs 0 0)),(6,.c (.gs 1 0)),(22,.c (.gs 0 0)),(23,.c (.int .i64 ((n:Nat):Int))),(24,.c (.int .i64 ((k:Nat):Int))),(7,.c (.int .i64 ((k:Nat):Int))),(8,.c (nql (k+2) (N k i))),(9,.c (.p 2 0 4 0 0)),(10,.c (.int .i64 ((i:Int)-1)))] [gR n H,gL (k+1) P,⟨38,4,1,qk (nq (D i k))⟩]) k,Weak.gen [some 0,some 1,some 2] rfl ⟨⟨_,rfl,rfl,rfl,rfl,rfl,fun x y hx hy => .inl ⟨_,_,rfl,rfl,fun _ _ _ _=>rfl⟩⟩,⟨_,rfl,rfl,rfl,rfl,rfl,fun x y hx hy=>xy⟩,box_eq (hds k).symm,trivial⟩ ⟨⟨_,rfl,rfl,rfl⟩,⟨_,rfl,rfl,rfl⟩,⟨_,rfl,rfl,rfl⟩,⟨_,rfl,rfl⟩,⟨_,rfl,rfl⟩,⟨_,rfl,rfl⟩,rO rfl,⟨_,rfl,rfl,rfl⟩,⟨_,rfl,rfl⟩,trivial⟩,?_⟩;refine qq (qZ (fun i:Nat=>gst [(5,.c (.gs 0 0)),(6,.c (.gs 1 0)),(22,.c (.gs 0 0)),(23,.c (.int .i64 ((n:Nat):Int))),(24,.c (.int .i64 ((k:Nat):Int))),(7,.c (.int .i64 ((k:Nat):Int))),(8,.c (nql (k+2) (N k i))),(9,.c (.p 2 0 4 0 0)),(10,.c (.int .i64 ((i:Int)-1)))] [gR n H,gL (k+1) P,⟨38,4,1,qk (nq (D i k))⟩]) (fun i=>i) (fun i=>i<=k) k (Weak.refl _) (Nat.le_refl k) fun i hi=>?_);cases i with
 | zero =>
  refine qJ qQ mixed (by kernel_rfl) ?_;conv=>whnf
  exact⟨(),trivial,Weak.gen [some 0,some 1] rfl ⟨⟨_,rfl,rfl,rfl,rfl,rfl,fun x y hx hy => .inl ⟨_,_,rfl,rfl,fun _ _ _ _=>rfl⟩⟩,⟨_,rfl,rfl,rfl,rfl,rfl,fun x y hx hy=>xy⟩,trivial⟩ ⟨⟨_,rfl,rfl,rfl⟩,⟨_,rfl,rfl,rfl⟩,⟨_,rfl,rfl,rfl⟩,⟨_,rfl,rfl⟩,⟨_,rfl,rfl⟩,⟨_,rfl,rfl⟩,reg_nql fun x _=>hnl k x,trivial⟩⟩
 | succ q =>
  have hq:q<k:=by have hi:q+1<=k:=hi;omega
  have hc2:=hc2 q hk hq;have hs2:=hs2 q hk hq;have hm1:=hm1 q hk hq;have hm2:=hm2 q hk hq;have hnz:=hnz q hk hq;have hbr:=fun h0 x=>hbr q k x h0 (Nat.le_of_lt hq);have j3:(0:Int)<=(q:Int)+1:=by omega
  have j4:(q:Int)+1<(n:Int):=by omega
  have j5:(0:Int)<=(q:Int):=by omega
  have j6:(q:Int)<(n:Int):=by omega
  have j7:(q:Int)<((k+1:Nat):Int):=by omega
  refine qy qQ mixed (by kernel_rfl) ?_;conv=>whnf
  refine xG (show decide ((0:Int)<=((q+1:Nat):Int)-1)=true from decide_eq_true (by omega)) ?_;conv=>whnf
  refine⟨gst [(5,.c (.gs 0 0)),(6,.c (.gs 1 0)),(22,.c (.gs 0 0)),(23,.c (.int .i64 ((n:Nat):Int))),(24,.c (.int .i64 ((k:Nat):Int))),(7,.c (.int .i64 ((k:Nat):Int))),(8,.c (nql (k+2) (N k (q+1)))),(9,.c (.p 2 0 4 0 0)),(10,.c (.int .i64 ((q:Nat):Int)))] [gR n H,gL (k+1) P,⟨38,4,1,qk (nq (D (q+1) k))⟩],Weak.gen [some 0,some 1,some 2] rfl ⟨⟨_,rfl,rfl,rfl,rfl,rfl,fun x y hx hy => .inl ⟨_,_,rfl,rfl,fun _ _ _ _=>rfl⟩⟩,⟨_,rfl,rfl,rfl,rfl,rfl,fun x y hx hy=>xy⟩,Rf.boxK rfl rfl,trivial⟩ ⟨⟨_,rfl,rfl,rfl⟩,⟨_,rfl,rfl,rfl⟩,⟨_,rfl,rfl,rfl⟩,⟨_,rfl,rfl⟩,⟨_,rfl,rfl⟩,⟨_,rfl,rfl⟩,rO rfl,⟨_,rfl,rfl,rfl⟩,⟨_,rfl,by omega⟩,trivial⟩,?_⟩;refine qF (fun _:Unit=>gst [(5,.c (.gs 0 0)),(6,.c (.gs 1 0)),(22,.c (.gs 0 0)),(23,.c (.int .i64 ((n:Nat):Int))),(24,.c (.int .i64 ((k:Nat):Int))),(7,.c (.int .i64 ((k:Nat):Int))),(8,.c (nql (k+2) (N k q))),(9,.c (.p 2 0 4 0 0)),(10,.c (.int .i64 ((q:Nat):Int)))] [gR n H,gL (k+1) P,⟨38,4,1,qk (nq (D q k))⟩]) (fun _=>True) ?_ fun _ _=>?_;rotate_left
  ·refine qJ qQ mixed (by kernel_rfl) ?_;conv=>whnf
   refine⟨qz (by omega) (by omega),?_⟩;conv=>whnf
   exact⟨q,Nat.lt_succ_self q,Weak.gen [some 0,some 1,some 2] rfl ⟨⟨_,rfl,rfl,rfl,rfl,rfl,fun x y hx hy => .inl ⟨_,_,rfl,rfl,fun _ _ _ _=>rfl⟩⟩,⟨_,rfl,rfl,rfl,rfl,rfl,fun x y hx hy=>xy⟩,Rf.boxK rfl rfl,trivial⟩ ⟨⟨_,rfl,rfl,rfl⟩,⟨_,rfl,rfl,rfl⟩,⟨_,rfl,rfl,rfl⟩,⟨_,rfl,rfl⟩,⟨_,rfl,rfl⟩,⟨_,rfl,rfl⟩,rO rfl,⟨_,rfl,rfl,rfl⟩,⟨_,rfl,rfl⟩,trivial⟩,Nat.le_of_lt hq⟩
  refine qq ?_;refine qy qQ mixed (by kernel_rfl) ?_;conv=>whnf
  repeat (refine⟨by first | exact j0 | exact j1 | exact j2 | exact j3 | exact j4 | exact j5 | exact j6 | exact j7 | exact qz (by omega) (by omega),?_⟩;conv=>whnf)
  refine⟨_,hm1,?_⟩;conv=>whnf
  refine⟨gst [(5,.c (.gs 0 0)),(6,.c (.gs 1 0)),(22,.c (.gs 0 0)),(23,.c (.int .i64 ((n:Nat):Int))),(24,.c (.int .i64 ((k:Nat):Int))),(7,.c (.int .i64 ((k:Nat):Int))),(8,.c (nql (k+2) (N k (q+1)))),(9,.c (.p 2 0 4 0 0)),(10,.c (.int .i64 ((q:Nat):Int)))] [gR n H,gL (k+1) P,⟨38,4,1,qk (nq (D q k))⟩],Weak.gen [some 0,some 1,some 2] rfl ⟨⟨_,rfl,rfl,rfl,rfl,rfl,fun x y hx hy => .inl ⟨_,_,rfl,rfl,fun _ _ _ _=>rfl⟩⟩,⟨_,rfl,rfl,rfl,rfl,rfl,fun x y hx hy=>xy⟩,Rf.boxU rfl rfl rfl,trivial⟩ ⟨⟨_,rfl,rfl,rfl⟩,⟨_,rfl,rfl,rfl⟩,⟨_,rfl,rfl,rfl⟩,⟨_,rfl,rfl⟩,⟨_,rfl,rfl⟩,⟨_,rfl,rfl⟩,rO rfl,⟨_,rfl,rfl,rfl⟩,⟨_,rfl,rfl⟩,trivial⟩,?_⟩;refine qy qQ mixed (by kernel_rfl) ?_;conv=>whnf
  refine⟨_,hnz,?_⟩;conv=>whnf
  refine qg (fun(h:(!decide (D q k≠0))=true)=>?_) fun(h:(!decide (D q k≠0))=false)=>?_
  ·have h0:D q k=0:=by simpa using h
   conv=>whnf
   exact⟨(),trivial,Weak.gen [some 0,some 1] rfl ⟨⟨_,rfl,rfl,rfl,rfl,rfl,fun x y hx hy => .inl ⟨_,_,rfl,rfl,fun _ _ _ _=>rfl⟩⟩,⟨_,rfl,rfl,rfl,rfl,rfl,fun x y hx hy=>xy⟩,trivial⟩ ⟨⟨_,rfl,rfl,rfl⟩,⟨_,rfl,rfl,rfl⟩,⟨_,rfl,rfl,rfl⟩,⟨_,rfl,rfl⟩,⟨_,rfl,rfl⟩,⟨_,rfl,rfl⟩,reg_nql fun x _=>hbr h0 x,trivial⟩⟩
  conv=>whnf
  refine⟨gst [(5,.c (.gs 0 0)),(6,.c (.gs 1 0)),(22,.c (.gs 0 0)),(23,.c (.int .i64 ((n:Nat):Int))),(24,.c (.int .i64 ((k:Nat):Int))),(7,.c (.int .i64 ((k:Nat):Int))),(8,.c (nql (k+2) (N k (q+1)))),(9,.c (.p 2 0 4 0 0)),(10,.c (.int .i64 ((q:Nat):Int)))] [gR n H,gL (k+1) P,⟨38,4,1,qk (nq (D q k))⟩],Weak.gen [some 0,some 1,some 2] rfl ⟨⟨_,rfl,rfl,rfl,rfl,rfl,fun x y hx hy => .inl ⟨_,_,rfl,rfl,fun _ _ _ _=>rfl⟩⟩,⟨_,rfl,rfl,rfl,rfl,rfl,fun x y hx hy=>xy⟩,Rf.boxK rfl rfl,trivial⟩ ⟨⟨_,rfl,rfl,rfl⟩,⟨_,rfl,rfl,rfl⟩,⟨_,rfl,rfl,rfl⟩,⟨_,rfl,rfl⟩,⟨_,rfl,rfl⟩,⟨_,rfl,rfl⟩,rO rfl,⟨_,rfl,rfl,rfl⟩,⟨_,rfl,rfl⟩,trivial⟩,?_⟩;refine qJ qQ mixed (by kernel_rfl) ?_;conv=>whnf
  repeat (refine⟨by first | exact j0 | exact j1 | exact j2 | exact j3 | exact j4 | exact j5 | exact j6 | exact j7 | exact qz (by omega) (by omega),?_⟩;conv=>whnf)
  refine⟨_,hm2,?_⟩;conv=>whnf
  repeat (refine⟨by first | exact j0 | exact j1 | exact j2 | exact j3 | exact j4 | exact j5 | exact j6 | exact j7 | exact qz (by omega) (by omega),?_⟩;conv=>whnf)
  refine⟨_,hc2,?_⟩;conv=>whnf
  refine⟨_,hs2,?_⟩;conv=>whnf
  exact⟨(),trivial,Weak.gen [some 0,some 1,some 2] rfl ⟨⟨_,rfl,rfl,rfl,rfl,rfl,fun x y hx hy => .inl ⟨_,_,rfl,rfl,fun _ _ _ _=>rfl⟩⟩,⟨_,rfl,rfl,rfl,rfl,rfl,fun x y hx hy=>xy⟩,Rf.boxK rfl rfl,trivial⟩ ⟨⟨_,rfl,rfl,rfl⟩,⟨_,rfl,rfl,rfl⟩,⟨_,rfl,rfl,rfl⟩,⟨_,rfl,rfl⟩,⟨_,rfl,rfl⟩,⟨_,rfl,rfl⟩,rO rfl,⟨_,rfl,rfl,rfl⟩,⟨_,rfl,rfl⟩,trivial⟩⟩
end Mx
end Go.Proofs.YtkmbnldginonbaaGreat
set_option maxHeartbeats 64000000
set_option maxRecDepth 100000
namespace Go.Proofs.YtkmbnldginonbaaGreat
open Go.RowKit
namespace Mx
theorem row_app {q:Nat} {bl:List Blk} {ks:List (Option Nat)} {v:Nat->Rat} {x i j:Nat} (hi:i<x+1) (_:j<4):zF q bl ks (qlF (fun j=>ofR (v j)) i j) fun y=>zB x (qlF fun j=>ofR (v j)) (xJ 4 (nq (v x))) i j=y:=qY (appG (sz:=4) (g:=fun i=>nq (v i)) (g':=fun i=>nq (v i)) (l:=nq (v x)) (Rf.app_sameq v x i) (Nat.le_refl (x+1)) hi) (Uw v i j)
abbrev zb (a:Int) (m:Nat) (p:Nat->RawR):Gx:=⟨24,3,1,qk [.int .i64 a,.int .i64 a,ql m p]⟩
abbrev zG (n:Nat):Gx:=⟨22,1,n,fun k _ => .gs (k+2) 0⟩
theorem so1 {N:Nat} {c:Code} {σ:St} {R:Exit->St->Prop} (h:awp E1 c σ R) (hc:x9 N c=true:=by kernel_rfl):Swp E1 N c σ R:=qJ qQ mixed hc h
theorem sq1 {N:Nat} {x y:Code} {σ:St} {R:Exit->St->Prop} (h:awp E1 x σ (seqR (fun σ'=>∃ σ2,Weak E1.m0 σ' σ2/\Swp E1 N y σ2 R) R)) (hc:x9 N x=true:=by kernel_rfl):Swp E1 N (.seq x y) σ R:=qy qQ mixed hc h
abbrev gwl (n i x k:Nat):Nat:=if k<i then n else if k=i then x else 0
abbrev gwb (n i x:Nat) (p:Nat->RawR) (A:Nat->Nat->Rat):List Gx:=zb n (n*n) p :: ⟨22,1,n,gsF 2⟩ :: (List.range n).map fun k=>gq (gwl n i x k) (A k)
theorem grid_0 {p:Nat->RawR} {A:Nat->Nat->Rat} {L:Nat} (_:∀ k,k<0->(p k).Fit L) (_:L+3<=LIM) (_:∀ i j,i<0->j<0->(p (i*0+j)).val=A i j):FnT Tryz.prog true 39 0 [] [.g [.int .i64 0,.int .i64 0,ql 0 p]] (.c (.gs 0 0)) ([gG 0 idn].map gb):=by
 refine jX (E:=E1) qQ Tryz.func39 rfl (by kernel_rfl) ?_;refine sq1 ?_;conv=>whnf
 refine⟨gst [(1,.c (.p 0 0 3 0 0))] [zb 0 0 p],Weak.gen [some 0] rfl ⟨Rf.boxK rfl rfl,trivial⟩ ⟨⟨_,rfl,rfl,rfl⟩,trivial⟩,?_⟩;refine sq1 ?_;conv=>whnf
 refine⟨by decide,by decide,by decide,by decide,?_⟩;conv=>whnf
 refine⟨gst [(1,.c (.p 0 0 3 0 0)),(3,.c (.gs 1 0))] [zb 0 0 p,zG 0],Weak.gen [some 0,some 1] rfl ⟨Rf.boxK rfl rfl,⟨_,rfl,rfl,rfl,rfl,rfl,cells0⟩,trivial⟩ ⟨⟨_,rfl,rfl,rfl⟩,⟨_,rfl,rfl,rfl⟩,trivial⟩,?_⟩;refine qF (fun _:Unit=>gst [(3,.c (.gs 1 0))] [zb 0 0 p,zG 0]) (fun _=>True) ?_ fun _ _=>?_;rotate_left
 ·refine so1 ?_;conv=>whnf
  exact Weak.gen (tl:=[(0,.c (.gs 0 0))]) (xs:=[gG 0 idn]) [some 1] rfl ⟨⟨_,rfl,rfl,rfl,rfl,rfl,cells0⟩,trivial⟩ ⟨⟨_,rfl,rfl,rfl⟩,trivial⟩
 refine sq1 ?_;conv=>whnf
 refine⟨(fun i:Nat=>gst [(1,.c (.p 0 0 3 0 0)),(3,.c (.gs 1 0)),(11,.c (.int .i64 0)),(12,.c (.int .i64 ((i:Nat):Int)))] [zb 0 0 p,zG 0]) 0,Weak.gen [some 0,some 1] rfl ⟨Rf.boxK rfl rfl,⟨_,rfl,rfl,rfl,rfl,rfl,cells0⟩,trivial⟩ ⟨⟨_,rfl,rfl,rfl⟩,⟨_,rfl,rfl,rfl⟩,⟨_,rfl,rfl⟩,⟨_,rfl,rfl⟩,trivial⟩,?_⟩;refine qq (qZ (fun i:Nat=>gst [(1,.c (.p 0 0 3 0 0)),(3,.c (.gs 1 0)),(11,.c (.int .i64 0)),(12,.c (.int .i64 ((i:Nat):Int)))] [zb 0 0 p,zG 0]) (fun i=>1-i) (fun i=>i<=0) 0 (Weak.refl _) (by decide) fun i hi=>?_);obtain rfl:i=0:=by omega
 refine so1 ?_;conv=>whnf
 exact⟨(),trivial,Weak.gen [some 0,some 1] rfl ⟨Rf.boxK rfl rfl,⟨_,rfl,rfl,rfl,rfl,rfl,cells0⟩,trivial⟩ ⟨⟨_,rfl,rfl,rfl⟩,trivial⟩⟩
theorem grid_n {n:Nat} {p:Nat->RawR} {A:Nat->Nat->Rat} {L:Nat} (h1:1<=n) (h6:n<=6) (hp:∀ k,k<n*n->(p k).Fit L) (hL:L+3<=LIM) (hA:∀ i j,i<n->j<n->(p (i*n+j)).val=A i j):FnT Tryz.prog true 39 0 [] [.g [.int .i64 n,.int .i64 n,ql (n*n) p]] (.c (.gs 0 0)) ((gG n idn :: (List.range n).map fun x=>gq n (A x)).map gb):=by
 have hN:∀ i j,i<n->j<n->FnOK Tryz.prog true 73 [.g (rr (p (i*n+j)))] (.g (nq (A i j))):=fun i j hi hj=>by
  have:=wV (hp (i*n+j) (Rf.mat_idx hi hj).1) hL;rwa [hA i j hi hj]at this
 clear hp hL hA;have e:n=1∨n=2∨n=3∨n=4∨n=5∨n=6:=by omega
 clear h1 h6;revert hN;rcases e with e | e | e | e | e | e <;> (
  apply yb e;intro n hN;have h6:n<=6:=by decide
  refine jX (E:=E1) qQ Tryz.func39 rfl (by kernel_rfl) ?_;refine sq1 ?_;conv=>whnf
  refine⟨gst [(1,.c (.p 0 0 3 0 0))] [zb n (n*n) p],Weak.gen [some 0] rfl ⟨Rf.boxK rfl rfl,trivial⟩ ⟨⟨_,rfl,rfl,rfl⟩,trivial⟩,?_⟩;refine sq1 ?_;conv=>whnf
  refine⟨by decide,by decide,by decide,by decide,?_⟩;conv=>whnf
  refine⟨gst [(1,.c (.p 0 0 3 0 0)),(3,.c (.gs 1 0))] (gwb n 0 0 p A),Weak.gen (some 0 :: some 1 :: (List.range n).map fun _=>none) rfl ⟨Rf.boxK rfl rfl,⟨_,rfl,rfl,rfl,rfl,rfl,fun x y hx hy=>gs_none (x:=x) (y:=y) rfl rfl hx hy⟩,by repeat (first | exact trivial | refine⟨rfl,?_⟩)⟩ ⟨⟨_,rfl,rfl,rfl⟩,⟨_,rfl,rfl,rfl⟩,trivial⟩,?_⟩;refine qF (fun _:Unit=>gst [(3,.c (.gs 1 0))] (gwb n n 0 p A)) (fun _=>True) ?_ fun _ _=>?_;rotate_left
  ·refine so1 ?_;conv=>whnf
   exact Weak.gen (tl:=[(0,.c (.gs 0 0))]) (xs:=gG n idn :: (List.range n).map fun x=>gq n (A x)) (some 1 :: (List.range n).map fun k=>some (k+2)) rfl ⟨⟨_,rfl,rfl,rfl,rfl,rfl,fun x y hx hy=>gs_to (d:=1) (e:=2) (x:=x) (y:=y) rfl rfl hx⟩,by repeat (first | exact trivial | refine⟨rs rfl,?_⟩)⟩ ⟨⟨_,rfl,rfl,rfl⟩,trivial⟩
  refine sq1 ?_;conv=>whnf
  refine⟨(fun i:Nat=>gst [(1,.c (.p 0 0 3 0 0)),(3,.c (.gs 1 0)),(11,.c (.int .i64 n)),nt 12 i] (gwb n i 0 p A)) 0,Weak.gen (some 0 :: some 1 :: (List.range n).map fun k=>some (k+2)) rfl ⟨Rf.boxK rfl rfl,⟨_,rfl,rfl,rfl,rfl,rfl,fun x y hx hy=>vp (x:=x) (y:=y) rfl rfl hx⟩,by repeat (first | exact trivial | refine⟨rs rfl,?_⟩)⟩ ⟨⟨_,rfl,rfl,rfl⟩,⟨_,rfl,rfl,rfl⟩,⟨_,rfl,rfl⟩,⟨_,rfl,rfl⟩,trivial⟩,?_⟩;refine qq (qZ (fun i:Nat=>gst [(1,.c (.p 0 0 3 0 0)),(3,.c (.gs 1 0)),(11,.c (.int .i64 n)),nt 12 i] (gwb n i 0 p A)) (fun i=>n+1-i) (fun i=>i<=n) 0 (Weak.refl _) (Nat.zero_le _) fun i hi=>?_);have hi:i<=n:=hi;rcases Nat.lt_or_ge i n with ilt | ige;rotate_left
  ·obtain rfl:i=n:=Nat.le_antisymm hi ige;refine so1 ?_;conv=>whnf
   exact⟨(),trivial,Weak.gen (some 0 :: some 1 :: (List.range n).map fun k=>some (k+2)) rfl ⟨Rf.boxK rfl rfl,⟨_,rfl,rfl,rfl,rfl,rfl,fun x y hx hy=>vp (x:=x) (y:=y) rfl rfl hx⟩,by repeat (first | exact trivial | refine⟨rs rfl,?_⟩)⟩ ⟨⟨_,rfl,rfl,rfl⟩,trivial⟩⟩
  have e:i=0∨i=1∨i=2∨i=3∨i=4∨i=5:=by omega
  have m1:=Nat.mul_le_mul (show i<=6 by omega) h6;have m2:=Nat.mul_le_mul (show i+1<=6 by omega) h6;have q1:((i:Nat):Int)*(n:Int)=((i*n:Nat):Int):=(Int.natCast_mul i n).symm;have q2:(((i:Nat):Int)+1)*(n:Int)=(((i+1)*n:Nat):Int):=(Int.natCast_mul (i+1) n).symm;have F:_/\_/\_/\_/\_:=⟨ilt,hN i,(by rw[q1];exact qz (by omega) (by omega):inR .i64 (((i:Nat):Int)*(n:Int))),(qz (by omega) (by omega):inR .i64 (((i:Nat):Int)+1)),(by rw[q2];exact qz (by omega) (by omega):inR .i64 ((((i:Nat):Int)+1)*(n:Int)))⟩;clear hi hN m1 m2 q1 q2;revert F;rcases e with e | e | e | e | e | e <;> first
   |(exfalso;subst e;exact absurd ilt (by decide))
   |(
    clear ilt;apply yb e;intro i F;obtain⟨ilt,hN,r1,r2,r3⟩:=F;refine qf qQ mixed (by kernel_rfl) ?_;conv=>whnf
    refine sq1 ?_;conv=>whnf
    refine⟨gst [(1,.c (.p 0 0 3 0 0)),(3,.c (.gs 1 0)),(11,.c (.int .i64 n)),nt 12 i] (gwb n i 0 p A),Weak.gen (some 0 :: some 1 :: (List.range n).map fun k=>some (k+2)) rfl ⟨Rf.boxK rfl rfl,⟨_,rfl,rfl,rfl,rfl,rfl,fun x y hx hy=>vp (x:=x) (y:=y) rfl rfl hx⟩,by repeat (first | exact trivial | refine⟨rs rfl,?_⟩)⟩ ⟨⟨_,rfl,rfl,rfl⟩,⟨_,rfl,rfl,rfl⟩,⟨_,rfl,rfl⟩,⟨_,rfl,rfl⟩,trivial⟩,?_⟩;refine qF (fun _:Unit=>gst [(1,.c (.p 0 0 3 0 0)),(3,.c (.gs 1 0)),(11,.c (.int .i64 n)),nt 12 i] (gwb n (i+1) 0 p A)) (fun _=>True) ?_ fun _ _=>?_;rotate_left
    ·refine so1 ?_;conv=>whnf
     repeat (refine⟨by first | exact r1 | exact r2 | exact r3 | exact ib rfl | exact ixl rfl,?_⟩;conv=>whnf)
     exact⟨i+1,by omega,Weak.gen (some 0 :: some 1 :: (List.range n).map fun k=>some (k+2)) rfl ⟨Rf.boxK rfl rfl,⟨_,rfl,rfl,rfl,rfl,rfl,fun x y hx hy=>vp (x:=x) (y:=y) rfl rfl hx⟩,by repeat (first | exact trivial | refine⟨rs rfl,?_⟩)⟩ ⟨⟨_,rfl,rfl,rfl⟩,⟨_,rfl,rfl,rfl⟩,⟨_,rfl,rfl⟩,⟨_,rfl,rfl⟩,trivial⟩,ilt⟩
    refine qq ?_;refine sq1 ?_;conv=>whnf
    refine⟨gst [(1,.c (.p 0 0 3 0 0)),(3,.c (.gs 1 0)),(11,.c (.int .i64 n)),nt 12 i,nt 4 i] (gwb n i 0 p A),Weak.gen (some 0 :: some 1 :: (List.range n).map fun k=>some (k+2)) rfl ⟨Rf.boxK rfl rfl,⟨_,rfl,rfl,rfl,rfl,rfl,fun x y hx hy=>vp (x:=x) (y:=y) rfl rfl hx⟩,by repeat (first | exact trivial | refine⟨rs rfl,?_⟩)⟩ ⟨⟨_,rfl,rfl,rfl⟩,⟨_,rfl,rfl,rfl⟩,⟨_,rfl,rfl⟩,⟨_,rfl,rfl⟩,⟨_,rfl,rfl⟩,trivial⟩,?_⟩;refine sq1 ?_;conv=>whnf
    repeat (refine⟨by first | exact r1 | exact r2 | exact r3 | exact ib rfl | exact ixl rfl,?_⟩;conv=>whnf)
    refine⟨(fun x:Nat=>gst [(1,.c (.p 0 0 3 0 0)),(3,.c (.gs 1 0)),(11,.c (.int .i64 n)),nt 12 i,nt 4 i,(26,.c (.row 4 n (qlF fun k=>p (i*n+k)))),(27,.c (.int .i64 n)),nt 28 x] (gwb n i x p A)) 0,Weak.gen (some 0 :: some 1 :: (List.range n).map fun k=>some (k+2)) rfl ⟨Rf.boxK rfl rfl,⟨_,rfl,rfl,rfl,rfl,rfl,fun x y hx hy=>vp (x:=x) (y:=y) rfl rfl hx⟩,by repeat (first | exact trivial | refine⟨rs rfl,?_⟩)⟩ ⟨⟨_,rfl,rfl,rfl⟩,⟨_,rfl,rfl,rfl⟩,⟨_,rfl,rfl⟩,⟨_,rfl,rfl⟩,⟨_,rfl,rfl⟩,rO rfl,⟨_,rfl,rfl⟩,⟨_,rfl,rfl⟩,trivial⟩,?_⟩;refine qq (qZ (fun x:Nat=>gst [(1,.c (.p 0 0 3 0 0)),(3,.c (.gs 1 0)),(11,.c (.int .i64 n)),nt 12 i,nt 4 i,(26,.c (.row 4 n (qlF fun k=>p (i*n+k)))),(27,.c (.int .i64 n)),nt 28 x] (gwb n i x p A)) (fun x=>n-x) (fun x=>x<=n) 0 (Weak.refl _) (Nat.zero_le _) fun x hx=>?_);have hN:=hN x ilt;have hx:x<=n:=hx;have hj0:(0:Int)<=(x:Int):=by omega
    refine so1 ?_;conv=>whnf
    refine qg (fun(h:decide ((x:Int)<(n:Int))=true)=>?_) fun(h:decide ((x:Int)<(n:Int))=false)=>?_
    ·have h:=of_decide_eq_true h;have hN:=hN (by omega);have hj1:(x:Int)<(n:Int):=h;conv=>whnf
     repeat (refine⟨by first | exact hj0 | exact hj1 | exact ib rfl | exact ixl rfl,?_⟩;conv=>whnf)
     refine⟨_,hN,?_⟩;conv=>whnf
     refine .inr ⟨rfl,?_⟩;conv=>whnf
     refine⟨by show x+1<=16777216;omega,fun a b ha hb=>Rf.one_nq (A i x) true a b ha hb,?_⟩;conv=>whnf
     repeat (refine⟨by first | exact r1 | exact r2 | exact r3 | exact ib rfl | exact ixl rfl,?_⟩;conv=>whnf)
     refine⟨qz (by omega) (by omega),?_⟩;conv=>whnf
     exact⟨x+1,by omega,Weak.gen (some 0 :: some 1 :: (List.range n).map fun k=>some (k+2)) rfl ⟨Rf.boxK rfl rfl,⟨_,rfl,rfl,rfl,rfl,rfl,fun x y hx hy=>gs_upd (i:=i) (x:=x) (y:=y) rfl hx hy⟩,by repeat (first | exact trivial | refine⟨rs rfl,?_⟩ | refine⟨⟨_,rfl,rfl,rfl,rfl,rfl,fun x y hx hy=>row_app hx hy⟩,?_⟩)⟩ ⟨⟨_,rfl,rfl,rfl⟩,⟨_,rfl,rfl,rfl⟩,⟨_,rfl,rfl⟩,⟨_,rfl,rfl⟩,⟨_,rfl,rfl⟩,rO rfl,⟨_,rfl,rfl⟩,⟨_,rfl,rfl⟩,trivial⟩,by show x+1<=n;omega⟩
    ·have h:=of_decide_eq_false h;obtain rfl:x=n:=by omega
     conv=>whnf
     exact⟨(),trivial,Weak.gen (some 0 :: some 1 :: (List.range n).map fun k=>some (k+2)) rfl ⟨Rf.boxK rfl rfl,⟨_,rfl,rfl,rfl,rfl,rfl,fun x y hx hy=>vp (x:=x) (y:=y) rfl rfl hx⟩,by repeat (first | exact trivial | refine⟨rs rfl,?_⟩)⟩ ⟨⟨_,rfl,rfl,rfl⟩,⟨_,rfl,rfl,rfl⟩,⟨_,rfl,rfl⟩,⟨_,rfl,rfl⟩,trivial⟩⟩))
set_option maxHeartbeats 64000000 in
set_option maxRecDepth 100000 in
theorem hess_0 (M:Nat->Nat->Rat) {L:Nat} (_:Bq 0 L M) (_:1<=L) (_:16*KB 0 L+16<=LIM):FnT Tryz.prog true 40 1 ([gG 0 idn].map gb) [.c (.gs 0 0)] (.c .any) ([gG 0 idn].map gb):=by
 refine jX (E:=E1m) wj Tryz.func40 rfl (by kernel_rfl) ?_;refine sq ?_;conv=>whnf
 refine⟨(fun m:Nat=>gst [(0,.c (.gs 0 0)),(2,.c (.int .i64 ((m:Nat):Int)))] [gG 0 idn]) 1,Weak.genT [some 0] rfl rfl ⟨_,rfl,rfl,by decide⟩ ⟨⟨_,rfl,rfl,rfl,rfl,rfl,cells0⟩,trivial⟩ ⟨⟨_,rfl,rfl,rfl⟩,⟨_,rfl,rfl⟩,trivial⟩,?_⟩;refine qq (qZ (fun m:Nat=>gst [(0,.c (.gs 0 0)),(2,.c (.int .i64 ((m:Nat):Int)))] [gG 0 idn]) (fun m=>1-m) (fun m=>1<=m/\m<=1) 1 (Weak.refl _) (by decide) fun m hm=>?_);obtain rfl:m=1:=by omega
 refine so ?_;conv=>whnf
 repeat (refine⟨by first | decide | exact ixl rfl | exact rgl rfl,?_⟩;conv=>whnf)
 exact Weak.genT (tl:=[(0,.c .any)]) (xs:=[gG 0 idn]) [some 0] rfl rfl ⟨_,rfl,rfl,by decide⟩ ⟨⟨_,rfl,rfl,rfl,rfl,rfl,cells0⟩,trivial⟩ ⟨⟨rfl,rfl⟩,trivial⟩
set_option maxHeartbeats 64000000 in
set_option maxRecDepth 100000 in
theorem hess_1 (M:Nat->Nat->Rat) {L:Nat} (_:Bq 1 L M) (_:1<=L) (_:16*KB 1 L+16<=LIM):FnT Tryz.prog true 40 1 ([gG 1 idn,gq 1 (M 0)].map gb) [.c (.gs 0 0)] (.c .any) ([gG 1 idn,gq 1 (hsn 1 M 0)].map gb):=by
 refine jX (E:=E1m) wj Tryz.func40 rfl (by kernel_rfl) ?_;refine sq ?_;conv=>whnf
 refine⟨(fun m:Nat=>gst [(0,.c (.gs 0 0)),(2,.c (.int .i64 ((m:Nat):Int)))] [gG 1 idn,gq 1 (hs 1 M m 0)]) 1,Weak.genT [some 0,some 1] rfl rfl ⟨_,rfl,rfl,by decide⟩ ⟨gk1 rfl,rs rfl,trivial⟩ ⟨⟨_,rfl,rfl,rfl⟩,⟨_,rfl,rfl⟩,trivial⟩,?_⟩;refine qq (qZ (fun m:Nat=>gst [(0,.c (.gs 0 0)),(2,.c (.int .i64 ((m:Nat):Int)))] [gG 1 idn,gq 1 (hs 1 M m 0)]) (fun m=>2-m) (fun m=>1<=m/\m<=1) 1 (Weak.refl _) (by decide) fun m hm=>?_);obtain rfl:m=1:=by omega
 refine so ?_;conv=>whnf
 repeat (refine⟨by first | decide | exact ixl rfl | exact rgl rfl,?_⟩;conv=>whnf)
 exact Weak.genT (tl:=[(0,.c .any)]) (xs:=[gG 1 idn,gq 1 (hsn 1 M 0)]) [some 0,some 1] rfl rfl ⟨_,rfl,rfl,by decide⟩ ⟨gk1 rfl,rs rfl,trivial⟩ ⟨⟨rfl,rfl⟩,trivial⟩
set_option maxHeartbeats 64000000 in
set_option maxRecDepth 100000 in
theorem hess_2 (M:Nat->Nat->Rat) {L:Nat} (_:Bq 2 L M) (_:1<=L) (_:16*KB 2 L+16<=LIM):FnT Tryz.prog true 40 1 ([gG 2 idn,gq 2 (M 0),gq 2 (M 1)].map gb) [.c (.gs 0 0)] (.c .any) ([gG 2 idn,gq 2 (hsn 2 M 0),gq 2 (hsn 2 M 1)].map gb):=by
 refine jX (E:=E1m) wj Tryz.func40 rfl (by kernel_rfl) ?_;refine sq ?_;conv=>whnf
 refine⟨(fun m:Nat=>gst [(0,.c (.gs 0 0)),(2,.c (.int .i64 ((m:Nat):Int)))] [gG 2 idn,gq 2 (hs 2 M m 0),gq 2 (hs 2 M m 1)]) 1,Weak.genT [some 0,some 1,some 2] rfl rfl ⟨_,rfl,rfl,by decide⟩ ⟨gk2 rfl,rs rfl,rs rfl,trivial⟩ ⟨⟨_,rfl,rfl,rfl⟩,⟨_,rfl,rfl⟩,trivial⟩,?_⟩;refine qq (qZ (fun m:Nat=>gst [(0,.c (.gs 0 0)),(2,.c (.int .i64 ((m:Nat):Int)))] [gG 2 idn,gq 2 (hs 2 M m 0),gq 2 (hs 2 M m 1)]) (fun m=>3-m) (fun m=>1<=m/\m<=1) 1 (Weak.refl _) (by decide) fun m hm=>?_);obtain rfl:m=1:=by omega
 refine so ?_;conv=>whnf
 repeat (refine⟨by first | decide | exact ixl rfl | exact rgl rfl,?_⟩;conv=>whnf)
 exact Weak.genT (tl:=[(0,.c .any)]) (xs:=[gG 2 idn,gq 2 (hsn 2 M 0),gq 2 (hsn 2 M 1)]) [some 0,some 1,some 2] rfl rfl ⟨_,rfl,rfl,by decide⟩ ⟨gk2 rfl,rs rfl,rs rfl,trivial⟩ ⟨⟨rfl,rfl⟩,trivial⟩
set_option maxHeartbeats 64000000 in
set_option maxRecDepth 100000 in
theorem hess3 (M:Nat->Nat->Rat) {K:Nat} (hA:∀ m,1<=m->m+1<3->Bq 3 K (hs 3 M m)) (hE:∀ m t,1<=m->m+1<3->pv 3 (hs 3 M m) m<3->m+t<3->Bq 3 K (el m (xch (sw (pv 3 (hs 3 M m) m) m) (hs 3 M m)) t)) (hK:1<=K) (hL:16*K+16<=LIM):FnT Tryz.prog true 40 1 ((R3 M).map gb) [.c (.gs 0 0)] (.c .any) ((R3 (hsn 3 M)).map gb):=by
 refine jX (E:=E1m) wj Tryz.func40 rfl (by kernel_rfl) ?_;refine sq ?_;conv=>whnf
 refine⟨(fun m:Nat=>gst [ng 0,nt 2 m] (R3 (hs 3 M m))) 1,ws3 ⟨⟨_,rfl,rfl,rfl⟩,⟨_,rfl,rfl⟩,trivial⟩,?_⟩;refine qq (qZ (fun m:Nat=>gst [ng 0,nt 2 m] (R3 (hs 3 M m))) (fun m=>4-m) (fun m=>1<=m/\m<=2) 1 (Weak.refl _) (by decide) fun m hm=>?_);rcases Nat.lt_or_ge (m+1) 3 with hlt | hge;rotate_left
 ·obtain rfl:m=2:=by omega
  refine so ?_;conv=>whnf
  repeat (refine⟨by first | exact ib rfl | exact ia rfl | exact rgl rfl,?_⟩;conv=>whnf)
  exact wt (tl:=[(0,.c .any)]) (xs:=R3 (hsn 3 M)) (ks:=[some 0,some 1,some 2,some 3]) ⟨gk3 rfl,rs rfl,rs rfl,rs rfl,trivial⟩ ⟨⟨rfl,rfl⟩,trivial⟩
 have m1:=hm.1;have hA:=hA m m1 hlt;have hE:=fun hp t ht=>hE m t m1 hlt hp ht;have hpiv:=fun(hp:pv 3 (hs 3 M m) m<3) (t:Nat)=>el_piv m1 hlt hp t;refine sq ?_;conv=>whnf
 refine⟨qz (by omega) (by omega),?_⟩;conv=>whnf
 refine xG (show decide (((m:Nat):Int)+1<3)=true from decide_eq_true (by omega)) ?_;conv=>whnf
 refine⟨gst [ng 0,nt 2 m] (R3 (hs 3 M m)),ws3 ⟨⟨_,rfl,rfl,rfl⟩,⟨_,rfl,rfl⟩,trivial⟩,?_⟩;refine qF (fun _:Unit=>gst [ng 0,nt 2 m] (R3 (stp 3 m (hs 3 M m)))) (fun _=>True) ?_ fun _ _=>?_;rotate_left
 ·refine so ?_;conv=>whnf
  refine⟨qz (by omega) (by omega),?_⟩;conv=>whnf
  exact⟨m+1,by omega,we3 (fun b x hb hx=>congrFun (congrFun (hs_succ 3 M m1) b) x) ⟨⟨_,rfl,rfl,rfl⟩,⟨_,rfl,rfl⟩,trivial⟩,by omega,by omega⟩
 refine qq ?_;generalize hs 3 M m=A at *;have cT:(((m:Nat):Int)-1).toNat=m-1:=by omega
 have cR:inR .i64 (((m:Nat):Int)-1):=qz (by omega) (by omega);have c0:(0:Int)<=((m:Nat):Int)-1:=by omega
 have c1:((m:Nat):Int)-1<((3:Nat):Int):=by omega
 have nz:∀ a,a<3->FnOK Tryz.prog true 47 [.g (nq (A a (((m:Nat):Int)-1).toNat))] (.c (.bool (decide (A a (m-1)≠0)))):=fun a ha=>by
  rw[cT];exact nz_ok (hA a (m-1) ha (by omega)) (by omega)
 obtain⟨p1,p2,-,-⟩:=WG 3 A (show m<=3 by omega);generalize hpv:pv 3 A m=P at *;refine sq ?_;conv=>whnf
 refine⟨(fun a:Nat=>gst [ng 0,nt 2 m,nt 3 a] (R3 A)) m,ws3 ⟨⟨_,rfl,rfl,rfl⟩,⟨_,rfl,rfl⟩,⟨_,rfl,rfl⟩,trivial⟩,?_⟩;refine qF (fun _:Unit=>(fun a:Nat=>gst [ng 0,nt 2 m,nt 3 a] (R3 A)) P) (fun _=>True) ?_ fun _ _=>?_
 ·refine qq (qZ (fun a:Nat=>gst [ng 0,nt 2 m,nt 3 a] (R3 A)) (fun a=>3-a) (fun a=>m<=a/\a<=3/\pvf A (m-1) (3-a) a=P) m (Weak.refl _) ⟨Nat.le_refl m,by omega,hpv⟩ fun a ha=>?_);obtain⟨a1,a2,a3⟩:=ha;rcases Nat.lt_or_ge a 3 with alt | age;rotate_left
  ·obtain rfl:a=3:=by omega
   refine so ?_;conv=>whnf
   have eP:3=P:=a3;exact⟨(),trivial,ws3 ⟨⟨_,rfl,rfl,rfl⟩,⟨_,rfl,rfl⟩,⟨_,rfl,by rw[<- eP]⟩,trivial⟩⟩
  have nz:=nz a alt;have n0:A a (m-1)=0->pvf A (m-1) (3-(a+1)) (a+1)=P:=fun h=>by rw[<- a3,show 3-a=3-(a+1)+1 by omega,pvf_next h]
  have n1:A a (m-1)≠0->a=P:=fun h=>by rw[<- a3,show 3-a=3-(a+1)+1 by omega,pvf_stop h]
  have e:a=0∨a=1∨a=2:=by omega
  have F:_/\_/\_/\_/\_:=⟨nz,n0,n1,alt,a1⟩;clear a2 a3 nz n0 n1 alt a1;revert F;rcases e with e | e | e <;> (
   apply yb e;intro a F;obtain⟨nz,n0,n1,alt,a1⟩:=F;refine so ?_;conv=>whnf
   repeat (refine⟨by first | exact cR | exact c0 | exact c1 | exact ib rfl | exact ixl rfl,?_⟩;conv=>whnf)
   refine⟨_,nz,?_⟩;conv=>whnf
   refine qg (fun(h:(!decide (A a (m-1)≠0))=true)=>?_) fun(h:(!decide (A a (m-1)≠0))=false)=>?_
   ·have h0:A a (m-1)=0:=by simpa using h
    conv=>whnf
    refine⟨qz (by omega) (by omega),?_⟩;conv=>whnf
    exact⟨a+1,by omega,ws3 ⟨⟨_,rfl,rfl,rfl⟩,⟨_,rfl,rfl⟩,⟨_,rfl,rfl⟩,trivial⟩,by omega,by omega,n0 h0⟩
   ·have h0:A a (m-1)≠0:=by simpa using h
    conv=>whnf
    exact⟨(),trivial,ws3 ⟨⟨_,rfl,rfl,rfl⟩,⟨_,rfl,rfl⟩,⟨_,rfl,by rw[<- n1 h0]⟩,trivial⟩⟩)
 refine V4 (fun _:Unit=>gst [ng 0,nt 2 m] (R3 (xch (sw P m) A))) (fun _=>P<3) ?_ fun _ hP=>?_
 ·rcases Nat.lt_or_ge P 3 with hP | hP;rotate_left
  ·obtain rfl:P=3:=by omega
   refine so ?_;conv=>whnf
   exact⟨(),trivial,we3 (fun b x hb hx=>stp_none hpv b x) ⟨⟨_,rfl,rfl,rfl⟩,⟨_,rfl,rfl⟩,trivial⟩⟩
  refine so ?_;conv=>whnf
  refine jj (show decide (((P:Nat):Int)=3)=false from decide_eq_false (by omega)) ?_;conv=>whnf
  rcases Nat.lt_or_ge m P with hm2 | hm2;rotate_left
  ·obtain rfl:m=P:=by omega
   refine so ?_;conv=>whnf
   refine jj (show(!decide (((m:Nat):Int)=(m:Nat)))=false by simp) ?_;conv=>whnf
   exact⟨(),hP,we3 (fun b x hb hx=>xch_self A b x) ⟨⟨_,rfl,rfl,rfl⟩,⟨_,rfl,rfl⟩,trivial⟩⟩
  refine sq ?_;conv=>whnf
  refine⟨gst [ng 0,nt 2 m,nt 3 P,(41,.c (.bool true))] (R3 A),ws3 ⟨⟨_,rfl,rfl,rfl⟩,⟨_,rfl,rfl⟩,⟨_,rfl,rfl⟩,⟨_,rfl,by simp;omega⟩,trivial⟩,?_⟩;refine swp_cond (b:=true) rfl (fun _=>?_) fun h=>absurd h (by decide);refine vK wj (pre:=[_,_,_]) (post:=[]) rfl rfl (by kernel_rfl) ?_;conv=>whnf
  refine⟨1,_,by decide,OpGoT.call0 (f:=92) (cs:=[]) rfl rfl U3 (exch_3 A hm2 hP) (jp (jp (jp (Vg (tl:=[ng 0,nt 2 m,nt 3 P,(41,.c (.bool true))]) ⟨rfl,rfl,rfl,rfl,trivial⟩) rfl) rfl) rfl),?_⟩;conv=>whnf
  exact⟨(),hP,ws3 ⟨⟨_,rfl,rfl,rfl⟩,⟨_,rfl,rfl⟩,trivial⟩⟩
 have hE:=hE hP;have hpiv:=hpiv hP;have hst:=fun b x=>stp_some hpv hP b x;clear nz p1 hpv hA;generalize stp 3 m A=Z at *;generalize xch (sw P m) A=A1 at *;clear hP p2;refine sq ?_;conv=>whnf
 refine⟨qz (by omega) (by omega),?_⟩;conv=>whnf
 refine⟨(fun t:Nat=>gst [ng 0,nt 2 m,nt 4 (m+1+t)] (R3 (el m A1 t))) 0,ws3 ⟨⟨_,rfl,rfl,rfl⟩,⟨_,rfl,rfl⟩,⟨_,rfl,rfl⟩,trivial⟩,?_⟩;refine qq (qZ (fun t:Nat=>gst [ng 0,nt 2 m,nt 4 (m+1+t)] (R3 (el m A1 t))) (fun t=>3-t) (fun t=>m+1+t<=3) 0 (Weak.refl _) (by omega) fun t ht=>?_);have ht:m+1+t<=3:=ht;rcases Nat.lt_or_ge (m+1+t) 3 with tlt | tge;rotate_left
 ·obtain rfl:t=2-m:=by omega
  refine so ?_;conv=>whnf
  refine jj (show decide (((m+1+(2-m):Nat):Int)<3)=false from decide_eq_false (by omega)) ?_;conv=>whnf
  exact⟨(),trivial,we3 (fun b x hb hx=>hst b x) ⟨⟨_,rfl,rfl,rfl⟩,⟨_,rfl,rfl⟩,trivial⟩⟩
 clear hst ht;obtain⟨i,hi⟩:∃ i,i=m+1+t:=⟨_,rfl⟩;have hB:=hE t (by omega);have hq:=hpiv t;clear hE hpiv;refine sq ?_;conv=>whnf
 refine xG (show decide (((m+1+t:Nat):Int)<3)=true from decide_eq_true (by omega)) ?_;conv=>whnf
 refine⟨gst [ng 0,nt 2 m,nt 4 i] (R3 (el m A1 t)),ws3 ⟨⟨_,rfl,rfl,rfl⟩,⟨_,rfl,rfl⟩,⟨_,rfl,by rw[hi]⟩,trivial⟩,?_⟩;refine qF (fun _:Unit=>gst [ng 0,nt 2 m,nt 4 i] (R3 (el1 m i (el m A1 t)))) (fun _=>True) ?_ fun _ _=>?_;rotate_left
 ·refine so ?_;conv=>whnf
  refine⟨qz (by omega) (by omega),?_⟩;conv=>whnf
  exact⟨t+1,by omega,we3 (fun b x hb hx=>by rw[hi];rfl) ⟨⟨_,rfl,rfl,rfl⟩,⟨_,rfl,rfl⟩,⟨_,rfl,by omega⟩,trivial⟩,by show m+1+(t+1)<=3;omega⟩
 refine qq ?_;generalize el m A1 t=B at *;have im:m<i:=by omega
 have i5:i<3:=by omega
 have m5:m<3:=by omega
 have c5:m-1<3:=by omega
 have hx:∀ a b,a<3->b<3->qlen (B a b)<=K:=hB;have nz:=nz_ok (x:=B i (m-1)) (hx i (m-1) i5 c5) (by omega);have kq:=qquo_n (hx i (m-1) i5 c5) (hx m (m-1) m5 c5) (by omega) hq rfl;have hu:qlen (B i (m-1) / B m (m-1))<=2*K:=Nat.le_trans (q_div (hx i (m-1) i5 c5) (hx m (m-1) m5 c5) (by omega)) (by omega);have hel:=fun(h0:¬ B i (m-1)=0) a b=>el1_some (m:=m) (i:=i) (A:=B) h0 rfl a b;have hez:=fun(h0:B i (m-1)=0) a b=>el1_zero (m:=m) (i:=i) (A:=B) h0 a b;change ∀(h0:¬ B i (m-1)=0) (a b:Nat),el1 m i B a b=ca (B i (m-1) / B m (m-1)) i m (ra (B i (m-1) / B m (m-1)) i m B) a b at hel;generalize el1 m i B=Y at *;generalize B i (m-1) / B m (m-1)=u at *;have v1:∀ j,j<3->FnOK Tryz.prog true 46 [.g (nq u),.g (nq (md1 u i m B j m j))] (.g (nq (u*B m j))):=fun j hj=>Uf hu (by rw[md1_m u (by omega)];exact hx m j m5 hj) (by omega) (by rw[md1_m u (by omega)]);have v2:∀ j,j<3->FnOK Tryz.prog true 50 [.g (nq (md1 u i m B j i j)),.g (nq (u*B m j))] (.g (nq (B i j-u*B m j))):=fun j hj=>qsub_n (by rw[Xj];exact hx i j i5 hj) (kb hu (hx m j m5 hj) (by omega)) (by omega) (by omega) (by rw[Xj]);have hR:=ra_kb (i:=i) hB hu m5 hK;have w1:∀ j,j<3->FnOK Tryz.prog true 46 [.g (nq u),.g (nq (md2 u i m (ra u i m B) j j i))] (.g (nq (u*ra u i m B j i))):=fun j hj=>Uf hu (by rw[kP];exact hR j i hj i5) (by omega) (by rw[kP]);have w2:∀ j,j<3->FnOK Tryz.prog true 93 [.g (nq (md2 u i m (ra u i m B) j j m)),.g (nq (u*ra u i m B j i))] (.g (nq (ra u i m B j m+u*ra u i m B j i))):=fun j hj=>qadd_n (by rw[kP];exact hR j m hj m5) (kb hu (hR j i hj i5) (by omega)) (by omega) (by rw[kP]);have e:m=1:=by omega
 clear hR hu hx hB hq hi tlt cT c0 c1 hm hlt m1;have F:_/\_/\_/\_/\_/\_/\_/\_/\_/\_:=⟨cR,im,nz,kq,hel,hez,v1,v2,w1,w2⟩;clear cR im nz kq hel hez v1 v2 w1 w2 m5 c5;revert F;rcases e with e <;> (
  apply yb e;intro m F;have e:i=2:=by omega
  revert F;rcases e with e <;> (
   apply yb e;intro i F;obtain⟨cR,im,nz,kq,hel,hez,v1,v2,w1,w2⟩:=F;first
   | exact absurd im (of_decide_eq_false rfl)
   | (
    refine sq ?_;conv=>whnf
    repeat (refine⟨by first | exact cR | exact ib rfl | exact ixl rfl,?_⟩;conv=>whnf)
    refine⟨_,nz,?_⟩;conv=>whnf
    refine qg (fun(h:(!decide (B i (m-1)≠0))=true)=>?_) fun(h:(!decide (B i (m-1)≠0))=false)=>?_
    ·have h0:B i (m-1)=0:=by simpa using h
     conv=>whnf
     exact⟨(),trivial,we3 (fun b x hb hx=>hez h0 b x) ⟨⟨_,rfl,rfl,rfl⟩,⟨_,rfl,rfl⟩,⟨_,rfl,rfl⟩,trivial⟩⟩
    have h0:¬ B i (m-1)=0:=by simpa using h
    conv=>whnf
    refine⟨gst [ng 0,nt 2 m,nt 4 i] (R3 B),ws3 ⟨⟨_,rfl,rfl,rfl⟩,⟨_,rfl,rfl⟩,⟨_,rfl,rfl⟩,trivial⟩,?_⟩;have hel:=hel h0;refine sq ?_;conv=>whnf
    repeat (refine⟨by first | exact cR | exact ib rfl | exact ixl rfl,?_⟩;conv=>whnf)
    refine⟨_,kq,?_⟩;conv=>whnf
    refine⟨gst [ng 0,nt 2 m,nt 4 i,(5,.c (.p 4 0 4 0 0))] (R3b B u),wt (ks:=[some 0,some 1,some 2,some 3,some 24]) ⟨gk3 rfl,rs rfl,rs rfl,rs rfl,Rf.boxU rfl rfl rfl,trivial⟩ ⟨⟨_,rfl,rfl,rfl⟩,⟨_,rfl,rfl⟩,⟨_,rfl,rfl⟩,⟨_,rfl,rfl,rfl⟩,trivial⟩,?_⟩;refine qF (fun _:Unit=>gst [ng 0,nt 2 m,nt 4 i,(5,.c (.p 4 0 4 0 0))] (R3b (ra u i m B) u)) (fun _=>True) ?_ fun _ _=>?_
    ·refine sq ?_;conv=>whnf
     repeat (refine⟨by first | exact cR | exact ib rfl | exact ixl rfl,?_⟩;conv=>whnf)
     refine⟨(fun j:Nat=>gst [ng 0,nt 2 m,nt 4 i,(5,.c (.p 4 0 4 0 0)),(85,.c (.int .i64 3)),nt 86 j] (R3b (md1 u i m B j) u)) 0,wbe3 (fun b x hb hx=>md1_zero u _ _ B b x) ⟨⟨_,rfl,rfl,rfl⟩,⟨_,rfl,rfl⟩,⟨_,rfl,rfl⟩,⟨_,rfl,rfl,rfl⟩,⟨_,rfl,rfl⟩,⟨_,rfl,rfl⟩,trivial⟩,?_⟩;refine qq (qZ (fun j:Nat=>gst [ng 0,nt 2 m,nt 4 i,(5,.c (.p 4 0 4 0 0)),(85,.c (.int .i64 3)),nt 86 j] (R3b (md1 u i m B j) u)) (fun j=>3-j) (fun j=>j<=3) 0 (Weak.refl _) (Nat.zero_le _) fun j hj=>?_);have v1:=v1 j;have v2:=v2 j;have hj0:(0:Int)<=(j:Int):=by omega
     refine so ?_;conv=>whnf
     refine qg (fun(h:decide ((j:Int)<3)=true)=>?_) fun(h:decide ((j:Int)<3)=false)=>?_
     ·have h:=of_decide_eq_true h;have v1:=v1 (by omega);have v2:=v2 (by omega);have hj1:(j:Int)<((3:Nat):Int):=by omega
      conv=>whnf
      repeat (refine⟨by first | exact hj0 | exact hj1 | exact ib rfl | exact ixl rfl,?_⟩;conv=>whnf)
      refine⟨_,v1,?_⟩;conv=>whnf
      repeat (refine⟨by first | exact hj0 | exact hj1 | exact ib rfl | exact ixl rfl,?_⟩;conv=>whnf)
      refine⟨_,v2,?_⟩;conv=>whnf
      repeat (refine⟨by first | exact hj0 | exact hj1 | exact ib rfl | exact ixl rfl,?_⟩;conv=>whnf)
      refine⟨qz (by omega) (by omega),?_⟩;conv=>whnf
      exact⟨j+1,by omega,wt (ks:=[some 0,some 1,some 2,some 3,some 4]) ⟨gk3 rfl,by first | exact mk1 rfl | exact mu1 rfl,by first | exact mk1 rfl | exact mu1 rfl,by first | exact mk1 rfl | exact mu1 rfl,Rf.boxK rfl rfl,trivial⟩ ⟨⟨_,rfl,rfl,rfl⟩,⟨_,rfl,rfl⟩,⟨_,rfl,rfl⟩,⟨_,rfl,rfl,rfl⟩,⟨_,rfl,rfl⟩,⟨_,rfl,rfl⟩,trivial⟩,by omega⟩
     ·have h:=of_decide_eq_false h;obtain rfl:j=3:=by omega
      conv=>whnf
      exact⟨(),trivial,wbe3 (fun b x hb hx=>md1_all u _ _ B hx b) ⟨⟨_,rfl,rfl,rfl⟩,⟨_,rfl,rfl⟩,⟨_,rfl,rfl⟩,⟨_,rfl,rfl,rfl⟩,trivial⟩⟩
    generalize ra u i m B=D at *;clear v1 v2 nz kq;refine sq ?_;conv=>whnf
    repeat (refine⟨by first | exact cR | exact ib rfl | exact ixl rfl,?_⟩;conv=>whnf)
    refine⟨(fun j:Nat=>gst [ng 0,nt 2 m,nt 4 i,(5,.c (.p 4 0 4 0 0)),(114,.c (.int .i64 3)),nt 115 j] (R3b (md2 u i m D j) u)) 0,wbe3 (fun b x hb hx=>md2_zero u _ _ D b x) ⟨⟨_,rfl,rfl,rfl⟩,⟨_,rfl,rfl⟩,⟨_,rfl,rfl⟩,⟨_,rfl,rfl,rfl⟩,⟨_,rfl,rfl⟩,⟨_,rfl,rfl⟩,trivial⟩,?_⟩;refine qq (qZ (fun j:Nat=>gst [ng 0,nt 2 m,nt 4 i,(5,.c (.p 4 0 4 0 0)),(114,.c (.int .i64 3)),nt 115 j] (R3b (md2 u i m D j) u)) (fun j=>3-j) (fun j=>j<=3) 0 (Weak.refl _) (Nat.zero_le _) fun j hj=>?_);rcases Nat.lt_or_ge j 3 with jlt | jge;rotate_left
    ·obtain rfl:j=3:=Nat.le_antisymm hj jge;refine so ?_;conv=>whnf
     exact⟨(),trivial,we3 (fun b x hb hx=>(hel b x).trans (md2_all u _ _ D hb x)) ⟨⟨_,rfl,rfl,rfl⟩,⟨_,rfl,rfl⟩,⟨_,rfl,rfl⟩,trivial⟩⟩
    have w1:=w1 j jlt;have w2:=w2 j jlt;have e:j=0∨j=1∨j=2:=by omega
    clear hj hel hez;revert w1 w2 jlt;rcases e with e | e | e <;> (
     apply yb e;intro j jlt w1 w2;refine so ?_;conv=>whnf
     repeat (refine⟨by first | exact cR | exact ib rfl | exact ixl rfl,?_⟩;conv=>whnf)
     refine⟨_,w1,?_⟩;conv=>whnf
     repeat (refine⟨by first | exact cR | exact ib rfl | exact ixl rfl,?_⟩;conv=>whnf)
     refine⟨_,w2,?_⟩;conv=>whnf
     repeat (refine⟨by first | exact ib rfl | exact ixl rfl,?_⟩;conv=>whnf)
     refine⟨qz (by omega) (by omega),?_⟩;conv=>whnf
     exact⟨j+1,by omega,wt (ks:=[some 0,some 1,some 2,some 3,some 4]) ⟨gk3 rfl,by first | exact mk2 rfl | exact mu2 rfl,by first | exact mk2 rfl | exact mu2 rfl,by first | exact mk2 rfl | exact mu2 rfl,Rf.boxK rfl rfl,trivial⟩ ⟨⟨_,rfl,rfl,rfl⟩,⟨_,rfl,rfl⟩,⟨_,rfl,rfl⟩,⟨_,rfl,rfl,rfl⟩,⟨_,rfl,rfl⟩,⟨_,rfl,rfl⟩,trivial⟩,jlt⟩))))
theorem hess_3 (M:Nat->Nat->Rat) {L:Nat} (hM:Bq 3 L M) (h1:1<=L) (hL:16*KB 3 L+16<=LIM):FnT Tryz.prog true 40 1 ((R3 M).map gb) [.c (.gs 0 0)] (.c .any) ((R3 (hsn 3 M)).map gb):=hess3 M (fun m _ h=>hs_kb hM h1 (by omega)) (fun m t h0 h hp ht=>el_kb hM h1 h0 h hp ht) (KB_pos h1) hL
set_option maxHeartbeats 64000000 in
set_option maxRecDepth 100000 in
theorem hess4 (M:Nat->Nat->Rat) {K:Nat} (hA:∀ m,1<=m->m+1<4->Bq 4 K (hs 4 M m)) (hE:∀ m t,1<=m->m+1<4->pv 4 (hs 4 M m) m<4->m+t<4->Bq 4 K (el m (xch (sw (pv 4 (hs 4 M m) m) m) (hs 4 M m)) t)) (hK:1<=K) (hL:16*K+16<=LIM):FnT Tryz.prog true 40 1 ((R4 M).map gb) [.c (.gs 0 0)] (.c .any) ((R4 (hsn 4 M)).map gb):=by
 refine jX (E:=E1m) wj Tryz.func40 rfl (by kernel_rfl) ?_;refine sq ?_;conv=>whnf
 refine⟨(fun m:Nat=>gst [ng 0,nt 2 m] (R4 (hs 4 M m))) 1,ws4 ⟨⟨_,rfl,rfl,rfl⟩,⟨_,rfl,rfl⟩,trivial⟩,?_⟩;refine qq (qZ (fun m:Nat=>gst [ng 0,nt 2 m] (R4 (hs 4 M m))) (fun m=>5-m) (fun m=>1<=m/\m<=3) 1 (Weak.refl _) (by decide) fun m hm=>?_);rcases Nat.lt_or_ge (m+1) 4 with hlt | hge;rotate_left
 ·obtain rfl:m=3:=by omega
  refine so ?_;conv=>whnf
  repeat (refine⟨by first | exact ib rfl | exact ia rfl | exact rgl rfl,?_⟩;conv=>whnf)
  exact wt (tl:=[(0,.c .any)]) (xs:=R4 (hsn 4 M)) (ks:=[some 0,some 1,some 2,some 3,some 4]) ⟨gk4 rfl,rs rfl,rs rfl,rs rfl,rs rfl,trivial⟩ ⟨⟨rfl,rfl⟩,trivial⟩
 have m1:=hm.1;have hA:=hA m m1 hlt;have hE:=fun hp t ht=>hE m t m1 hlt hp ht;have hpiv:=fun(hp:pv 4 (hs 4 M m) m<4) (t:Nat)=>el_piv m1 hlt hp t;refine sq ?_;conv=>whnf
 refine⟨qz (by omega) (by omega),?_⟩;conv=>whnf
 refine xG (show decide (((m:Nat):Int)+1<4)=true from decide_eq_true (by omega)) ?_;conv=>whnf
 refine⟨gst [ng 0,nt 2 m] (R4 (hs 4 M m)),ws4 ⟨⟨_,rfl,rfl,rfl⟩,⟨_,rfl,rfl⟩,trivial⟩,?_⟩;refine qF (fun _:Unit=>gst [ng 0,nt 2 m] (R4 (stp 4 m (hs 4 M m)))) (fun _=>True) ?_ fun _ _=>?_;rotate_left
 ·refine so ?_;conv=>whnf
  refine⟨qz (by omega) (by omega),?_⟩;conv=>whnf
  exact⟨m+1,by omega,we4 (fun b x hb hx=>congrFun (congrFun (hs_succ 4 M m1) b) x) ⟨⟨_,rfl,rfl,rfl⟩,⟨_,rfl,rfl⟩,trivial⟩,by omega,by omega⟩
 refine qq ?_;generalize hs 4 M m=A at *;have cT:(((m:Nat):Int)-1).toNat=m-1:=by omega
 have cR:inR .i64 (((m:Nat):Int)-1):=qz (by omega) (by omega);have c0:(0:Int)<=((m:Nat):Int)-1:=by omega
 have c1:((m:Nat):Int)-1<((4:Nat):Int):=by omega
 have nz:∀ a,a<4->FnOK Tryz.prog true 47 [.g (nq (A a (((m:Nat):Int)-1).toNat))] (.c (.bool (decide (A a (m-1)≠0)))):=fun a ha=>by
  rw[cT];exact nz_ok (hA a (m-1) ha (by omega)) (by omega)
 obtain⟨p1,p2,-,-⟩:=WG 4 A (show m<=4 by omega);generalize hpv:pv 4 A m=P at *;refine sq ?_;conv=>whnf
 refine⟨(fun a:Nat=>gst [ng 0,nt 2 m,nt 3 a] (R4 A)) m,ws4 ⟨⟨_,rfl,rfl,rfl⟩,⟨_,rfl,rfl⟩,⟨_,rfl,rfl⟩,trivial⟩,?_⟩;refine qF (fun _:Unit=>(fun a:Nat=>gst [ng 0,nt 2 m,nt 3 a] (R4 A)) P) (fun _=>True) ?_ fun _ _=>?_
 ·refine qq (qZ (fun a:Nat=>gst [ng 0,nt 2 m,nt 3 a] (R4 A)) (fun a=>4-a) (fun a=>m<=a/\a<=4/\pvf A (m-1) (4-a) a=P) m (Weak.refl _) ⟨Nat.le_refl m,by omega,hpv⟩ fun a ha=>?_);obtain⟨a1,a2,a3⟩:=ha;rcases Nat.lt_or_ge a 4 with alt | age;rotate_left
  ·obtain rfl:a=4:=by omega
   refine so ?_;conv=>whnf
   have eP:4=P:=a3;exact⟨(),trivial,ws4 ⟨⟨_,rfl,rfl,rfl⟩,⟨_,rfl,rfl⟩,⟨_,rfl,by rw[<- eP]⟩,trivial⟩⟩
  have nz:=nz a alt;have n0:A a (m-1)=0->pvf A (m-1) (4-(a+1)) (a+1)=P:=fun h=>by rw[<- a3,show 4-a=4-(a+1)+1 by omega,pvf_next h]
  have n1:A a (m-1)≠0->a=P:=fun h=>by rw[<- a3,show 4-a=4-(a+1)+1 by omega,pvf_stop h]
  have e:a=0∨a=1∨a=2∨a=3:=by omega
  have F:_/\_/\_/\_/\_:=⟨nz,n0,n1,alt,a1⟩;clear a2 a3 nz n0 n1 alt a1;revert F;rcases e with e | e | e | e <;> (
   apply yb e;intro a F;obtain⟨nz,n0,n1,alt,a1⟩:=F;refine so ?_;conv=>whnf
   repeat (refine⟨by first | exact cR | exact c0 | exact c1 | exact ib rfl | exact ixl rfl,?_⟩;conv=>whnf)
   refine⟨_,nz,?_⟩;conv=>whnf
   refine qg (fun(h:(!decide (A a (m-1)≠0))=true)=>?_) fun(h:(!decide (A a (m-1)≠0))=false)=>?_
   ·have h0:A a (m-1)=0:=by simpa using h
    conv=>whnf
    refine⟨qz (by omega) (by omega),?_⟩;conv=>whnf
    exact⟨a+1,by omega,ws4 ⟨⟨_,rfl,rfl,rfl⟩,⟨_,rfl,rfl⟩,⟨_,rfl,rfl⟩,trivial⟩,by omega,by omega,n0 h0⟩
   ·have h0:A a (m-1)≠0:=by simpa using h
    conv=>whnf
    exact⟨(),trivial,ws4 ⟨⟨_,rfl,rfl,rfl⟩,⟨_,rfl,rfl⟩,⟨_,rfl,by rw[<- n1 h0]⟩,trivial⟩⟩)
 refine V4 (fun _:Unit=>gst [ng 0,nt 2 m] (R4 (xch (sw P m) A))) (fun _=>P<4) ?_ fun _ hP=>?_
 ·rcases Nat.lt_or_ge P 4 with hP | hP;rotate_left
  ·obtain rfl:P=4:=by omega
   refine so ?_;conv=>whnf
   exact⟨(),trivial,we4 (fun b x hb hx=>stp_none hpv b x) ⟨⟨_,rfl,rfl,rfl⟩,⟨_,rfl,rfl⟩,trivial⟩⟩
  refine so ?_;conv=>whnf
  refine jj (show decide (((P:Nat):Int)=4)=false from decide_eq_false (by omega)) ?_;conv=>whnf
  rcases Nat.lt_or_ge m P with hm2 | hm2;rotate_left
  ·obtain rfl:m=P:=by omega
   refine so ?_;conv=>whnf
   refine jj (show(!decide (((m:Nat):Int)=(m:Nat)))=false by simp) ?_;conv=>whnf
   exact⟨(),hP,we4 (fun b x hb hx=>xch_self A b x) ⟨⟨_,rfl,rfl,rfl⟩,⟨_,rfl,rfl⟩,trivial⟩⟩
  refine sq ?_;conv=>whnf
  refine⟨gst [ng 0,nt 2 m,nt 3 P,(41,.c (.bool true))] (R4 A),ws4 ⟨⟨_,rfl,rfl,rfl⟩,⟨_,rfl,rfl⟩,⟨_,rfl,rfl⟩,⟨_,rfl,by simp;omega⟩,trivial⟩,?_⟩;refine swp_cond (b:=true) rfl (fun _=>?_) fun h=>absurd h (by decide);refine vK wj (pre:=[_,_,_]) (post:=[]) rfl rfl (by kernel_rfl) ?_;conv=>whnf
  refine⟨1,_,by decide,OpGoT.call0 (f:=92) (cs:=[]) rfl rfl U3 (exch_4 A hm2 hP) (jp (jp (jp (Vg (tl:=[ng 0,nt 2 m,nt 3 P,(41,.c (.bool true))]) ⟨rfl,rfl,rfl,rfl,trivial⟩) rfl) rfl) rfl),?_⟩;conv=>whnf
  exact⟨(),hP,ws4 ⟨⟨_,rfl,rfl,rfl⟩,⟨_,rfl,rfl⟩,trivial⟩⟩
 have hE:=hE hP;have hpiv:=hpiv hP;have hst:=fun b x=>stp_some hpv hP b x;clear nz p1 hpv hA;generalize stp 4 m A=Z at *;generalize xch (sw P m) A=A1 at *;clear hP p2;refine sq ?_;conv=>whnf
 refine⟨qz (by omega) (by omega),?_⟩;conv=>whnf
 refine⟨(fun t:Nat=>gst [ng 0,nt 2 m,nt 4 (m+1+t)] (R4 (el m A1 t))) 0,ws4 ⟨⟨_,rfl,rfl,rfl⟩,⟨_,rfl,rfl⟩,⟨_,rfl,rfl⟩,trivial⟩,?_⟩;refine qq (qZ (fun t:Nat=>gst [ng 0,nt 2 m,nt 4 (m+1+t)] (R4 (el m A1 t))) (fun t=>4-t) (fun t=>m+1+t<=4) 0 (Weak.refl _) (by omega) fun t ht=>?_);have ht:m+1+t<=4:=ht;rcases Nat.lt_or_ge (m+1+t) 4 with tlt | tge;rotate_left
 ·obtain rfl:t=3-m:=by omega
  refine so ?_;conv=>whnf
  refine jj (show decide (((m+1+(3-m):Nat):Int)<4)=false from decide_eq_false (by omega)) ?_;conv=>whnf
  exact⟨(),trivial,we4 (fun b x hb hx=>hst b x) ⟨⟨_,rfl,rfl,rfl⟩,⟨_,rfl,rfl⟩,trivial⟩⟩
 clear hst ht;obtain⟨i,hi⟩:∃ i,i=m+1+t:=⟨_,rfl⟩;have hB:=hE t (by omega);have hq:=hpiv t;clear hE hpiv;refine sq ?_;conv=>whnf
 refine xG (show decide (((m+1+t:Nat):Int)<4)=true from decide_eq_true (by omega)) ?_;conv=>whnf
 refine⟨gst [ng 0,nt 2 m,nt 4 i] (R4 (el m A1 t)),ws4 ⟨⟨_,rfl,rfl,rfl⟩,⟨_,rfl,rfl⟩,⟨_,rfl,by rw[hi]⟩,trivial⟩,?_⟩;refine qF (fun _:Unit=>gst [ng 0,nt 2 m,nt 4 i] (R4 (el1 m i (el m A1 t)))) (fun _=>True) ?_ fun _ _=>?_;rotate_left
 ·refine so ?_;conv=>whnf
  refine⟨qz (by omega) (by omega),?_⟩;conv=>whnf
  exact⟨t+1,by omega,we4 (fun b x hb hx=>by rw[hi];rfl) ⟨⟨_,rfl,rfl,rfl⟩,⟨_,rfl,rfl⟩,⟨_,rfl,by omega⟩,trivial⟩,by show m+1+(t+1)<=4;omega⟩
 refine qq ?_;generalize el m A1 t=B at *;have im:m<i:=by omega
 have i5:i<4:=by omega
 have m5:m<4:=by omega
 have c5:m-1<4:=by omega
 have hx:∀ a b,a<4->b<4->qlen (B a b)<=K:=hB;have nz:=nz_ok (x:=B i (m-1)) (hx i (m-1) i5 c5) (by omega);have kq:=qquo_n (hx i (m-1) i5 c5) (hx m (m-1) m5 c5) (by omega) hq rfl;have hu:qlen (B i (m-1) / B m (m-1))<=2*K:=Nat.le_trans (q_div (hx i (m-1) i5 c5) (hx m (m-1) m5 c5) (by omega)) (by omega);have hel:=fun(h0:¬ B i (m-1)=0) a b=>el1_some (m:=m) (i:=i) (A:=B) h0 rfl a b;have hez:=fun(h0:B i (m-1)=0) a b=>el1_zero (m:=m) (i:=i) (A:=B) h0 a b;change ∀(h0:¬ B i (m-1)=0) (a b:Nat),el1 m i B a b=ca (B i (m-1) / B m (m-1)) i m (ra (B i (m-1) / B m (m-1)) i m B) a b at hel;generalize el1 m i B=Y at *;generalize B i (m-1) / B m (m-1)=u at *;have v1:∀ j,j<4->FnOK Tryz.prog true 46 [.g (nq u),.g (nq (md1 u i m B j m j))] (.g (nq (u*B m j))):=fun j hj=>Uf hu (by rw[md1_m u (by omega)];exact hx m j m5 hj) (by omega) (by rw[md1_m u (by omega)]);have v2:∀ j,j<4->FnOK Tryz.prog true 50 [.g (nq (md1 u i m B j i j)),.g (nq (u*B m j))] (.g (nq (B i j-u*B m j))):=fun j hj=>qsub_n (by rw[Xj];exact hx i j i5 hj) (kb hu (hx m j m5 hj) (by omega)) (by omega) (by omega) (by rw[Xj]);have hR:=ra_kb (i:=i) hB hu m5 hK;have w1:∀ j,j<4->FnOK Tryz.prog true 46 [.g (nq u),.g (nq (md2 u i m (ra u i m B) j j i))] (.g (nq (u*ra u i m B j i))):=fun j hj=>Uf hu (by rw[kP];exact hR j i hj i5) (by omega) (by rw[kP]);have w2:∀ j,j<4->FnOK Tryz.prog true 93 [.g (nq (md2 u i m (ra u i m B) j j m)),.g (nq (u*ra u i m B j i))] (.g (nq (ra u i m B j m+u*ra u i m B j i))):=fun j hj=>qadd_n (by rw[kP];exact hR j m hj m5) (kb hu (hR j i hj i5) (by omega)) (by omega) (by rw[kP]);have e:m=1∨m=2:=by omega
 clear hR hu hx hB hq hi tlt cT c0 c1 hm hlt m1;have F:_/\_/\_/\_/\_/\_/\_/\_/\_/\_:=⟨cR,im,nz,kq,hel,hez,v1,v2,w1,w2⟩;clear cR im nz kq hel hez v1 v2 w1 w2 m5 c5;revert F;rcases e with e | e <;> (
  apply yb e;intro m F;have e:i=2∨i=3:=by omega
  revert F;rcases e with e | e <;> (
   apply yb e;intro i F;obtain⟨cR,im,nz,kq,hel,hez,v1,v2,w1,w2⟩:=F;first
   | exact absurd im (of_decide_eq_false rfl)
   | (
    refine sq ?_;conv=>whnf
    repeat (refine⟨by first | exact cR | exact ib rfl | exact ixl rfl,?_⟩;conv=>whnf)
    refine⟨_,nz,?_⟩;conv=>whnf
    refine qg (fun(h:(!decide (B i (m-1)≠0))=true)=>?_) fun(h:(!decide (B i (m-1)≠0))=false)=>?_
    ·have h0:B i (m-1)=0:=by simpa using h
     conv=>whnf
     exact⟨(),trivial,we4 (fun b x hb hx=>hez h0 b x) ⟨⟨_,rfl,rfl,rfl⟩,⟨_,rfl,rfl⟩,⟨_,rfl,rfl⟩,trivial⟩⟩
    have h0:¬ B i (m-1)=0:=by simpa using h
    conv=>whnf
    refine⟨gst [ng 0,nt 2 m,nt 4 i] (R4 B),ws4 ⟨⟨_,rfl,rfl,rfl⟩,⟨_,rfl,rfl⟩,⟨_,rfl,rfl⟩,trivial⟩,?_⟩;have hel:=hel h0;refine sq ?_;conv=>whnf
    repeat (refine⟨by first | exact cR | exact ib rfl | exact ixl rfl,?_⟩;conv=>whnf)
    refine⟨_,kq,?_⟩;conv=>whnf
    refine⟨gst [ng 0,nt 2 m,nt 4 i,(5,.c (.p 5 0 4 0 0))] (R4b B u),wt (ks:=[some 0,some 1,some 2,some 3,some 4,some 25]) ⟨gk4 rfl,rs rfl,rs rfl,rs rfl,rs rfl,Rf.boxU rfl rfl rfl,trivial⟩ ⟨⟨_,rfl,rfl,rfl⟩,⟨_,rfl,rfl⟩,⟨_,rfl,rfl⟩,⟨_,rfl,rfl,rfl⟩,trivial⟩,?_⟩;refine qF (fun _:Unit=>gst [ng 0,nt 2 m,nt 4 i,(5,.c (.p 5 0 4 0 0))] (R4b (ra u i m B) u)) (fun _=>True) ?_ fun _ _=>?_
    ·refine sq ?_;conv=>whnf
     repeat (refine⟨by first | exact cR | exact ib rfl | exact ixl rfl,?_⟩;conv=>whnf)
     refine⟨(fun j:Nat=>gst [ng 0,nt 2 m,nt 4 i,(5,.c (.p 5 0 4 0 0)),(85,.c (.int .i64 4)),nt 86 j] (R4b (md1 u i m B j) u)) 0,wbe4 (fun b x hb hx=>md1_zero u _ _ B b x) ⟨⟨_,rfl,rfl,rfl⟩,⟨_,rfl,rfl⟩,⟨_,rfl,rfl⟩,⟨_,rfl,rfl,rfl⟩,⟨_,rfl,rfl⟩,⟨_,rfl,rfl⟩,trivial⟩,?_⟩;refine qq (qZ (fun j:Nat=>gst [ng 0,nt 2 m,nt 4 i,(5,.c (.p 5 0 4 0 0)),(85,.c (.int .i64 4)),nt 86 j] (R4b (md1 u i m B j) u)) (fun j=>4-j) (fun j=>j<=4) 0 (Weak.refl _) (Nat.zero_le _) fun j hj=>?_);have v1:=v1 j;have v2:=v2 j;have hj0:(0:Int)<=(j:Int):=by omega
     refine so ?_;conv=>whnf
     refine qg (fun(h:decide ((j:Int)<4)=true)=>?_) fun(h:decide ((j:Int)<4)=false)=>?_
     ·have h:=of_decide_eq_true h;have v1:=v1 (by omega);have v2:=v2 (by omega);have hj1:(j:Int)<((4:Nat):Int):=by omega
      conv=>whnf
      repeat (refine⟨by first | exact hj0 | exact hj1 | exact ib rfl | exact ixl rfl,?_⟩;conv=>whnf)
      refine⟨_,v1,?_⟩;conv=>whnf
      repeat (refine⟨by first | exact hj0 | exact hj1 | exact ib rfl | exact ixl rfl,?_⟩;conv=>whnf)
      refine⟨_,v2,?_⟩;conv=>whnf
      repeat (refine⟨by first | exact hj0 | exact hj1 | exact ib rfl | exact ixl rfl,?_⟩;conv=>whnf)
      refine⟨qz (by omega) (by omega),?_⟩;conv=>whnf
      exact⟨j+1,by omega,wt (ks:=[some 0,some 1,some 2,some 3,some 4,some 5]) ⟨gk4 rfl,by first | exact mk1 rfl | exact mu1 rfl,by first | exact mk1 rfl | exact mu1 rfl,by first | exact mk1 rfl | exact mu1 rfl,by first | exact mk1 rfl | exact mu1 rfl,Rf.boxK rfl rfl,trivial⟩ ⟨⟨_,rfl,rfl,rfl⟩,⟨_,rfl,rfl⟩,⟨_,rfl,rfl⟩,⟨_,rfl,rfl,rfl⟩,⟨_,rfl,rfl⟩,⟨_,rfl,rfl⟩,trivial⟩,by omega⟩
     ·have h:=of_decide_eq_false h;obtain rfl:j=4:=by omega
      conv=>whnf
      exact⟨(),trivial,wbe4 (fun b x hb hx=>md1_all u _ _ B hx b) ⟨⟨_,rfl,rfl,rfl⟩,⟨_,rfl,rfl⟩,⟨_,rfl,rfl⟩,⟨_,rfl,rfl,rfl⟩,trivial⟩⟩
    generalize ra u i m B=D at *;clear v1 v2 nz kq;refine sq ?_;conv=>whnf
    repeat (refine⟨by first | exact cR | exact ib rfl | exact ixl rfl,?_⟩;conv=>whnf)
    refine⟨(fun j:Nat=>gst [ng 0,nt 2 m,nt 4 i,(5,.c (.p 5 0 4 0 0)),(114,.c (.int .i64 4)),nt 115 j] (R4b (md2 u i m D j) u)) 0,wbe4 (fun b x hb hx=>md2_zero u _ _ D b x) ⟨⟨_,rfl,rfl,rfl⟩,⟨_,rfl,rfl⟩,⟨_,rfl,rfl⟩,⟨_,rfl,rfl,rfl⟩,⟨_,rfl,rfl⟩,⟨_,rfl,rfl⟩,trivial⟩,?_⟩;refine qq (qZ (fun j:Nat=>gst [ng 0,nt 2 m,nt 4 i,(5,.c (.p 5 0 4 0 0)),(114,.c (.int .i64 4)),nt 115 j] (R4b (md2 u i m D j) u)) (fun j=>4-j) (fun j=>j<=4) 0 (Weak.refl _) (Nat.zero_le _) fun j hj=>?_);rcases Nat.lt_or_ge j 4 with jlt | jge;rotate_left
    ·obtain rfl:j=4:=Nat.le_antisymm hj jge;refine so ?_;conv=>whnf
     exact⟨(),trivial,we4 (fun b x hb hx=>(hel b x).trans (md2_all u _ _ D hb x)) ⟨⟨_,rfl,rfl,rfl⟩,⟨_,rfl,rfl⟩,⟨_,rfl,rfl⟩,trivial⟩⟩
    have w1:=w1 j jlt;have w2:=w2 j jlt;have e:j=0∨j=1∨j=2∨j=3:=by omega
    clear hj hel hez;revert w1 w2 jlt;rcases e with e | e | e | e <;> (
     apply yb e;intro j jlt w1 w2;refine so ?_;conv=>whnf
     repeat (refine⟨by first | exact cR | exact ib rfl | exact ixl rfl,?_⟩;conv=>whnf)
     refine⟨_,w1,?_⟩;conv=>whnf
     repeat (refine⟨by first | exact cR | exact ib rfl | exact ixl rfl,?_⟩;conv=>whnf)
     refine⟨_,w2,?_⟩;conv=>whnf
     repeat (refine⟨by first | exact ib rfl | exact ixl rfl,?_⟩;conv=>whnf)
     refine⟨qz (by omega) (by omega),?_⟩;conv=>whnf
     exact⟨j+1,by omega,wt (ks:=[some 0,some 1,some 2,some 3,some 4,some 5]) ⟨gk4 rfl,by first | exact mk2 rfl | exact mu2 rfl,by first | exact mk2 rfl | exact mu2 rfl,by first | exact mk2 rfl | exact mu2 rfl,by first | exact mk2 rfl | exact mu2 rfl,Rf.boxK rfl rfl,trivial⟩ ⟨⟨_,rfl,rfl,rfl⟩,⟨_,rfl,rfl⟩,⟨_,rfl,rfl⟩,⟨_,rfl,rfl,rfl⟩,⟨_,rfl,rfl⟩,⟨_,rfl,rfl⟩,trivial⟩,jlt⟩))))
theorem hess_4 (M:Nat->Nat->Rat) {L:Nat} (hM:Bq 4 L M) (h1:1<=L) (hL:16*KB 4 L+16<=LIM):FnT Tryz.prog true 40 1 ((R4 M).map gb) [.c (.gs 0 0)] (.c .any) ((R4 (hsn 4 M)).map gb):=hess4 M (fun m _ h=>hs_kb hM h1 (by omega)) (fun m t h0 h hp ht=>el_kb hM h1 h0 h hp ht) (KB_pos h1) hL
set_option maxHeartbeats 64000000 in
set_option maxRecDepth 100000 in
theorem hess5 (M:Nat->Nat->Rat) {K:Nat} (hA:∀ m,1<=m->m+1<5->Bq 5 K (hs 5 M m)) (hE:∀ m t,1<=m->m+1<5->pv 5 (hs 5 M m) m<5->m+t<5->Bq 5 K (el m (xch (sw (pv 5 (hs 5 M m) m) m) (hs 5 M m)) t)) (hK:1<=K) (hL:16*K+16<=LIM):FnT Tryz.prog true 40 1 ((R5 M).map gb) [.c (.gs 0 0)] (.c .any) ((R5 (hsn 5 M)).map gb):=by
 refine jX (E:=E1m) wj Tryz.func40 rfl (by kernel_rfl) ?_;refine sq ?_;conv=>whnf
 refine⟨(fun m:Nat=>gst [ng 0,nt 2 m] (R5 (hs 5 M m))) 1,ws5 ⟨⟨_,rfl,rfl,rfl⟩,⟨_,rfl,rfl⟩,trivial⟩,?_⟩;refine qq (qZ (fun m:Nat=>gst [ng 0,nt 2 m] (R5 (hs 5 M m))) (fun m=>6-m) (fun m=>1<=m/\m<=4) 1 (Weak.refl _) (by decide) fun m hm=>?_);rcases Nat.lt_or_ge (m+1) 5 with hlt | hge;rotate_left
 ·obtain rfl:m=4:=by omega
  refine so ?_;conv=>whnf
  repeat (refine⟨by first | exact ib rfl | exact ia rfl | exact rgl rfl,?_⟩;conv=>whnf)
  exact wt (tl:=[(0,.c .any)]) (xs:=R5 (hsn 5 M)) (ks:=[some 0,some 1,some 2,some 3,some 4,some 5]) ⟨gk5 rfl,rs rfl,rs rfl,rs rfl,rs rfl,rs rfl,trivial⟩ ⟨⟨rfl,rfl⟩,trivial⟩
 have m1:=hm.1;have hA:=hA m m1 hlt;have hE:=fun hp t ht=>hE m t m1 hlt hp ht;have hpiv:=fun(hp:pv 5 (hs 5 M m) m<5) (t:Nat)=>el_piv m1 hlt hp t;refine sq ?_;conv=>whnf
 refine⟨qz (by omega) (by omega),?_⟩;conv=>whnf
 refine xG (show decide (((m:Nat):Int)+1<5)=true from decide_eq_true (by omega)) ?_;conv=>whnf
 refine⟨gst [ng 0,nt 2 m] (R5 (hs 5 M m)),ws5 ⟨⟨_,rfl,rfl,rfl⟩,⟨_,rfl,rfl⟩,trivial⟩,?_⟩;refine qF (fun _:Unit=>gst [ng 0,nt 2 m] (R5 (stp 5 m (hs 5 M m)))) (fun _=>True) ?_ fun _ _=>?_;rotate_left
 ·refine so ?_;conv=>whnf
  refine⟨qz (by omega) (by omega),?_⟩;conv=>whnf
  exact⟨m+1,by omega,we5 (fun b x hb hx=>congrFun (congrFun (hs_succ 5 M m1) b) x) ⟨⟨_,rfl,rfl,rfl⟩,⟨_,rfl,rfl⟩,trivial⟩,by omega,by omega⟩
 refine qq ?_;generalize hs 5 M m=A at *;have cT:(((m:Nat):Int)-1).toNat=m-1:=by omega
 have cR:inR .i64 (((m:Nat):Int)-1):=qz (by omega) (by omega);have c0:(0:Int)<=((m:Nat):Int)-1:=by omega
 have c1:((m:Nat):Int)-1<((5:Nat):Int):=by omega
 have nz:∀ a,a<5->FnOK Tryz.prog true 47 [.g (nq (A a (((m:Nat):Int)-1).toNat))] (.c (.bool (decide (A a (m-1)≠0)))):=fun a ha=>by
  rw[cT];exact nz_ok (hA a (m-1) ha (by omega)) (by omega)
 obtain⟨p1,p2,-,-⟩:=WG 5 A (show m<=5 by omega);generalize hpv:pv 5 A m=P at *;refine sq ?_;conv=>whnf
 refine⟨(fun a:Nat=>gst [ng 0,nt 2 m,nt 3 a] (R5 A)) m,ws5 ⟨⟨_,rfl,rfl,rfl⟩,⟨_,rfl,rfl⟩,⟨_,rfl,rfl⟩,trivial⟩,?_⟩;refine qF (fun _:Unit=>(fun a:Nat=>gst [ng 0,nt 2 m,nt 3 a] (R5 A)) P) (fun _=>True) ?_ fun _ _=>?_
 ·refine qq (qZ (fun a:Nat=>gst [ng 0,nt 2 m,nt 3 a] (R5 A)) (fun a=>5-a) (fun a=>m<=a/\a<=5/\pvf A (m-1) (5-a) a=P) m (Weak.refl _) ⟨Nat.le_refl m,by omega,hpv⟩ fun a ha=>?_);obtain⟨a1,a2,a3⟩:=ha;rcases Nat.lt_or_ge a 5 with alt | age;rotate_left
  ·obtain rfl:a=5:=by omega
   refine so ?_;conv=>whnf
   have eP:5=P:=a3;exact⟨(),trivial,ws5 ⟨⟨_,rfl,rfl,rfl⟩,⟨_,rfl,rfl⟩,⟨_,rfl,by rw[<- eP]⟩,trivial⟩⟩
  have nz:=nz a alt;have n0:A a (m-1)=0->pvf A (m-1) (5-(a+1)) (a+1)=P:=fun h=>by rw[<- a3,show 5-a=5-(a+1)+1 by omega,pvf_next h]
  have n1:A a (m-1)≠0->a=P:=fun h=>by rw[<- a3,show 5-a=5-(a+1)+1 by omega,pvf_stop h]
  have e:a=0∨a=1∨a=2∨a=3∨a=4:=by omega
  have F:_/\_/\_/\_/\_:=⟨nz,n0,n1,alt,a1⟩;clear a2 a3 nz n0 n1 alt a1;revert F;rcases e with e | e | e | e | e <;> (
   apply yb e;intro a F;obtain⟨nz,n0,n1,alt,a1⟩:=F;refine so ?_;conv=>whnf
   repeat (refine⟨by first | exact cR | exact c0 | exact c1 | exact ib rfl | exact ixl rfl,?_⟩;conv=>whnf)
   refine⟨_,nz,?_⟩;conv=>whnf
   refine qg (fun(h:(!decide (A a (m-1)≠0))=true)=>?_) fun(h:(!decide (A a (m-1)≠0))=false)=>?_
   ·have h0:A a (m-1)=0:=by simpa using h
    conv=>whnf
    refine⟨qz (by omega) (by omega),?_⟩;conv=>whnf
    exact⟨a+1,by omega,ws5 ⟨⟨_,rfl,rfl,rfl⟩,⟨_,rfl,rfl⟩,⟨_,rfl,rfl⟩,trivial⟩,by omega,by omega,n0 h0⟩
   ·have h0:A a (m-1)≠0:=by simpa using h
    conv=>whnf
    exact⟨(),trivial,ws5 ⟨⟨_,rfl,rfl,rfl⟩,⟨_,rfl,rfl⟩,⟨_,rfl,by rw[<- n1 h0]⟩,trivial⟩⟩)
 refine V4 (fun _:Unit=>gst [ng 0,nt 2 m] (R5 (xch (sw P m) A))) (fun _=>P<5) ?_ fun _ hP=>?_
 ·rcases Nat.lt_or_ge P 5 with hP | hP;rotate_left
  ·obtain rfl:P=5:=by omega
   refine so ?_;conv=>whnf
   exact⟨(),trivial,we5 (fun b x hb hx=>stp_none hpv b x) ⟨⟨_,rfl,rfl,rfl⟩,⟨_,rfl,rfl⟩,trivial⟩⟩
  refine so ?_;conv=>whnf
  refine jj (show decide (((P:Nat):Int)=5)=false from decide_eq_false (by omega)) ?_;conv=>whnf
  rcases Nat.lt_or_ge m P with hm2 | hm2;rotate_left
  ·obtain rfl:m=P:=by omega
   refine so ?_;conv=>whnf
   refine jj (show(!decide (((m:Nat):Int)=(m:Nat)))=false by simp) ?_;conv=>whnf
   exact⟨(),hP,we5 (fun b x hb hx=>xch_self A b x) ⟨⟨_,rfl,rfl,rfl⟩,⟨_,rfl,rfl⟩,trivial⟩⟩
  refine sq ?_;conv=>whnf
  refine⟨gst [ng 0,nt 2 m,nt 3 P,(41,.c (.bool true))] (R5 A),ws5 ⟨⟨_,rfl,rfl,rfl⟩,⟨_,rfl,rfl⟩,⟨_,rfl,rfl⟩,⟨_,rfl,by simp;omega⟩,trivial⟩,?_⟩;refine swp_cond (b:=true) rfl (fun _=>?_) fun h=>absurd h (by decide);refine vK wj (pre:=[_,_,_]) (post:=[]) rfl rfl (by kernel_rfl) ?_;conv=>whnf
  refine⟨1,_,by decide,OpGoT.call0 (f:=92) (cs:=[]) rfl rfl U3 (exch_5 A hm2 hP) (jp (jp (jp (Vg (tl:=[ng 0,nt 2 m,nt 3 P,(41,.c (.bool true))]) ⟨rfl,rfl,rfl,rfl,trivial⟩) rfl) rfl) rfl),?_⟩;conv=>whnf
  exact⟨(),hP,ws5 ⟨⟨_,rfl,rfl,rfl⟩,⟨_,rfl,rfl⟩,trivial⟩⟩
 have hE:=hE hP;have hpiv:=hpiv hP;have hst:=fun b x=>stp_some hpv hP b x;clear nz p1 hpv hA;generalize stp 5 m A=Z at *;generalize xch (sw P m) A=A1 at *;clear hP p2;refine sq ?_;conv=>whnf
 refine⟨qz (by omega) (by omega),?_⟩;conv=>whnf
 refine⟨(fun t:Nat=>gst [ng 0,nt 2 m,nt 4 (m+1+t)] (R5 (el m A1 t))) 0,ws5 ⟨⟨_,rfl,rfl,rfl⟩,⟨_,rfl,rfl⟩,⟨_,rfl,rfl⟩,trivial⟩,?_⟩;refine qq (qZ (fun t:Nat=>gst [ng 0,nt 2 m,nt 4 (m+1+t)] (R5 (el m A1 t))) (fun t=>5-t) (fun t=>m+1+t<=5) 0 (Weak.refl _) (by omega) fun t ht=>?_);have ht:m+1+t<=5:=ht;rcases Nat.lt_or_ge (m+1+t) 5 with tlt | tge;rotate_left
 ·obtain rfl:t=4-m:=by omega
  refine so ?_;conv=>whnf
  refine jj (show decide (((m+1+(4-m):Nat):Int)<5)=false from decide_eq_false (by omega)) ?_;conv=>whnf
  exact⟨(),trivial,we5 (fun b x hb hx=>hst b x) ⟨⟨_,rfl,rfl,rfl⟩,⟨_,rfl,rfl⟩,trivial⟩⟩
 clear hst ht;obtain⟨i,hi⟩:∃ i,i=m+1+t:=⟨_,rfl⟩;have hB:=hE t (by omega);have hq:=hpiv t;clear hE hpiv;refine sq ?_;conv=>whnf
 refine xG (show decide (((m+1+t:Nat):Int)<5)=true from decide_eq_true (by omega)) ?_;conv=>whnf
 refine⟨gst [ng 0,nt 2 m,nt 4 i] (R5 (el m A1 t)),ws5 ⟨⟨_,rfl,rfl,rfl⟩,⟨_,rfl,rfl⟩,⟨_,rfl,by rw[hi]⟩,trivial⟩,?_⟩;refine qF (fun _:Unit=>gst [ng 0,nt 2 m,nt 4 i] (R5 (el1 m i (el m A1 t)))) (fun _=>True) ?_ fun _ _=>?_;rotate_left
 ·refine so ?_;conv=>whnf
  refine⟨qz (by omega) (by omega),?_⟩;conv=>whnf
  exact⟨t+1,by omega,we5 (fun b x hb hx=>by rw[hi];rfl) ⟨⟨_,rfl,rfl,rfl⟩,⟨_,rfl,rfl⟩,⟨_,rfl,by omega⟩,trivial⟩,by show m+1+(t+1)<=5;omega⟩
 refine qq ?_;generalize el m A1 t=B at *;have im:m<i:=by omega
 have i5:i<5:=by omega
 have m5:m<5:=by omega
 have c5:m-1<5:=by omega
 have hx:∀ a b,a<5->b<5->qlen (B a b)<=K:=hB;have nz:=nz_ok (x:=B i (m-1)) (hx i (m-1) i5 c5) (by omega);have kq:=qquo_n (hx i (m-1) i5 c5) (hx m (m-1) m5 c5) (by omega) hq rfl;have hu:qlen (B i (m-1) / B m (m-1))<=2*K:=Nat.le_trans (q_div (hx i (m-1) i5 c5) (hx m (m-1) m5 c5) (by omega)) (by omega);have hel:=fun(h0:¬ B i (m-1)=0) a b=>el1_some (m:=m) (i:=i) (A:=B) h0 rfl a b;have hez:=fun(h0:B i (m-1)=0) a b=>el1_zero (m:=m) (i:=i) (A:=B) h0 a b;change ∀(h0:¬ B i (m-1)=0) (a b:Nat),el1 m i B a b=ca (B i (m-1) / B m (m-1)) i m (ra (B i (m-1) / B m (m-1)) i m B) a b at hel;generalize el1 m i B=Y at *;generalize B i (m-1) / B m (m-1)=u at *;have v1:∀ j,j<5->FnOK Tryz.prog true 46 [.g (nq u),.g (nq (md1 u i m B j m j))] (.g (nq (u*B m j))):=fun j hj=>Uf hu (by rw[md1_m u (by omega)];exact hx m j m5 hj) (by omega) (by rw[md1_m u (by omega)]);have v2:∀ j,j<5->FnOK Tryz.prog true 50 [.g (nq (md1 u i m B j i j)),.g (nq (u*B m j))] (.g (nq (B i j-u*B m j))):=fun j hj=>qsub_n (by rw[Xj];exact hx i j i5 hj) (kb hu (hx m j m5 hj) (by omega)) (by omega) (by omega) (by rw[Xj]);have hR:=ra_kb (i:=i) hB hu m5 hK;have w1:∀ j,j<5->FnOK Tryz.prog true 46 [.g (nq u),.g (nq (md2 u i m (ra u i m B) j j i))] (.g (nq (u*ra u i m B j i))):=fun j hj=>Uf hu (by rw[kP];exact hR j i hj i5) (by omega) (by rw[kP]);have w2:∀ j,j<5->FnOK Tryz.prog true 93 [.g (nq (md2 u i m (ra u i m B) j j m)),.g (nq (u*ra u i m B j i))] (.g (nq (ra u i m B j m+u*ra u i m B j i))):=fun j hj=>qadd_n (by rw[kP];exact hR j m hj m5) (kb hu (hR j i hj i5) (by omega)) (by omega) (by rw[kP]);have e:m=1∨m=2∨m=3:=by omega
 clear hR hu hx hB hq hi tlt cT c0 c1 hm hlt m1;have F:_/\_/\_/\_/\_/\_/\_/\_/\_/\_:=⟨cR,im,nz,kq,hel,hez,v1,v2,w1,w2⟩;clear cR im nz kq hel hez v1 v2 w1 w2 m5 c5;revert F;rcases e with e | e | e <;> (
  apply yb e;intro m F;have e:i=2∨i=3∨i=4:=by omega
  revert F;rcases e with e | e | e <;> (
   apply yb e;intro i F;obtain⟨cR,im,nz,kq,hel,hez,v1,v2,w1,w2⟩:=F;first
   | exact absurd im (of_decide_eq_false rfl)
   | (
    refine sq ?_;conv=>whnf
    repeat (refine⟨by first | exact cR | exact ib rfl | exact ixl rfl,?_⟩;conv=>whnf)
    refine⟨_,nz,?_⟩;conv=>whnf
    refine qg (fun(h:(!decide (B i (m-1)≠0))=true)=>?_) fun(h:(!decide (B i (m-1)≠0))=false)=>?_
    ·have h0:B i (m-1)=0:=by simpa using h
     conv=>whnf
     exact⟨(),trivial,we5 (fun b x hb hx=>hez h0 b x) ⟨⟨_,rfl,rfl,rfl⟩,⟨_,rfl,rfl⟩,⟨_,rfl,rfl⟩,trivial⟩⟩
    have h0:¬ B i (m-1)=0:=by simpa using h
    conv=>whnf
    refine⟨gst [ng 0,nt 2 m,nt 4 i] (R5 B),ws5 ⟨⟨_,rfl,rfl,rfl⟩,⟨_,rfl,rfl⟩,⟨_,rfl,rfl⟩,trivial⟩,?_⟩;have hel:=hel h0;refine sq ?_;conv=>whnf
    repeat (refine⟨by first | exact cR | exact ib rfl | exact ixl rfl,?_⟩;conv=>whnf)
    refine⟨_,kq,?_⟩;conv=>whnf
    refine⟨gst [ng 0,nt 2 m,nt 4 i,(5,.c (.p 6 0 4 0 0))] (R5b B u),wt (ks:=[some 0,some 1,some 2,some 3,some 4,some 5,some 26]) ⟨gk5 rfl,rs rfl,rs rfl,rs rfl,rs rfl,rs rfl,Rf.boxU rfl rfl rfl,trivial⟩ ⟨⟨_,rfl,rfl,rfl⟩,⟨_,rfl,rfl⟩,⟨_,rfl,rfl⟩,⟨_,rfl,rfl,rfl⟩,trivial⟩,?_⟩;refine qF (fun _:Unit=>gst [ng 0,nt 2 m,nt 4 i,(5,.c (.p 6 0 4 0 0))] (R5b (ra u i m B) u)) (fun _=>True) ?_ fun _ _=>?_
    ·refine sq ?_;conv=>whnf
     repeat (refine⟨by first | exact cR | exact ib rfl | exact ixl rfl,?_⟩;conv=>whnf)
     refine⟨(fun j:Nat=>gst [ng 0,nt 2 m,nt 4 i,(5,.c (.p 6 0 4 0 0)),(85,.c (.int .i64 5)),nt 86 j] (R5b (md1 u i m B j) u)) 0,wbe5 (fun b x hb hx=>md1_zero u _ _ B b x) ⟨⟨_,rfl,rfl,rfl⟩,⟨_,rfl,rfl⟩,⟨_,rfl,rfl⟩,⟨_,rfl,rfl,rfl⟩,⟨_,rfl,rfl⟩,⟨_,rfl,rfl⟩,trivial⟩,?_⟩;refine qq (qZ (fun j:Nat=>gst [ng 0,nt 2 m,nt 4 i,(5,.c (.p 6 0 4 0 0)),(85,.c (.int .i64 5)),nt 86 j] (R5b (md1 u i m B j) u)) (fun j=>5-j) (fun j=>j<=5) 0 (Weak.refl _) (Nat.zero_le _) fun j hj=>?_);have v1:=v1 j;have v2:=v2 j;have hj0:(0:Int)<=(j:Int):=by omega
     refine so ?_;conv=>whnf
     refine qg (fun(h:decide ((j:Int)<5)=true)=>?_) fun(h:decide ((j:Int)<5)=false)=>?_
     ·have h:=of_decide_eq_true h;have v1:=v1 (by omega);have v2:=v2 (by omega);have hj1:(j:Int)<((5:Nat):Int):=by omega
      conv=>whnf
      repeat (refine⟨by first | exact hj0 | exact hj1 | exact ib rfl | exact ixl rfl,?_⟩;conv=>whnf)
      refine⟨_,v1,?_⟩;conv=>whnf
      repeat (refine⟨by first | exact hj0 | exact hj1 | exact ib rfl | exact ixl rfl,?_⟩;conv=>whnf)
      refine⟨_,v2,?_⟩;conv=>whnf
      repeat (refine⟨by first | exact hj0 | exact hj1 | exact ib rfl | exact ixl rfl,?_⟩;conv=>whnf)
      refine⟨qz (by omega) (by omega),?_⟩;conv=>whnf
      exact⟨j+1,by omega,wt (ks:=[some 0,some 1,some 2,some 3,some 4,some 5,some 6]) ⟨gk5 rfl,by first | exact mk1 rfl | exact mu1 rfl,by first | exact mk1 rfl | exact mu1 rfl,by first | exact mk1 rfl | exact mu1 rfl,by first | exact mk1 rfl | exact mu1 rfl,by first | exact mk1 rfl | exact mu1 rfl,Rf.boxK rfl rfl,trivial⟩ ⟨⟨_,rfl,rfl,rfl⟩,⟨_,rfl,rfl⟩,⟨_,rfl,rfl⟩,⟨_,rfl,rfl,rfl⟩,⟨_,rfl,rfl⟩,⟨_,rfl,rfl⟩,trivial⟩,by omega⟩
     ·have h:=of_decide_eq_false h;obtain rfl:j=5:=by omega
      conv=>whnf
      exact⟨(),trivial,wbe5 (fun b x hb hx=>md1_all u _ _ B hx b) ⟨⟨_,rfl,rfl,rfl⟩,⟨_,rfl,rfl⟩,⟨_,rfl,rfl⟩,⟨_,rfl,rfl,rfl⟩,trivial⟩⟩
    generalize ra u i m B=D at *;clear v1 v2 nz kq;refine sq ?_;conv=>whnf
    repeat (refine⟨by first | exact cR | exact ib rfl | exact ixl rfl,?_⟩;conv=>whnf)
    refine⟨(fun j:Nat=>gst [ng 0,nt 2 m,nt 4 i,(5,.c (.p 6 0 4 0 0)),(114,.c (.int .i64 5)),nt 115 j] (R5b (md2 u i m D j) u)) 0,wbe5 (fun b x hb hx=>md2_zero u _ _ D b x) ⟨⟨_,rfl,rfl,rfl⟩,⟨_,rfl,rfl⟩,⟨_,rfl,rfl⟩,⟨_,rfl,rfl,rfl⟩,⟨_,rfl,rfl⟩,⟨_,rfl,rfl⟩,trivial⟩,?_⟩;refine qq (qZ (fun j:Nat=>gst [ng 0,nt 2 m,nt 4 i,(5,.c (.p 6 0 4 0 0)),(114,.c (.int .i64 5)),nt 115 j] (R5b (md2 u i m D j) u)) (fun j=>5-j) (fun j=>j<=5) 0 (Weak.refl _) (Nat.zero_le _) fun j hj=>?_);rcases Nat.lt_or_ge j 5 with jlt | jge;rotate_left
    ·obtain rfl:j=5:=Nat.le_antisymm hj jge;refine so ?_;conv=>whnf
     exact⟨(),trivial,we5 (fun b x hb hx=>(hel b x).trans (md2_all u _ _ D hb x)) ⟨⟨_,rfl,rfl,rfl⟩,⟨_,rfl,rfl⟩,⟨_,rfl,rfl⟩,trivial⟩⟩
    have w1:=w1 j jlt;have w2:=w2 j jlt;have e:j=0∨j=1∨j=2∨j=3∨j=4:=by omega
    clear hj hel hez;revert w1 w2 jlt;rcases e with e | e | e | e | e <;> (
     apply yb e;intro j jlt w1 w2;refine so ?_;conv=>whnf
     repeat (refine⟨by first | exact cR | exact ib rfl | exact ixl rfl,?_⟩;conv=>whnf)
     refine⟨_,w1,?_⟩;conv=>whnf
     repeat (refine⟨by first | exact cR | exact ib rfl | exact ixl rfl,?_⟩;conv=>whnf)
     refine⟨_,w2,?_⟩;conv=>whnf
     repeat (refine⟨by first | exact ib rfl | exact ixl rfl,?_⟩;conv=>whnf)
     refine⟨qz (by omega) (by omega),?_⟩;conv=>whnf
     exact⟨j+1,by omega,wt (ks:=[some 0,some 1,some 2,some 3,some 4,some 5,some 6]) ⟨gk5 rfl,by first | exact mk2 rfl | exact mu2 rfl,by first | exact mk2 rfl | exact mu2 rfl,by first | exact mk2 rfl | exact mu2 rfl,by first | exact mk2 rfl | exact mu2 rfl,by first | exact mk2 rfl | exact mu2 rfl,Rf.boxK rfl rfl,trivial⟩ ⟨⟨_,rfl,rfl,rfl⟩,⟨_,rfl,rfl⟩,⟨_,rfl,rfl⟩,⟨_,rfl,rfl,rfl⟩,⟨_,rfl,rfl⟩,⟨_,rfl,rfl⟩,trivial⟩,jlt⟩))))
theorem hess_5 (M:Nat->Nat->Rat) {L:Nat} (hM:Bq 5 L M) (h1:1<=L) (hL:16*KB 5 L+16<=LIM):FnT Tryz.prog true 40 1 ((R5 M).map gb) [.c (.gs 0 0)] (.c .any) ((R5 (hsn 5 M)).map gb):=hess5 M (fun m _ h=>hs_kb hM h1 (by omega)) (fun m t h0 h hp ht=>el_kb hM h1 h0 h hp ht) (KB_pos h1) hL
end Mx
end Go.Proofs.YtkmbnldginonbaaGreat
namespace Go.Proofs.YtkmbnldginonbaaGreat
open Go.RowKit
namespace Mx
open Rf
theorem rr_of {P:Program} {r:Bool} {f:FuncId} {m:Nat} {bl:List Blk} {args:List V} {X:V} {a b:List Gx} (h:a=b) (k:FnT P r f m bl args X (a.map gb)):FnT P r f m bl args X (b.map gb):=h ▸ k
theorem rr_ex {P:Program} {r:Bool} {f:FuncId} {m:Nat} {args:List V} {X:V} {a b c d:List Gx} (h:a=b) (h2:c=d) (k:FnT P r f m (a.map gb) args X (c.map gb)):FnT P r f m (b.map gb) args X (d.map gb):=h ▸ h2 ▸ k
theorem pb8 (K n:Nat):8*K<=PB K n:=by
 unfold PB;exact Nat.mul_le_mul_right K (Nat.le_mul_of_pos_right 8 (Nat.pow_pos (by omega)))
set_option maxHeartbeats 1000000 in
theorem charpoly_ok {n:Nat} {p:Nat->RawR} {A:Nat->Nat->Rat} {L:Nat} (hn:n<=5) (hfit:∀ k,k<n*n->(p k).Fit L) (h1:1<=L) (hA:∀ i j,i<n->j<n->(p (i*n+j)).val=A i j) (hL:4*PB (KB n L) n+64<=LIM):FnOK Tryz.prog true 10 [.g (qG n n p)] (.t2 (.c (nql (n+1) (hp (wd (hsn n A)) n).f)) (.c (.int .i64 0))):=by
 have hB:Bq n L A:=fun i j hi hj=>by
  rw[<- hA i j hi hj];exact(hfit _ (mat_idx hi hj).1).qlen h1
 have hK:1<=KB n L:=KB_pos h1;have hH:Bq n (KB n L) (hsn n A):=fun i j hi hj=>hs_kb hB h1 (show n-1+1<=n by omega) i j hi hj;have hC:=ch_of (Nat.le_succ_of_le hn) hK hH;have h8:=pb8 (KB n L) n;have h16:16*KB n L+16<=LIM:=by omega
 have hLK:L+3<=LIM:=by
  have:=KB_le (n:=n) (L:=L) (e:=0) (Nat.zero_le _);rw[Nat.pow_zero,Nat.one_mul]at this;omega
 rcases(show n=0∨n=1∨n=2∨n=3∨n=4∨n=5 by omega)with rfl | rfl | rfl | rfl | rfl | rfl
 ·exact yG (A:=A) (H:=hsn 0 A) (W:=wd (hsn 0 A)) (D:=dd (hsn 0 A)) (P:=fun k=>(hp (wd (hsn 0 A)) k).f) (N:=nx (wd (hsn 0 A))) (K:=KB 0 L) (Bd:=PB (KB 0 L) 0) (by decide) (rr_of (by rfl) (grid_0 hfit hLK hA)) (rr_ex (by rfl) (by rfl) (hess_0 A hB h1 h16)) hK h8 hL hC
 ·exact yG (A:=A) (H:=hsn 1 A) (W:=wd (hsn 1 A)) (D:=dd (hsn 1 A)) (P:=fun k=>(hp (wd (hsn 1 A)) k).f) (N:=nx (wd (hsn 1 A))) (K:=KB 1 L) (Bd:=PB (KB 1 L) 1) (by decide) (grid_n (by decide) (by decide) hfit hLK hA) (rr_ex (by rfl) (by rfl) (hess_1 A hB h1 h16)) hK h8 hL hC
 ·exact yG (A:=A) (H:=hsn 2 A) (W:=wd (hsn 2 A)) (D:=dd (hsn 2 A)) (P:=fun k=>(hp (wd (hsn 2 A)) k).f) (N:=nx (wd (hsn 2 A))) (K:=KB 2 L) (Bd:=PB (KB 2 L) 2) (by decide) (grid_n (by decide) (by decide) hfit hLK hA) (rr_ex (by rfl) (by rfl) (hess_2 A hB h1 h16)) hK h8 hL hC
 ·exact yG (A:=A) (H:=hsn 3 A) (W:=wd (hsn 3 A)) (D:=dd (hsn 3 A)) (P:=fun k=>(hp (wd (hsn 3 A)) k).f) (N:=nx (wd (hsn 3 A))) (K:=KB 3 L) (Bd:=PB (KB 3 L) 3) (by decide) (grid_n (by decide) (by decide) hfit hLK hA) (rr_ex (by rfl) (by rfl) (hess_3 A hB h1 h16)) hK h8 hL hC
 ·exact yG (A:=A) (H:=hsn 4 A) (W:=wd (hsn 4 A)) (D:=dd (hsn 4 A)) (P:=fun k=>(hp (wd (hsn 4 A)) k).f) (N:=nx (wd (hsn 4 A))) (K:=KB 4 L) (Bd:=PB (KB 4 L) 4) (by decide) (grid_n (by decide) (by decide) hfit hLK hA) (rr_ex (by rfl) (by rfl) (hess_4 A hB h1 h16)) hK h8 hL hC
 ·exact yG (A:=A) (H:=hsn 5 A) (W:=wd (hsn 5 A)) (D:=dd (hsn 5 A)) (P:=fun k=>(hp (wd (hsn 5 A)) k).f) (N:=nx (wd (hsn 5 A))) (K:=KB 5 L) (Bd:=PB (KB 5 L) 5) (by decide) (grid_n (by decide) (by decide) hfit hLK hA) (rr_ex (by rfl) (by rfl) (hess_5 A hB h1 h16)) hK h8 hL hC
set_option maxHeartbeats 16000000
theorem monic_n {n:Nat} {c:Nat->Rat} {L:Nat} (hn:n<=100) (hc:∀ i,i<n+1->qlen (c i)<=L) (hL:L+16<=LIM) (ht:c n=1):FnOK Tryz.prog true 114 [.c (nql (n+1) c)] (.c (nql (n+1) c)):=by
 have k1:=q1_ok;have k2:FnOK Tryz.prog true 59 [.g (nq 1),.g (nq (c (((n+1:Nat):Int)-1).toNat))] (.t2 (.g (nq 1)) (.c (.int .i64 0))):=by
  rw[show(((n+1:Nat):Int)-1).toNat=n by omega,ht];exact div_one_ok 1 (L:=1) q_one (by decide)
 have k3:FnOK Tryz.prog true 44 [.c (nql (n+1) c),.g (nq 1)] (.c (nql (n+1) c)):=by
  have h:=gj (m:=n+1) (F:=c) (w:=1) (L:=L) (L':=1) (by omega) hc q_one (by omega);have e:(fun i=>c i*1)=c:=funext fun i=>Rat.mul_one _;rw[e,Q.tq_self (v:=c) (n:=n+1) (fun k hk=>by rw[show k=n by omega,ht];decide)]at h;exact h
 have j0:(0:Int)<=((n+1:Nat):Int)-1:=by omega
 have j1:((n+1:Nat):Int)-1<((n+1:Nat):Int):=by omega
 refine qV (E:=E1) qQ Tryz.func114 rfl mixed (by kernel_rfl) (by kernel_rfl) ?_;conv=>whnf
 refine⟨_,k1,?_⟩;conv=>whnf
 refine⟨qz (by omega) (by omega),?_⟩;conv=>whnf
 repeat (refine⟨by first | exact j0 | exact j1,?_⟩;conv=>whnf)
 refine⟨_,k2,?_⟩;conv=>whnf
 refine⟨_,k3,?_⟩;conv=>whnf
 exact⟨rfl,Sub.refl _⟩
theorem apply_n {n:Nat} {x y:Nat->Rat} {p:Nat->RawR} {A:Nat->Nat->Rat} (hn:n<=64) (hx:∀ i,i<n->qlen (x i)<=KD) (hp:∀ a,a<n*n->(p a).Fit KD) (hA:∀ i j,i<n->j<n->(p (i*n+j)).val=A i j) (hl:∀ i j,i<n->j<n->qlen (A i j)<=KD) (hS:∀ i j,i<=n->j<n->qlen (xY x A i j)<=KD) (hy:∀ j,j<n->xY x A n j=y j):FnOK Tryz.prog true 115 [.c (nql n x),.g (qG n n p)] (.t2 (.c (nql n y)) (.c (.int .i64 0))):=by
 have v1:=wB (n:=n) (m:=n) (q:=p) (by omega) (by omega);have l1:=loadR_ok hn hn hp hA;have hQ:KD<=QS:=by decide
 have t0:FnOK Tryz.prog true 120 [.c (nql n x),.c (vb n n A),.c (.int .i64 n)] (.c (nql n y)):=by
  have h:=times_ok (n:=n) (m:=n) (X:=x) (G:=A) (by omega) (by omega) (fun j hj=>Nat.le_trans (hx j hj) hQ) (fun a b ha hb=>Nat.le_trans (hl a b ha hb) hQ) fun a b ha hb=>by
   rw[Vx];exact Nat.le_trans (hS a b (by omega) hb) hQ
  have e:wF x A n=xY x A n:=funext fun j=>Vx x A n j;rw[e]at h;exact h.res (zg rfl fun i j hi _=>congrArg (fun z=>(rr (ofR z)).getD j .any) (hy i hi))
 clear hx hp hA hl hS hy;refine qV (E:=E1) qQ Tryz.func115 rfl mixed (by kernel_rfl) (by kernel_rfl) ?_;conv=>whnf
 refine⟨_,v1,?_⟩;conv=>whnf
 refine jj (show(!decide ((n:Int)=n))=false by simp) ?_;conv=>whnf
 refine .inr ⟨_,l1,?_⟩;conv=>whnf
 refine⟨_,t0,?_⟩;conv=>whnf
 exact⟨rfl,Sub.refl _⟩
theorem one_kc {bl:List Blk} {r:Prop} {n:Nat} {v q:Nat->Rat} {z:Int} {m i y:Nat} (hi:i<1) (hy:y<3):St.one bl (xJ 3 [nql n v,.int .i64 z,nql m q] i y)=true/\(r->(xJ 3 [nql n v,.int .i64 z,nql m q] i y).noU=true):=by
 obtain rfl:i=0:=by omega
 match y,hy with
 | 0,_=>exact⟨rfl,fun _=>rfl⟩
 | 1,_=>exact⟨rfl,fun _=>rfl⟩
 | 2,_=>exact⟨rfl,fun _=>rfl⟩
theorem app_kc {n:Nat} {kv kq:Nat->Nat->Rat} {kp:Nat->Nat} {r i y:Nat} (hi:i<r+1) (hy:y<3):zB r (kcF n kv kq kp) (xJ 3 [nql n (kv r),.int .i64 ((kp r:Nat):Int),nql (r+1) (kq r)]) i y=kcF n kv kq kp i y:=by
 unfold zB;by_cases h:i<r
 ·rw[if_pos h]
 ·rw[if_neg h];obtain rfl:i=r:=by omega
  rw[Nat.sub_self];match y,hy with
  | 0,_=>rfl
  | 1,_=>rfl
  | 2,_=>rfl
structure Anw (n R : Nat) (p : Nat → RawR) (V w g kv kq : Nat → Nat → Rat) (kp : Nat → Nat) (bb : Nat → Rat) : Prop where
 hn:n<=64
 hR:R<=64
 kred:∀ r,r<=R->FnM Tryz.prog true 113 (gb (kcB n r kv kq kp)) [.c (.gs 0 0),.c (nql n (V r)),.c (nql (r+1) (xpn r))] (.t2 (.c (nql n (w r))) (.c (nql (r+1) (g r)))) (gb (kcB n r kv kq kp)) []
 knz:∀ r j,r<=R->j<n->FnOK Tryz.prog true 47 [.g (nq (w r j))] (.c (.bool (decide (w r j≠0))))
 kp1:∀ r,r<R->kp r<n
 kp2:∀ r,r<R->w r (kp r)≠0
 kp3:∀ r j,r<R->j<kp r->w r j=0
 kz:∀ j,j<n->w R j=0
 kquo:∀ r,r<R->FnOK Tryz.prog true 59 [.g (nq 1),.g (nq (w r (kp r)))] (.t2 (.g (nq (bb r))) (.c (.int .i64 0)))
 kmul:∀ r j,r<R->j<n->FnOK Tryz.prog true 46 [.g (nq (w r j)),.g (nq (bb r))] (.g (nq (kv r j)))
 ksc:∀ r,r<R->FnOK Tryz.prog true 44 [.c (nql (r+1) (g r)),.g (nq (bb r))] (.c (nql (r+1) (kq r)))
 kap:∀ r,r<R->FnOK Tryz.prog true 115 [.c (nql n (V r)),.g (qG n n p)] (.t2 (.c (nql n (V (r+1)))) (.c (.int .i64 0)))
 ksh:∀ r,r<R->FnOK Tryz.prog true 43 [.c (nql (r+1) (xpn r))] (.c (nql (r+2) (xpn (r+1))))
 kmon:FnOK Tryz.prog true 114 [.c (nql (R+1) (g R))] (.c (nql (R+1) (g R)))
set_option maxRecDepth 100000 in
theorem ann_walk {n R:Nat} {p:Nat->RawR} {V w g kv kq:Nat->Nat->Rat} {kp:Nat->Nat} {bb:Nat->Rat} (h:Anw n R p V w g kv kq kp bb):FnOK Tryz.prog true 67 [.g (qG n n p),.c (nql n (V 0))] (.c (nql (R+1) (g R))):=by
 obtain⟨hn,hR,kred,knz,kp1,kp2,kp3,kz,kquo,kmul,ksc,kap,ksh,kmon⟩:=h;have k1:=one_ok;have k0:=q1_ok;obtain⟨at_,hat⟩:∃ at_:Nat->Nat,∀ r,at_ r=if r<R then kp r else n:=⟨_,fun _=>rfl⟩
 have a1:∀ r,at_ r<=n:=fun r=>by
  rw[hat];split
  ·next c=>exact Nat.le_of_lt (kp1 r c)
  ·exact Nat.le_refl n
 have a2:∀ r j,r<=R->j<at_ r->w r j=0:=fun r j hr hj=>by
  rw[hat]at hj;split at hj
  ·next c=>exact kp3 r j c hj
  ·obtain rfl:r=R:=by omega
   exact kz j hj
 have a3:∀ r,at_ r<n->w r (at_ r)≠0:=fun r hj=>by
  rw[hat]at hj ⊢
  split at hj
  ·next c=>rw[if_pos c];exact kp2 r c
  ·omega
 have a4:∀ r,r<R->at_ r=kp r:=fun r hr=>by rw[hat,if_pos hr]
 have a5:at_ R=n:=by rw[hat,if_neg (Nat.lt_irrefl R)]
 clear kp2 kp3 kz hat
 refine jy (E:=E1k) kJ Tryz.func67 rfl (by kernel_rfl) ?_;refine qf kJ mixed (by kernel_rfl) ?_;conv=>whnf
 refine qf kJ mixed (by kernel_rfl) ?_;conv=>whnf
 refine qy kJ mixed (by kernel_rfl) ?_;conv=>whnf
 refine⟨_,k1,?_⟩;conv=>whnf
 refine⟨(fun r:Nat=>gst [(1,.c (nql n (V r))),(2,.c (.p 0 0 3 0 0)),(5,.c (.gs 1 0)),(6,.c (nql (r+1) (xpn r)))] [⟨24,3,1,qk (qG n n p)⟩,⟨130,3,r,kcF n kv kq kp⟩]) 0,Weak.gen [some 0,none] rfl ⟨Rf.boxK rfl rfl,rfl,trivial⟩ ⟨rO rfl,⟨_,rfl,rfl,rfl⟩,rfl,reg_nq fun x hx=>by rw[show x=0 by omega];rfl,trivial⟩,?_⟩;refine qq (qZ (fun r:Nat=>gst [(1,.c (nql n (V r))),(2,.c (.p 0 0 3 0 0)),(5,.c (.gs 1 0)),(6,.c (nql (r+1) (xpn r)))] [⟨24,3,1,qk (qG n n p)⟩,⟨130,3,r,kcF n kv kq kp⟩]) (fun r=>R+1-r) (fun r=>r<=R) 0 (Weak.refl _) (Nat.zero_le R) fun r hr=>?_);have hr:r<=R:=hr;have kred:=kred r hr;have knz:=fun j=>knz r j hr;have a1:=a1 r;have a2:=fun j=>a2 r j hr;have a3:=a3 r;have a4:=a4 r;refine qF (fun _:Unit=>gst [(1,.c (nql n (V (r+1)))),(2,.c (.p 0 0 3 0 0)),(5,.c (.gs 1 0)),(6,.c (nql (r+1) (xpn r)))] [⟨24,3,1,qk (qG n n p)⟩,⟨130,3,(r+1),kcF n kv kq kp⟩]) (fun _=>r<R) ?_ fun _ hlt=>?_;rotate_left
 ·have ksh:=ksh r hlt;refine qJ kJ mixed (by kernel_rfl) ?_;conv=>whnf
  refine⟨_,ksh,?_⟩;conv=>whnf
  exact⟨r+1,by omega,Weak.gen [some 0,some 1] rfl ⟨Rf.boxK rfl rfl,⟨_,rfl,rfl,rfl,rfl,rfl,fun x y hx hy=>qY rfl (zZ hy)⟩,trivial⟩ ⟨rO rfl,⟨_,rfl,rfl,rfl⟩,⟨_,rfl,rfl,rfl⟩,rO rfl,trivial⟩,hlt⟩
 refine qq ?_;refine qy kJ mixed (by kernel_rfl) ?_;conv=>whnf
 refine .inl ⟨[],false,?_⟩;conv=>whnf
 refine⟨1,gb (kcB n r kv kq kp),[.c (.gs 0 0),.c (nql n (V r)),.c (nql (r+1) (xpn r))],_,_,_,kred,rfl,.inl rfl,fun _ _ _ _ hj=>zZ hj,fun _ _ _ _ hj=>zZ hj,fun F hF=>absurd hF List.not_mem_nil,rfl,rfl,?_⟩;conv=>whnf
 refine⟨gst [(1,.c (nql n (V r))),(2,.c (.p 0 0 3 0 0)),(5,.c (.gs 1 0)),(6,.c (nql (r+1) (xpn r))),(7,.c (nql n (w r))),(8,.c (nql (r+1) (g r)))] [⟨24,3,1,qk (qG n n p)⟩,⟨130,3,r,kcF n kv kq kp⟩],Weak.gen [some 0,some 1] rfl ⟨Rf.boxK rfl rfl,⟨_,rfl,rfl,rfl,rfl,rfl,fun x y hx hy=>qY rfl (zZ hy)⟩,trivial⟩ ⟨rO rfl,⟨_,rfl,rfl,rfl⟩,⟨_,rfl,rfl,rfl⟩,rO rfl,rO rfl,rO rfl,trivial⟩,?_⟩;refine qy kJ mixed (by kernel_rfl) ?_;conv=>whnf
 refine⟨(fun a:Nat=>gst [(1,.c (nql n (V r))),(2,.c (.p 0 0 3 0 0)),(5,.c (.gs 1 0)),(6,.c (nql (r+1) (xpn r))),(7,.c (nql n (w r))),(8,.c (nql (r+1) (g r))),(9,.c (.int .i64 ((a:Nat):Int)))] [⟨24,3,1,qk (qG n n p)⟩,⟨130,3,r,kcF n kv kq kp⟩]) 0,Weak.gen [some 0,some 1] rfl ⟨Rf.boxK rfl rfl,⟨_,rfl,rfl,rfl,rfl,rfl,fun x y hx hy=>qY rfl (zZ hy)⟩,trivial⟩ ⟨rO rfl,⟨_,rfl,rfl,rfl⟩,⟨_,rfl,rfl,rfl⟩,rO rfl,rO rfl,rO rfl,⟨_,rfl,rfl⟩,trivial⟩,?_⟩;refine qF (fun _:Unit=>(fun a:Nat=>gst [(1,.c (nql n (V r))),(2,.c (.p 0 0 3 0 0)),(5,.c (.gs 1 0)),(6,.c (nql (r+1) (xpn r))),(7,.c (nql n (w r))),(8,.c (nql (r+1) (g r))),(9,.c (.int .i64 ((a:Nat):Int)))] [⟨24,3,1,qk (qG n n p)⟩,⟨130,3,r,kcF n kv kq kp⟩]) (at_ r)) (fun _=>True) ?_ fun _ _=>?_
 ·refine qq (qZ (fun a:Nat=>gst [(1,.c (nql n (V r))),(2,.c (.p 0 0 3 0 0)),(5,.c (.gs 1 0)),(6,.c (nql (r+1) (xpn r))),(7,.c (nql n (w r))),(8,.c (nql (r+1) (g r))),(9,.c (.int .i64 ((a:Nat):Int)))] [⟨24,3,1,qk (qG n n p)⟩,⟨130,3,r,kcF n kv kq kp⟩]) (fun a=>n-a) (fun a=>a<=at_ r) 0 (Weak.refl _) (Nat.zero_le _) fun a ha=>?_);have ha:a<=at_ r:=ha;have knz:=knz a;have a2:=a2 a;have j0:(0:Int)<=(a:Int):=by omega
  refine qy kJ mixed (by kernel_rfl) ?_;conv=>whnf
  refine qg (fun(gh:decide ((a:Int)<(n:Int))=true)=>?_) fun(gh:decide ((a:Int)<(n:Int))=false)=>?_
  ·have gh:=of_decide_eq_true gh;have j1:(a:Int)<(n:Int):=gh;have knz:=knz (by omega);conv=>whnf
   repeat (refine⟨by first | exact j0 | exact j1,?_⟩;conv=>whnf)
   refine⟨_,knz,?_⟩;conv=>whnf
   refine qg (fun(gh:(!decide (w r a≠0))=true)=>?_) fun(gh:(!decide (w r a≠0))=false)=>?_
   ·have gh:w r a=0:=by simpa using gh
    have hlt:a<at_ r:=Nat.lt_of_le_of_ne ha fun e=>a3 (by omega) (by rw[<- e];exact gh);conv=>whnf
    refine⟨(fun a:Nat=>gst [(1,.c (nql n (V r))),(2,.c (.p 0 0 3 0 0)),(5,.c (.gs 1 0)),(6,.c (nql (r+1) (xpn r))),(7,.c (nql n (w r))),(8,.c (nql (r+1) (g r))),(9,.c (.int .i64 ((a:Nat):Int)))] [⟨24,3,1,qk (qG n n p)⟩,⟨130,3,r,kcF n kv kq kp⟩]) a,Weak.gen [some 0,some 1] rfl ⟨Rf.boxK rfl rfl,⟨_,rfl,rfl,rfl,rfl,rfl,fun x y hx hy=>qY rfl (zZ hy)⟩,trivial⟩ ⟨rO rfl,⟨_,rfl,rfl,rfl⟩,⟨_,rfl,rfl,rfl⟩,rO rfl,rO rfl,rO rfl,⟨_,rfl,rfl⟩,trivial⟩,?_⟩;refine qq ?_;refine qJ kJ mixed (by kernel_rfl) ?_;conv=>whnf
    refine⟨qz (by omega) (by omega),?_⟩;conv=>whnf
    exact⟨a+1,by omega,Weak.gen [some 0,some 1] rfl ⟨Rf.boxK rfl rfl,⟨_,rfl,rfl,rfl,rfl,rfl,fun x y hx hy=>qY rfl (zZ hy)⟩,trivial⟩ ⟨rO rfl,⟨_,rfl,rfl,rfl⟩,⟨_,rfl,rfl,rfl⟩,rO rfl,rO rfl,rO rfl,⟨_,rfl,rfl⟩,trivial⟩,hlt⟩
   ·have gh:w r a≠0:=by simpa using gh
    have e:a=at_ r:=Nat.le_antisymm ha (Nat.le_of_not_lt fun c=>gh (a2 c));conv=>whnf
    exact⟨(),trivial,Weak.gen [some 0,some 1] rfl ⟨Rf.boxK rfl rfl,⟨_,rfl,rfl,rfl,rfl,rfl,fun x y hx hy=>qY rfl (zZ hy)⟩,trivial⟩ ⟨rO rfl,⟨_,rfl,rfl,rfl⟩,⟨_,rfl,rfl,rfl⟩,rO rfl,rO rfl,rO rfl,⟨_,rfl,by rw[<- e]⟩,trivial⟩⟩
  ·have gh:=of_decide_eq_false gh;have e:a=at_ r:=by omega
   conv=>whnf
   exact⟨(),trivial,Weak.gen [some 0,some 1] rfl ⟨Rf.boxK rfl rfl,⟨_,rfl,rfl,rfl,rfl,rfl,fun x y hx hy=>qY rfl (zZ hy)⟩,trivial⟩ ⟨rO rfl,⟨_,rfl,rfl,rfl⟩,⟨_,rfl,rfl,rfl⟩,rO rfl,rO rfl,rO rfl,⟨_,rfl,by rw[<- e]⟩,trivial⟩⟩
 rcases Nat.lt_or_ge r R with hlt | hge;rotate_left
 ·obtain rfl:r=R:=by omega
  refine qy kJ mixed (by kernel_rfl) ?_;conv=>whnf
  refine xG (show decide (((at_ r:Nat):Int)=(n:Int))=true from decide_eq_true (by rw[a5])) ?_;conv=>whnf
  refine⟨_,kmon,?_⟩;conv=>whnf
  exact⟨rfl,Sub.refl _⟩
 have a4:=a4 hlt;rw[a4];have kp1:=kp1 r hlt;have kquo:=kquo r hlt;have kmul:=fun j=>kmul r j hlt;have ksc:=ksc r hlt;have kap:=kap r hlt;have p0:(0:Int)<=((kp r:Nat):Int):=by omega
 have p1:((kp r:Nat):Int)<(n:Int):=by omega
 refine qy kJ mixed (by kernel_rfl) ?_;conv=>whnf
 refine jj (show decide (((kp r:Nat):Int)=(n:Int))=false from decide_eq_false (by omega)) ?_;conv=>whnf
 refine⟨(fun a:Nat=>gst [(1,.c (nql n (V r))),(2,.c (.p 0 0 3 0 0)),(5,.c (.gs 1 0)),(6,.c (nql (r+1) (xpn r))),(7,.c (nql n (w r))),(8,.c (nql (r+1) (g r))),(9,.c (.int .i64 ((a:Nat):Int)))] [⟨24,3,1,qk (qG n n p)⟩,⟨130,3,r,kcF n kv kq kp⟩]) (kp r),Weak.gen [some 0,some 1] rfl ⟨Rf.boxK rfl rfl,⟨_,rfl,rfl,rfl,rfl,rfl,fun x y hx hy=>qY rfl (zZ hy)⟩,trivial⟩ ⟨rO rfl,⟨_,rfl,rfl,rfl⟩,⟨_,rfl,rfl,rfl⟩,rO rfl,rO rfl,rO rfl,⟨_,rfl,rfl⟩,trivial⟩,?_⟩;refine qy kJ mixed (by kernel_rfl) ?_;conv=>whnf
 refine⟨_,k0,?_⟩;conv=>whnf
 repeat (refine⟨by first | exact p0 | exact p1,?_⟩;conv=>whnf)
 refine⟨_,kquo,?_⟩;conv=>whnf
 refine⟨gst [(1,.c (nql n (V r))),(2,.c (.p 0 0 3 0 0)),(5,.c (.gs 1 0)),(6,.c (nql (r+1) (xpn r))),(7,.c (nql n (w r))),(8,.c (nql (r+1) (g r))),(9,.c (.int .i64 ((kp r:Nat):Int))),(10,.c (.p 2 0 4 0 0))] [⟨24,3,1,qk (qG n n p)⟩,⟨130,3,r,kcF n kv kq kp⟩,⟨38,4,1,qk (nq (bb r))⟩],Weak.gen [some 0,some 1,some 11] rfl ⟨Rf.boxK rfl rfl,⟨_,rfl,rfl,rfl,rfl,rfl,fun x y hx hy=>qY rfl (zZ hy)⟩,Rf.boxU rfl rfl rfl,trivial⟩ ⟨rO rfl,⟨_,rfl,rfl,rfl⟩,⟨_,rfl,rfl,rfl⟩,rO rfl,rO rfl,rO rfl,⟨_,rfl,rfl⟩,⟨_,rfl,rfl,rfl⟩,trivial⟩,?_⟩;refine qy kJ mixed (by kernel_rfl) ?_;conv=>whnf
 refine⟨by omega,Int.le_refl _,by omega,by show(64:Int)*n<=281474976710656;omega,?_⟩;conv=>whnf
 refine⟨gst [(1,.c (nql n (V r))),(2,.c (.p 0 0 3 0 0)),(5,.c (.gs 1 0)),(6,.c (nql (r+1) (xpn r))),(7,.c (nql n (w r))),(8,.c (nql (r+1) (g r))),(9,.c (.int .i64 ((kp r:Nat):Int))),(10,.c (.p 2 0 4 0 0)),(12,.c (.gs 3 0))] [⟨24,3,1,qk (qG n n p)⟩,⟨130,3,r,kcF n kv kq kp⟩,⟨38,4,1,qk (nq (bb r))⟩,gqp n (kv r) 0],Weak.gen [some 0,some 1,some 2,some 3] rfl ⟨Rf.boxK rfl rfl,⟨_,rfl,rfl,rfl,rfl,rfl,fun x y hx hy=>qY rfl (zZ hy)⟩,Rf.boxK rfl rfl,⟨_,rfl,rfl,rfl,by show Int.toNat n=n;omega,rfl,fun k j hk hj=>qY (congrArg (fun l=>l.getD j .any) (gV (kv r) k).symm) (z5 k j)⟩,trivial⟩ ⟨rO rfl,⟨_,rfl,rfl,rfl⟩,⟨_,rfl,rfl,rfl⟩,rO rfl,rO rfl,rO rfl,⟨_,rfl,rfl⟩,⟨_,rfl,rfl,rfl⟩,⟨_,rfl,rfl,rfl⟩,trivial⟩,?_⟩;refine qF (fun _:Unit=>gst [(1,.c (nql n (V r))),(2,.c (.p 0 0 3 0 0)),(5,.c (.gs 1 0)),(6,.c (nql (r+1) (xpn r))),(7,.c (nql n (w r))),(8,.c (nql (r+1) (g r))),(9,.c (.int .i64 ((kp r:Nat):Int))),(10,.c (.p 2 0 4 0 0)),(12,.c (nql n (kv r)))] [⟨24,3,1,qk (qG n n p)⟩,⟨130,3,r,kcF n kv kq kp⟩,⟨38,4,1,qk (nq (bb r))⟩]) (fun _=>True) ?_ fun _ _=>?_
 ·refine qy kJ mixed (by kernel_rfl) ?_;conv=>whnf
  refine⟨(fun j:Nat=>gst [(1,.c (nql n (V r))),(2,.c (.p 0 0 3 0 0)),(5,.c (.gs 1 0)),(6,.c (nql (r+1) (xpn r))),(7,.c (nql n (w r))),(8,.c (nql (r+1) (g r))),(9,.c (.int .i64 ((kp r:Nat):Int))),(10,.c (.p 2 0 4 0 0)),(12,.c (.gs 3 0)),(57,.c (.int .i64 ((n:Nat):Int))),(58,.c (.int .i64 ((j:Nat):Int)))] [⟨24,3,1,qk (qG n n p)⟩,⟨130,3,r,kcF n kv kq kp⟩,⟨38,4,1,qk (nq (bb r))⟩,gqp n (kv r) j]) 0,Weak.gen [some 0,some 1,some 2,some 3] rfl ⟨Rf.boxK rfl rfl,⟨_,rfl,rfl,rfl,rfl,rfl,fun x y hx hy=>qY rfl (zZ hy)⟩,Rf.boxK rfl rfl,⟨_,rfl,rfl,rfl,rfl,rfl,fun k j hk hj=>qY rfl (z5 k j)⟩,trivial⟩ ⟨rO rfl,⟨_,rfl,rfl,rfl⟩,⟨_,rfl,rfl,rfl⟩,rO rfl,rO rfl,rO rfl,⟨_,rfl,rfl⟩,⟨_,rfl,rfl,rfl⟩,⟨_,rfl,rfl,rfl⟩,⟨_,rfl,rfl⟩,⟨_,rfl,rfl⟩,trivial⟩,?_⟩;refine qq (qZ (fun j:Nat=>gst [(1,.c (nql n (V r))),(2,.c (.p 0 0 3 0 0)),(5,.c (.gs 1 0)),(6,.c (nql (r+1) (xpn r))),(7,.c (nql n (w r))),(8,.c (nql (r+1) (g r))),(9,.c (.int .i64 ((kp r:Nat):Int))),(10,.c (.p 2 0 4 0 0)),(12,.c (.gs 3 0)),(57,.c (.int .i64 ((n:Nat):Int))),(58,.c (.int .i64 ((j:Nat):Int)))] [⟨24,3,1,qk (qG n n p)⟩,⟨130,3,r,kcF n kv kq kp⟩,⟨38,4,1,qk (nq (bb r))⟩,gqp n (kv r) j]) (fun j=>n-j) (fun j=>j<=n) 0 (Weak.refl _) (Nat.zero_le n) fun j hj=>?_);have kmul:=kmul j;have hj:j<=n:=hj;have j0:(0:Int)<=(j:Int):=by omega
  refine qJ kJ mixed (by kernel_rfl) ?_;conv=>whnf
  refine qg (fun(gh:decide ((j:Int)<(n:Int))=true)=>?_) fun(gh:decide ((j:Int)<(n:Int))=false)=>?_
  ·have gh:=of_decide_eq_true gh;have j1:(j:Int)<(n:Int):=gh;have kmul:=kmul (by omega);conv=>whnf
   repeat (refine⟨by first | exact j0 | exact j1,?_⟩;conv=>whnf)
   refine⟨_,kmul,?_⟩;conv=>whnf
   repeat (refine⟨by first | exact j0 | exact j1,?_⟩;conv=>whnf)
   refine⟨qz (by omega) (by omega),?_⟩;conv=>whnf
   exact⟨j+1,by omega,Weak.gen [some 0,some 1,some 2,some 3] rfl ⟨Rf.boxK rfl rfl,⟨_,rfl,rfl,rfl,rfl,rfl,fun x y hx hy=>qY rfl (zZ hy)⟩,Rf.boxK rfl rfl,⟨_,rfl,rfl,rfl,rfl,rfl,fun k y hk hy=>qY (WZ (sz:=4) (g:=qpF (kv r) j) (g':=qpF (kv r) (j+1)) (l:=nq (kv r j)) rfl hy (y6 (kv r) j k)) (z5 k y)⟩,trivial⟩ ⟨rO rfl,⟨_,rfl,rfl,rfl⟩,⟨_,rfl,rfl,rfl⟩,rO rfl,rO rfl,rO rfl,⟨_,rfl,rfl⟩,⟨_,rfl,rfl,rfl⟩,⟨_,rfl,rfl,rfl⟩,⟨_,rfl,rfl⟩,⟨_,rfl,rfl⟩,trivial⟩,by omega⟩
  ·have gh:=of_decide_eq_false gh;obtain rfl:j=n:=by omega
   conv=>whnf
   exact⟨(),trivial,Weak.gen [some 0,some 1,some 2] rfl ⟨Rf.boxK rfl rfl,⟨_,rfl,rfl,rfl,rfl,rfl,fun x y hx hy=>qY rfl (zZ hy)⟩,Rf.boxK rfl rfl,trivial⟩ ⟨rO rfl,⟨_,rfl,rfl,rfl⟩,⟨_,rfl,rfl,rfl⟩,rO rfl,rO rfl,rO rfl,⟨_,rfl,rfl⟩,⟨_,rfl,rfl,rfl⟩,.inr (.inr ⟨3,_,rfl,rfl,rfl,rfl,Nat.zero_le _,rfl,rfl,fun x y hx hy=>⟨V5 hx y,Uw _ x y⟩⟩),trivial⟩⟩
 refine qy kJ mixed (by kernel_rfl) ?_;conv=>whnf
 refine⟨_,ksc,?_⟩;conv=>whnf
 refine⟨by show r+1<=16777216;omega,fun a b ha hb=>one_kc ha hb,?_⟩;conv=>whnf
 refine⟨gst [(1,.c (nql n (V r))),(2,.c (.p 0 0 3 0 0)),(5,.c (.gs 1 0)),(6,.c (nql (r+1) (xpn r)))] [⟨24,3,1,qk (qG n n p)⟩,⟨130,3,r+1,kcF n kv kq kp⟩],Weak.gen [some 0,some 1] rfl ⟨Rf.boxK rfl rfl,⟨_,rfl,rfl,rfl,rfl,rfl,fun x y hx hy=>qY (app_kc hx hy) (zZ hy)⟩,trivial⟩ ⟨rO rfl,⟨_,rfl,rfl,rfl⟩,⟨_,rfl,rfl,rfl⟩,rO rfl,trivial⟩,?_⟩;refine qJ kJ mixed (by kernel_rfl) ?_;conv=>whnf
 refine⟨_,kap,?_⟩;conv=>whnf
 exact⟨(),hlt,Weak.gen [some 0,some 1] rfl ⟨Rf.boxK rfl rfl,⟨_,rfl,rfl,rfl,rfl,rfl,fun x y hx hy=>qY rfl (zZ hy)⟩,trivial⟩ ⟨rO rfl,⟨_,rfl,rfl,rfl⟩,⟨_,rfl,rfl,rfl⟩,rO rfl,trivial⟩⟩
end Mx
end Go.Proofs.YtkmbnldginonbaaGreat
