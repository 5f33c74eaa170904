/- charpoly.annihilator: its rounds; matrix.Apply, charpoly.monic. -/
import Derived.Test.YtkmbnldginonbaaGreatCo14
import Derived.Test.YtkmbnldginonbaaGreatCo13
import Derived.Test.YtkmbnldginonbaaGreatCo9
import Derived.Test.YtkmbnldginonbaaGreatCo11
import Derived.Test.YtkmbnldginonbaaGreatRows
import Derived.ProofKit
import Derived.OpenShut
import Derived.Carry
import Derived.ChangeSame
import Derived.Test.YtkmbnldginonbaaGreatCo8
set_option maxHeartbeats 16000000
namespace Go.Proofs.YtkmbnldginonbaaGreat
open Go.RowKit
namespace Mx
open Rf
theorem monic_n {n:Nat} {c:Nat->Rat} {L:Nat} (hn:n≤100) (hc:∀ i,i<n+1->qlen (c i)≤L) (hL:L+16≤LIM) (ht:c n=1):FnOK Tryz.prog true 114 [.c (nql (n+1) c)] (.c (nql (n+1) c)):=by
 have k1:=q1_ok
 have k2:FnOK Tryz.prog true 59 [.g (nq 1),.g (nq (c (((n+1:Nat):Int)-1).toNat))] (.t2 (.g (nq 1)) (.c (.int .i64 0))):=by
  rw[show(((n+1:Nat):Int)-1).toNat=n by omega,ht]
  exact div_one_ok 1 (L:=1) q_one (by decide)
 have k3:FnOK Tryz.prog true 44 [.c (nql (n+1) c),.g (nq 1)] (.c (nql (n+1) c)):=by
  have h:=scale_step (m:=n+1) (F:=c) (w:=1) (L:=L) (L':=1) (by omega) hc q_one (by omega)
  have e:(fun i=>c i*1)=c:=funext fun i=>Rat.mul_one _
  rw[e,Q.tq_self (v:=c) (n:=n+1) (fun k hk=>by rw[show k=n by omega,ht];decide)]at h
  exact h
 have j0:(0:Int)≤((n+1:Nat):Int)-1:=by omega
 have j1:((n+1:Nat):Int)-1<((n+1:Nat):Int):=by omega
 refine fn_ok (E:=E1) E1_ok Tryz.func114 rfl mixed (by kernel_rfl) (by kernel_rfl) ?_
 conv=>whnf
 refine⟨_,k1,?_⟩
 conv=>whnf
 refine⟨i64_range (by omega) (by omega),?_⟩
 conv=>whnf
 repeat (refine⟨by first | exact j0 | exact j1,?_⟩;conv=>whnf)
 refine⟨_,k2,?_⟩
 conv=>whnf
 refine⟨_,k3,?_⟩
 conv=>whnf
 exact⟨rfl,Sub.refl _⟩
theorem apply_n {n:Nat} {x y:Nat->Rat} {p:Nat->RawR} {A:Nat->Nat->Rat} (hn:n≤64) (hx:∀ i,i<n->qlen (x i)≤KD) (hp:∀ a,a<n*n->(p a).Fit KD) (hA:∀ i j,i<n->j<n->(p (i*n+j)).val=A i j) (hl:∀ i j,i<n->j<n->qlen (A i j)≤KD) (hS:∀ i j,i≤n->j<n->qlen (sumR x A i j)≤KD) (hy:∀ j,j<n->sumR x A n j=y j):FnOK Tryz.prog true 115 [.c (nql n x),.g (rmat n n p)] (.t2 (.c (nql n y)) (.c (.int .i64 0))):=by
 have v1:=valid_yes (n:=n) (m:=n) (q:=p) (by omega) (by omega)
 have l1:=loadR_ok hn hn hp hA
 have hQ:KD≤QS:=by decide
 have t0:FnOK Tryz.prog true 120 [.c (nql n x),.c (rowsC n n A),.c (.int .i64 n)] (.c (nql n y)):=by
  have h:=times_ok (n:=n) (m:=n) (X:=x) (G:=A) (by omega) (by omega) (fun j hj=>Nat.le_trans (hx j hj) hQ) (fun a b ha hb=>Nat.le_trans (hl a b ha hb) hQ) fun a b ha hb=>by
   rw[rowSum_su]
   exact Nat.le_trans (hS a b (by omega) hb) hQ
  have e:rowSum x A n=sumR x A n:=funext fun j=>rowSum_su x A n j
  rw[e]at h
  exact h.res (subRowG rfl fun i j hi _=>congrArg (fun z=>(rr (ofR z)).getD j .any) (hy i hi))
 clear hx hp hA hl hS hy
 refine fn_ok (E:=E1) E1_ok Tryz.func115 rfl mixed (by kernel_rfl) (by kernel_rfl) ?_
 conv=>whnf
 refine⟨_,v1,?_⟩
 conv=>whnf
 refine bneg (show(!decide ((n:Int)=n))=false by simp) ?_
 conv=>whnf
 refine .inr ⟨_,l1,?_⟩
 conv=>whnf
 refine⟨_,t0,?_⟩
 conv=>whnf
 exact⟨rfl,Sub.refl _⟩
theorem one_kc {bl:List Blk} {r:Prop} {n:Nat} {v q:Nat->Rat} {z:Int} {m i y:Nat} (hi:i<1) (hy:y<3):St.one bl (rowF 3 [nql n v,.int .i64 z,nql m q] i y)=true/\(r->(rowF 3 [nql n v,.int .i64 z,nql m q] i y).noU=true):=by
 obtain rfl:i=0:=by omega
 match y,hy with
 | 0,_=>exact⟨rfl,fun _=>rfl⟩
 | 1,_=>exact⟨rfl,fun _=>rfl⟩
 | 2,_=>exact⟨rfl,fun _=>rfl⟩
theorem app_kc {n:Nat} {kv kq:Nat->Nat->Rat} {kp:Nat->Nat} {r i y:Nat} (hi:i<r+1) (hy:y<3):appF r (kcF n kv kq kp) (rowF 3 [nql n (kv r),.int .i64 ((kp r:Nat):Int),nql (r+1) (kq r)]) i y=kcF n kv kq kp i y:=by
 unfold appF
 by_cases h:i<r
 ·rw[if_pos h]
 ·rw[if_neg h]
  obtain rfl:i=r:=by omega
  rw[Nat.sub_self]
  match y,hy with
  | 0,_=>rfl
  | 1,_=>rfl
  | 2,_=>rfl
structure Anw (n R : Nat) (p : Nat → RawR) (V w g kv kq : Nat → Nat → Rat) (kp : Nat → Nat) (bb : Nat → Rat) : Prop where
 hn:n≤64
 hR:R≤64
 kred:∀ r,r≤R->FnM Tryz.prog true 113 (gb (kcB n r kv kq kp)) [.c (.gs 0 0),.c (nql n (V r)),.c (nql (r+1) (xpn r))] (.t2 (.c (nql n (w r))) (.c (nql (r+1) (g r)))) (gb (kcB n r kv kq kp)) []
 knz:∀ r j,r≤R->j<n->FnOK Tryz.prog true 47 [.g (nq (w r j))] (.c (.bool (decide (w r j≠0))))
 kp1:∀ r,r<R->kp r<n
 kp2:∀ r,r<R->w r (kp r)≠0
 kp3:∀ r j,r<R->j<kp r->w r j=0
 kz:∀ j,j<n->w R j=0
 kquo:∀ r,r<R->FnOK Tryz.prog true 59 [.g (nq 1),.g (nq (w r (kp r)))] (.t2 (.g (nq (bb r))) (.c (.int .i64 0)))
 kmul:∀ r j,r<R->j<n->FnOK Tryz.prog true 46 [.g (nq (w r j)),.g (nq (bb r))] (.g (nq (kv r j)))
 ksc:∀ r,r<R->FnOK Tryz.prog true 44 [.c (nql (r+1) (g r)),.g (nq (bb r))] (.c (nql (r+1) (kq r)))
 kap:∀ r,r<R->FnOK Tryz.prog true 115 [.c (nql n (V r)),.g (rmat n n p)] (.t2 (.c (nql n (V (r+1)))) (.c (.int .i64 0)))
 ksh:∀ r,r<R->FnOK Tryz.prog true 43 [.c (nql (r+1) (xpn r))] (.c (nql (r+2) (xpn (r+1))))
 kmon:FnOK Tryz.prog true 114 [.c (nql (R+1) (g R))] (.c (nql (R+1) (g R)))
set_option maxRecDepth 100000 in
theorem ann_walk {n R:Nat} {p:Nat->RawR} {V w g kv kq:Nat->Nat->Rat} {kp:Nat->Nat} {bb:Nat->Rat} (h:Anw n R p V w g kv kq kp bb):FnOK Tryz.prog true 67 [.g (rmat n n p),.c (nql n (V 0))] (.c (nql (R+1) (g R))):=by
 obtain⟨hn,hR,kred,knz,kp1,kp2,kp3,kz,kquo,kmul,ksc,kap,ksh,kmon⟩:=h
 have k1:=one_ok
 have k0:=q1_ok
 obtain⟨at_,hat⟩:∃ at_:Nat->Nat,∀ r,at_ r=if r<R then kp r else n:=⟨_,fun _=>rfl⟩
 have a1:∀ r,at_ r≤n:=fun r=>by
  rw[hat]
  split
  ·next c=>exact Nat.le_of_lt (kp1 r c)
  ·exact Nat.le_refl n
 have a2:∀ r j,r≤R->j<at_ r->w r j=0:=fun r j hr hj=>by
  rw[hat]at hj
  split at hj
  ·next c=>exact kp3 r j c hj
  ·obtain rfl:r=R:=by omega
   exact kz j hj
 have a3:∀ r,at_ r<n->w r (at_ r)≠0:=fun r hj=>by
  rw[hat]at hj ⊢
  split at hj
  ·next c=>rw[if_pos c];exact kp2 r c
  ·omega
 have a4:∀ r,r<R->at_ r=kp r:=fun r hr=>by rw[hat,if_pos hr]
 have a5:at_ R=n:=by rw[hat,if_neg (Nat.lt_irrefl R)]
 clear kp2 kp3 kz hat
 refine fn_okS (E:=E1k) E1k_ok Tryz.func67 rfl (by kernel_rfl) ?_
 refine swp_seq0 E1k_ok mixed (by kernel_rfl) ?_
 conv=>whnf
 refine swp_seq0 E1k_ok mixed (by kernel_rfl) ?_
 conv=>whnf
 refine swp_seq E1k_ok mixed (by kernel_rfl) ?_
 conv=>whnf
 refine⟨_,k1,?_⟩
 conv=>whnf
 refine⟨(fun r:Nat=>gst [(1,.c (nql n (V r))),(2,.c (.p 0 0 3 0 0)),(5,.c (.gs 1 0)),(6,.c (nql (r+1) (xpn r)))] [⟨24,3,1,boxF (rmat n n p)⟩,⟨130,3,r,kcF n kv kq kp⟩]) 0,Weak.gen [some 0,none] rfl ⟨Rf.boxK rfl rfl,rfl,trivial⟩ ⟨.inl ⟨_,_,rfl,rfl,fun _ _ _ _=>rfl⟩,⟨_,rfl,rfl,rfl⟩,rfl,reg_nq fun x hx=>by rw[show x=0 by omega];rfl,trivial⟩,?_⟩
 refine swp_block (swp_loop (fun r:Nat=>gst [(1,.c (nql n (V r))),(2,.c (.p 0 0 3 0 0)),(5,.c (.gs 1 0)),(6,.c (nql (r+1) (xpn r)))] [⟨24,3,1,boxF (rmat n n p)⟩,⟨130,3,r,kcF n kv kq kp⟩]) (fun r=>R+1-r) (fun r=>r≤R) 0 (Weak.refl _) (Nat.zero_le R) fun r hr=>?_)
 have hr:r≤R:=hr
 have kred:=kred r hr
 have knz:=fun j=>knz r j hr
 have a1:=a1 r
 have a2:=fun j=>a2 r j hr
 have a3:=a3 r
 have a4:=a4 r
 refine swp_mid (fun _:Unit=>gst [(1,.c (nql n (V (r+1)))),(2,.c (.p 0 0 3 0 0)),(5,.c (.gs 1 0)),(6,.c (nql (r+1) (xpn r)))] [⟨24,3,1,boxF (rmat n n p)⟩,⟨130,3,(r+1),kcF n kv kq kp⟩]) (fun _=>r<R) ?_ fun _ hlt=>?_
 rotate_left
 ·have ksh:=ksh r hlt
  refine swp_of E1k_ok mixed (by kernel_rfl) ?_
  conv=>whnf
  refine⟨_,ksh,?_⟩
  conv=>whnf
  exact⟨r+1,by omega,Weak.gen [some 0,some 1] rfl ⟨Rf.boxK rfl rfl,⟨_,rfl,rfl,rfl,rfl,rfl,fun x y hx hy=>regE rfl (kc_clos hy)⟩,trivial⟩ ⟨.inl ⟨_,_,rfl,rfl,fun _ _ _ _=>rfl⟩,⟨_,rfl,rfl,rfl⟩,⟨_,rfl,rfl,rfl⟩,.inl ⟨_,_,rfl,rfl,fun _ _ _ _=>rfl⟩,trivial⟩,hlt⟩
 refine swp_block ?_
 refine swp_seq E1k_ok mixed (by kernel_rfl) ?_
 conv=>whnf
 refine .inl ⟨[],false,?_⟩
 conv=>whnf
 refine⟨1,gb (kcB n r kv kq kp),[.c (.gs 0 0),.c (nql n (V r)),.c (nql (r+1) (xpn r))],_,_,_,kred,rfl,.inl rfl,fun _ _ _ _ hj=>kc_clos hj,fun _ _ _ _ hj=>kc_clos hj,fun F hF=>absurd hF List.not_mem_nil,rfl,rfl,?_⟩
 conv=>whnf
 refine⟨gst [(1,.c (nql n (V r))),(2,.c (.p 0 0 3 0 0)),(5,.c (.gs 1 0)),(6,.c (nql (r+1) (xpn r))),(7,.c (nql n (w r))),(8,.c (nql (r+1) (g r)))] [⟨24,3,1,boxF (rmat n n p)⟩,⟨130,3,r,kcF n kv kq kp⟩],Weak.gen [some 0,some 1] rfl ⟨Rf.boxK rfl rfl,⟨_,rfl,rfl,rfl,rfl,rfl,fun x y hx hy=>regE rfl (kc_clos hy)⟩,trivial⟩ ⟨.inl ⟨_,_,rfl,rfl,fun _ _ _ _=>rfl⟩,⟨_,rfl,rfl,rfl⟩,⟨_,rfl,rfl,rfl⟩,.inl ⟨_,_,rfl,rfl,fun _ _ _ _=>rfl⟩,.inl ⟨_,_,rfl,rfl,fun _ _ _ _=>rfl⟩,.inl ⟨_,_,rfl,rfl,fun _ _ _ _=>rfl⟩,trivial⟩,?_⟩
 refine swp_seq E1k_ok mixed (by kernel_rfl) ?_
 conv=>whnf
 refine⟨(fun a:Nat=>gst [(1,.c (nql n (V r))),(2,.c (.p 0 0 3 0 0)),(5,.c (.gs 1 0)),(6,.c (nql (r+1) (xpn r))),(7,.c (nql n (w r))),(8,.c (nql (r+1) (g r))),(9,.c (.int .i64 ((a:Nat):Int)))] [⟨24,3,1,boxF (rmat n n p)⟩,⟨130,3,r,kcF n kv kq kp⟩]) 0,Weak.gen [some 0,some 1] rfl ⟨Rf.boxK rfl rfl,⟨_,rfl,rfl,rfl,rfl,rfl,fun x y hx hy=>regE rfl (kc_clos hy)⟩,trivial⟩ ⟨.inl ⟨_,_,rfl,rfl,fun _ _ _ _=>rfl⟩,⟨_,rfl,rfl,rfl⟩,⟨_,rfl,rfl,rfl⟩,.inl ⟨_,_,rfl,rfl,fun _ _ _ _=>rfl⟩,.inl ⟨_,_,rfl,rfl,fun _ _ _ _=>rfl⟩,.inl ⟨_,_,rfl,rfl,fun _ _ _ _=>rfl⟩,⟨_,rfl,rfl⟩,trivial⟩,?_⟩
 refine swp_mid (fun _:Unit=>(fun a:Nat=>gst [(1,.c (nql n (V r))),(2,.c (.p 0 0 3 0 0)),(5,.c (.gs 1 0)),(6,.c (nql (r+1) (xpn r))),(7,.c (nql n (w r))),(8,.c (nql (r+1) (g r))),(9,.c (.int .i64 ((a:Nat):Int)))] [⟨24,3,1,boxF (rmat n n p)⟩,⟨130,3,r,kcF n kv kq kp⟩]) (at_ r)) (fun _=>True) ?_ fun _ _=>?_
 ·refine swp_block (swp_loop (fun a:Nat=>gst [(1,.c (nql n (V r))),(2,.c (.p 0 0 3 0 0)),(5,.c (.gs 1 0)),(6,.c (nql (r+1) (xpn r))),(7,.c (nql n (w r))),(8,.c (nql (r+1) (g r))),(9,.c (.int .i64 ((a:Nat):Int)))] [⟨24,3,1,boxF (rmat n n p)⟩,⟨130,3,r,kcF n kv kq kp⟩]) (fun a=>n-a) (fun a=>a≤at_ r) 0 (Weak.refl _) (Nat.zero_le _) fun a ha=>?_)
  have ha:a≤at_ r:=ha
  have knz:=knz a
  have a2:=a2 a
  have j0:(0:Int)≤(a:Int):=by omega
  refine swp_seq E1k_ok mixed (by kernel_rfl) ?_
  conv=>whnf
  refine bcase (fun(gh:decide ((a:Int)<(n:Int))=true)=>?_) fun(gh:decide ((a:Int)<(n:Int))=false)=>?_
  ·have gh:=of_decide_eq_true gh
   have j1:(a:Int)<(n:Int):=gh
   have knz:=knz (by omega)
   conv=>whnf
   repeat (refine⟨by first | exact j0 | exact j1,?_⟩;conv=>whnf)
   refine⟨_,knz,?_⟩
   conv=>whnf
   refine bcase (fun(gh:(!decide (w r a≠0))=true)=>?_) fun(gh:(!decide (w r a≠0))=false)=>?_
   ·have gh:w r a=0:=by simpa using gh
    have hlt:a<at_ r:=Nat.lt_of_le_of_ne ha fun e=>a3 (by omega) (by rw[← e];exact gh)
    conv=>whnf
    refine⟨(fun a:Nat=>gst [(1,.c (nql n (V r))),(2,.c (.p 0 0 3 0 0)),(5,.c (.gs 1 0)),(6,.c (nql (r+1) (xpn r))),(7,.c (nql n (w r))),(8,.c (nql (r+1) (g r))),(9,.c (.int .i64 ((a:Nat):Int)))] [⟨24,3,1,boxF (rmat n n p)⟩,⟨130,3,r,kcF n kv kq kp⟩]) a,Weak.gen [some 0,some 1] rfl ⟨Rf.boxK rfl rfl,⟨_,rfl,rfl,rfl,rfl,rfl,fun x y hx hy=>regE rfl (kc_clos hy)⟩,trivial⟩ ⟨.inl ⟨_,_,rfl,rfl,fun _ _ _ _=>rfl⟩,⟨_,rfl,rfl,rfl⟩,⟨_,rfl,rfl,rfl⟩,.inl ⟨_,_,rfl,rfl,fun _ _ _ _=>rfl⟩,.inl ⟨_,_,rfl,rfl,fun _ _ _ _=>rfl⟩,.inl ⟨_,_,rfl,rfl,fun _ _ _ _=>rfl⟩,⟨_,rfl,rfl⟩,trivial⟩,?_⟩
    refine swp_block ?_
    refine swp_of E1k_ok mixed (by kernel_rfl) ?_
    conv=>whnf
    refine⟨i64_range (by omega) (by omega),?_⟩
    conv=>whnf
    exact⟨a+1,by omega,Weak.gen [some 0,some 1] rfl ⟨Rf.boxK rfl rfl,⟨_,rfl,rfl,rfl,rfl,rfl,fun x y hx hy=>regE rfl (kc_clos hy)⟩,trivial⟩ ⟨.inl ⟨_,_,rfl,rfl,fun _ _ _ _=>rfl⟩,⟨_,rfl,rfl,rfl⟩,⟨_,rfl,rfl,rfl⟩,.inl ⟨_,_,rfl,rfl,fun _ _ _ _=>rfl⟩,.inl ⟨_,_,rfl,rfl,fun _ _ _ _=>rfl⟩,.inl ⟨_,_,rfl,rfl,fun _ _ _ _=>rfl⟩,⟨_,rfl,rfl⟩,trivial⟩,hlt⟩
   ·have gh:w r a≠0:=by simpa using gh
    have e:a=at_ r:=Nat.le_antisymm ha (Nat.le_of_not_lt fun c=>gh (a2 c))
    conv=>whnf
    exact⟨(),trivial,Weak.gen [some 0,some 1] rfl ⟨Rf.boxK rfl rfl,⟨_,rfl,rfl,rfl,rfl,rfl,fun x y hx hy=>regE rfl (kc_clos hy)⟩,trivial⟩ ⟨.inl ⟨_,_,rfl,rfl,fun _ _ _ _=>rfl⟩,⟨_,rfl,rfl,rfl⟩,⟨_,rfl,rfl,rfl⟩,.inl ⟨_,_,rfl,rfl,fun _ _ _ _=>rfl⟩,.inl ⟨_,_,rfl,rfl,fun _ _ _ _=>rfl⟩,.inl ⟨_,_,rfl,rfl,fun _ _ _ _=>rfl⟩,⟨_,rfl,by rw[← e]⟩,trivial⟩⟩
  ·have gh:=of_decide_eq_false gh
   have e:a=at_ r:=by omega
   conv=>whnf
   exact⟨(),trivial,Weak.gen [some 0,some 1] rfl ⟨Rf.boxK rfl rfl,⟨_,rfl,rfl,rfl,rfl,rfl,fun x y hx hy=>regE rfl (kc_clos hy)⟩,trivial⟩ ⟨.inl ⟨_,_,rfl,rfl,fun _ _ _ _=>rfl⟩,⟨_,rfl,rfl,rfl⟩,⟨_,rfl,rfl,rfl⟩,.inl ⟨_,_,rfl,rfl,fun _ _ _ _=>rfl⟩,.inl ⟨_,_,rfl,rfl,fun _ _ _ _=>rfl⟩,.inl ⟨_,_,rfl,rfl,fun _ _ _ _=>rfl⟩,⟨_,rfl,by rw[← e]⟩,trivial⟩⟩
 rcases Nat.lt_or_ge r R with hlt | hge
 rotate_left
 ·obtain rfl:r=R:=by omega
  refine swp_seq E1k_ok mixed (by kernel_rfl) ?_
  conv=>whnf
  refine bpos (show decide (((at_ r:Nat):Int)=(n:Int))=true from decide_eq_true (by rw[a5])) ?_
  conv=>whnf
  refine⟨_,kmon,?_⟩
  conv=>whnf
  exact⟨rfl,Sub.refl _⟩
 have a4:=a4 hlt
 rw[a4]
 have kp1:=kp1 r hlt
 have kquo:=kquo r hlt
 have kmul:=fun j=>kmul r j hlt
 have ksc:=ksc r hlt
 have kap:=kap r hlt
 have p0:(0:Int)≤((kp r:Nat):Int):=by omega
 have p1:((kp r:Nat):Int)<(n:Int):=by omega
 refine swp_seq E1k_ok mixed (by kernel_rfl) ?_
 conv=>whnf
 refine bneg (show decide (((kp r:Nat):Int)=(n:Int))=false from decide_eq_false (by omega)) ?_
 conv=>whnf
 refine⟨(fun a:Nat=>gst [(1,.c (nql n (V r))),(2,.c (.p 0 0 3 0 0)),(5,.c (.gs 1 0)),(6,.c (nql (r+1) (xpn r))),(7,.c (nql n (w r))),(8,.c (nql (r+1) (g r))),(9,.c (.int .i64 ((a:Nat):Int)))] [⟨24,3,1,boxF (rmat n n p)⟩,⟨130,3,r,kcF n kv kq kp⟩]) (kp r),Weak.gen [some 0,some 1] rfl ⟨Rf.boxK rfl rfl,⟨_,rfl,rfl,rfl,rfl,rfl,fun x y hx hy=>regE rfl (kc_clos hy)⟩,trivial⟩ ⟨.inl ⟨_,_,rfl,rfl,fun _ _ _ _=>rfl⟩,⟨_,rfl,rfl,rfl⟩,⟨_,rfl,rfl,rfl⟩,.inl ⟨_,_,rfl,rfl,fun _ _ _ _=>rfl⟩,.inl ⟨_,_,rfl,rfl,fun _ _ _ _=>rfl⟩,.inl ⟨_,_,rfl,rfl,fun _ _ _ _=>rfl⟩,⟨_,rfl,rfl⟩,trivial⟩,?_⟩
 refine swp_seq E1k_ok mixed (by kernel_rfl) ?_
 conv=>whnf
 refine⟨_,k0,?_⟩
 conv=>whnf
 repeat (refine⟨by first | exact p0 | exact p1,?_⟩;conv=>whnf)
 refine⟨_,kquo,?_⟩
 conv=>whnf
 refine⟨gst [(1,.c (nql n (V r))),(2,.c (.p 0 0 3 0 0)),(5,.c (.gs 1 0)),(6,.c (nql (r+1) (xpn r))),(7,.c (nql n (w r))),(8,.c (nql (r+1) (g r))),(9,.c (.int .i64 ((kp r:Nat):Int))),(10,.c (.p 2 0 4 0 0))] [⟨24,3,1,boxF (rmat n n p)⟩,⟨130,3,r,kcF n kv kq kp⟩,⟨38,4,1,boxF (nq (bb r))⟩],Weak.gen [some 0,some 1,some 11] rfl ⟨Rf.boxK rfl rfl,⟨_,rfl,rfl,rfl,rfl,rfl,fun x y hx hy=>regE rfl (kc_clos hy)⟩,Rf.boxU rfl rfl rfl,trivial⟩ ⟨.inl ⟨_,_,rfl,rfl,fun _ _ _ _=>rfl⟩,⟨_,rfl,rfl,rfl⟩,⟨_,rfl,rfl,rfl⟩,.inl ⟨_,_,rfl,rfl,fun _ _ _ _=>rfl⟩,.inl ⟨_,_,rfl,rfl,fun _ _ _ _=>rfl⟩,.inl ⟨_,_,rfl,rfl,fun _ _ _ _=>rfl⟩,⟨_,rfl,rfl⟩,⟨_,rfl,rfl,rfl⟩,trivial⟩,?_⟩
 refine swp_seq E1k_ok mixed (by kernel_rfl) ?_
 conv=>whnf
 refine⟨by omega,Int.le_refl _,by omega,by show(64:Int)*n≤281474976710656;omega,?_⟩
 conv=>whnf
 refine⟨gst [(1,.c (nql n (V r))),(2,.c (.p 0 0 3 0 0)),(5,.c (.gs 1 0)),(6,.c (nql (r+1) (xpn r))),(7,.c (nql n (w r))),(8,.c (nql (r+1) (g r))),(9,.c (.int .i64 ((kp r:Nat):Int))),(10,.c (.p 2 0 4 0 0)),(12,.c (.gs 3 0))] [⟨24,3,1,boxF (rmat n n p)⟩,⟨130,3,r,kcF n kv kq kp⟩,⟨38,4,1,boxF (nq (bb r))⟩,gqp n (kv r) 0],Weak.gen [some 0,some 1,some 2,some 3] rfl ⟨Rf.boxK rfl rfl,⟨_,rfl,rfl,rfl,rfl,rfl,fun x y hx hy=>regE rfl (kc_clos hy)⟩,Rf.boxK rfl rfl,⟨_,rfl,rfl,rfl,by show Int.toNat n=n;omega,rfl,fun k j hk hj=>regE (congrArg (fun l=>l.getD j .any) (qp_zero (kv r) k).symm) (qp_clos k j)⟩,trivial⟩ ⟨.inl ⟨_,_,rfl,rfl,fun _ _ _ _=>rfl⟩,⟨_,rfl,rfl,rfl⟩,⟨_,rfl,rfl,rfl⟩,.inl ⟨_,_,rfl,rfl,fun _ _ _ _=>rfl⟩,.inl ⟨_,_,rfl,rfl,fun _ _ _ _=>rfl⟩,.inl ⟨_,_,rfl,rfl,fun _ _ _ _=>rfl⟩,⟨_,rfl,rfl⟩,⟨_,rfl,rfl,rfl⟩,⟨_,rfl,rfl,rfl⟩,trivial⟩,?_⟩
 refine swp_mid (fun _:Unit=>gst [(1,.c (nql n (V r))),(2,.c (.p 0 0 3 0 0)),(5,.c (.gs 1 0)),(6,.c (nql (r+1) (xpn r))),(7,.c (nql n (w r))),(8,.c (nql (r+1) (g r))),(9,.c (.int .i64 ((kp r:Nat):Int))),(10,.c (.p 2 0 4 0 0)),(12,.c (nql n (kv r)))] [⟨24,3,1,boxF (rmat n n p)⟩,⟨130,3,r,kcF n kv kq kp⟩,⟨38,4,1,boxF (nq (bb r))⟩]) (fun _=>True) ?_ fun _ _=>?_
 ·refine swp_seq E1k_ok mixed (by kernel_rfl) ?_
  conv=>whnf
  refine⟨(fun j:Nat=>gst [(1,.c (nql n (V r))),(2,.c (.p 0 0 3 0 0)),(5,.c (.gs 1 0)),(6,.c (nql (r+1) (xpn r))),(7,.c (nql n (w r))),(8,.c (nql (r+1) (g r))),(9,.c (.int .i64 ((kp r:Nat):Int))),(10,.c (.p 2 0 4 0 0)),(12,.c (.gs 3 0)),(57,.c (.int .i64 ((n:Nat):Int))),(58,.c (.int .i64 ((j:Nat):Int)))] [⟨24,3,1,boxF (rmat n n p)⟩,⟨130,3,r,kcF n kv kq kp⟩,⟨38,4,1,boxF (nq (bb r))⟩,gqp n (kv r) j]) 0,Weak.gen [some 0,some 1,some 2,some 3] rfl ⟨Rf.boxK rfl rfl,⟨_,rfl,rfl,rfl,rfl,rfl,fun x y hx hy=>regE rfl (kc_clos hy)⟩,Rf.boxK rfl rfl,⟨_,rfl,rfl,rfl,rfl,rfl,fun k j hk hj=>regE rfl (qp_clos k j)⟩,trivial⟩ ⟨.inl ⟨_,_,rfl,rfl,fun _ _ _ _=>rfl⟩,⟨_,rfl,rfl,rfl⟩,⟨_,rfl,rfl,rfl⟩,.inl ⟨_,_,rfl,rfl,fun _ _ _ _=>rfl⟩,.inl ⟨_,_,rfl,rfl,fun _ _ _ _=>rfl⟩,.inl ⟨_,_,rfl,rfl,fun _ _ _ _=>rfl⟩,⟨_,rfl,rfl⟩,⟨_,rfl,rfl,rfl⟩,⟨_,rfl,rfl,rfl⟩,⟨_,rfl,rfl⟩,⟨_,rfl,rfl⟩,trivial⟩,?_⟩
  refine swp_block (swp_loop (fun j:Nat=>gst [(1,.c (nql n (V r))),(2,.c (.p 0 0 3 0 0)),(5,.c (.gs 1 0)),(6,.c (nql (r+1) (xpn r))),(7,.c (nql n (w r))),(8,.c (nql (r+1) (g r))),(9,.c (.int .i64 ((kp r:Nat):Int))),(10,.c (.p 2 0 4 0 0)),(12,.c (.gs 3 0)),(57,.c (.int .i64 ((n:Nat):Int))),(58,.c (.int .i64 ((j:Nat):Int)))] [⟨24,3,1,boxF (rmat n n p)⟩,⟨130,3,r,kcF n kv kq kp⟩,⟨38,4,1,boxF (nq (bb r))⟩,gqp n (kv r) j]) (fun j=>n-j) (fun j=>j≤n) 0 (Weak.refl _) (Nat.zero_le n) fun j hj=>?_)
  have kmul:=kmul j
  have hj:j≤n:=hj
  have j0:(0:Int)≤(j:Int):=by omega
  refine swp_of E1k_ok mixed (by kernel_rfl) ?_
  conv=>whnf
  refine bcase (fun(gh:decide ((j:Int)<(n:Int))=true)=>?_) fun(gh:decide ((j:Int)<(n:Int))=false)=>?_
  ·have gh:=of_decide_eq_true gh
   have j1:(j:Int)<(n:Int):=gh
   have kmul:=kmul (by omega)
   conv=>whnf
   repeat (refine⟨by first | exact j0 | exact j1,?_⟩;conv=>whnf)
   refine⟨_,kmul,?_⟩
   conv=>whnf
   repeat (refine⟨by first | exact j0 | exact j1,?_⟩;conv=>whnf)
   refine⟨i64_range (by omega) (by omega),?_⟩
   conv=>whnf
   exact⟨j+1,by omega,Weak.gen [some 0,some 1,some 2,some 3] rfl ⟨Rf.boxK rfl rfl,⟨_,rfl,rfl,rfl,rfl,rfl,fun x y hx hy=>regE rfl (kc_clos hy)⟩,Rf.boxK rfl rfl,⟨_,rfl,rfl,rfl,rfl,rfl,fun k y hk hy=>regE (updG (sz:=4) (g:=qpF (kv r) j) (g':=qpF (kv r) (j+1)) (l:=nq (kv r j)) rfl hy (qp_next (kv r) j k)) (qp_clos k y)⟩,trivial⟩ ⟨.inl ⟨_,_,rfl,rfl,fun _ _ _ _=>rfl⟩,⟨_,rfl,rfl,rfl⟩,⟨_,rfl,rfl,rfl⟩,.inl ⟨_,_,rfl,rfl,fun _ _ _ _=>rfl⟩,.inl ⟨_,_,rfl,rfl,fun _ _ _ _=>rfl⟩,.inl ⟨_,_,rfl,rfl,fun _ _ _ _=>rfl⟩,⟨_,rfl,rfl⟩,⟨_,rfl,rfl,rfl⟩,⟨_,rfl,rfl,rfl⟩,⟨_,rfl,rfl⟩,⟨_,rfl,rfl⟩,trivial⟩,by omega⟩
  ·have gh:=of_decide_eq_false gh
   obtain rfl:j=n:=by omega
   conv=>whnf
   exact⟨(),trivial,Weak.gen [some 0,some 1,some 2] rfl ⟨Rf.boxK rfl rfl,⟨_,rfl,rfl,rfl,rfl,rfl,fun x y hx hy=>regE rfl (kc_clos hy)⟩,Rf.boxK rfl rfl,trivial⟩ ⟨.inl ⟨_,_,rfl,rfl,fun _ _ _ _=>rfl⟩,⟨_,rfl,rfl,rfl⟩,⟨_,rfl,rfl,rfl⟩,.inl ⟨_,_,rfl,rfl,fun _ _ _ _=>rfl⟩,.inl ⟨_,_,rfl,rfl,fun _ _ _ _=>rfl⟩,.inl ⟨_,_,rfl,rfl,fun _ _ _ _=>rfl⟩,⟨_,rfl,rfl⟩,⟨_,rfl,rfl,rfl⟩,.inr (.inr ⟨3,_,rfl,rfl,rfl,rfl,Nat.zero_le _,rfl,rfl,fun x y hx hy=>⟨qp_all hx y,q_clos _ x y⟩⟩),trivial⟩⟩
 refine swp_seq E1k_ok mixed (by kernel_rfl) ?_
 conv=>whnf
 refine⟨_,ksc,?_⟩
 conv=>whnf
 refine⟨by show r+1≤16777216;omega,fun a b ha hb=>one_kc ha hb,?_⟩
 conv=>whnf
 refine⟨gst [(1,.c (nql n (V r))),(2,.c (.p 0 0 3 0 0)),(5,.c (.gs 1 0)),(6,.c (nql (r+1) (xpn r)))] [⟨24,3,1,boxF (rmat n n p)⟩,⟨130,3,r+1,kcF n kv kq kp⟩],Weak.gen [some 0,some 1] rfl ⟨Rf.boxK rfl rfl,⟨_,rfl,rfl,rfl,rfl,rfl,fun x y hx hy=>regE (app_kc hx hy) (kc_clos hy)⟩,trivial⟩ ⟨.inl ⟨_,_,rfl,rfl,fun _ _ _ _=>rfl⟩,⟨_,rfl,rfl,rfl⟩,⟨_,rfl,rfl,rfl⟩,.inl ⟨_,_,rfl,rfl,fun _ _ _ _=>rfl⟩,trivial⟩,?_⟩
 refine swp_of E1k_ok mixed (by kernel_rfl) ?_
 conv=>whnf
 refine⟨_,kap,?_⟩
 conv=>whnf
 exact⟨(),hlt,Weak.gen [some 0,some 1] rfl ⟨Rf.boxK rfl rfl,⟨_,rfl,rfl,rfl,rfl,rfl,fun x y hx hy=>regE rfl (kc_clos hy)⟩,trivial⟩ ⟨.inl ⟨_,_,rfl,rfl,fun _ _ _ _=>rfl⟩,⟨_,rfl,rfl,rfl⟩,⟨_,rfl,rfl,rfl⟩,.inl ⟨_,_,rfl,rfl,fun _ _ _ _=>rfl⟩,trivial⟩⟩
end Mx
end Go.Proofs.YtkmbnldginonbaaGreat
/- The document's places and traces of a matrix. -/
namespace Go.Proofs.YtkmbnldginonbaaGreat
open Go.RowKit
namespace Mx
open Rf
end Mx
end Go.Proofs.YtkmbnldginonbaaGreat
/- Powers of a small matrix and their traces: values and sizes. -/
namespace Go.Proofs.YtkmbnldginonbaaGreat
open Go.RowKit
namespace Mx
open Rf
theorem su_crg (f : Nat → Rat) : ∀ n, Q.su f n = Crg.sm f n
 | 0=>rfl
 | n+1=>congrArg (·+f n) (su_crg f n)
def xw (n : Nat) (A : Nat → Nat → Rat) : Nat → Nat → Nat → Rat
 | 0=>A
 | t+1=>fun r j=>sumR (xw n A t r) A n j
end Mx
end Go.Proofs.YtkmbnldginonbaaGreat
/- charpoly.annihilator hands back the annihilator: sizes, contract. -/
namespace Go.Proofs.YtkmbnldginonbaaGreat
open Go.RowKit
namespace Mx
open Rf
def fnz (n:Nat) (w:Nat->Rat):Nat:=pvf (fun i _=>w i) 0 n 0
theorem fnz_spec (n:Nat) (w:Nat->Rat):fnz n w≤n/\(∀ j,j<fnz n w->w j=0)/\(fnz n w<n->w (fnz n w)≠0):=by
 obtain⟨-,h2,h3,h4⟩:=pvf_spec (fun i _=>w i) 0 n 0
 rw[Nat.zero_add]at h2 h4
 exact⟨h2,fun j hj=>h3 j (Nat.zero_le j) hj,h4⟩
def mkn (n:Nat) (s:(Nat->Rat) × (Nat->Rat)):Kn Rat:=⟨fun j=>s.1 j*(1 / s.1 (fnz n s.1)),fnz n s.1,fun j=>s.2 j*(1 / s.1 (fnz n s.1))⟩
def aL (L : Nat) : Nat → Nat
 | 0=>L
 | i+1=>4*aL L i+2
theorem aL_mono (L:Nat) {i j:Nat} (h:i≤j):aL L i≤aL L j:=by
 induction j with
 | zero=>rw[Nat.le_zero.1 h];exact Nat.le_refl _
 | succ j ih =>
  rcases Nat.lt_or_ge i (j+1)with e | e
  ·have:=ih (by omega)
   show aL L i≤4*aL L j+2
   omega
  ·rw[show i=j+1 by omega];exact Nat.le_refl _
theorem aL_le {L i:Nat} (h1:1≤L) (hi:i≤6):aL L i≤8192*L:=by
 refine Nat.le_trans (aL_mono L hi) ?_
 show 4*(4*(4*(4*(4*(4*L+2)+2)+2)+2)+2)+2≤8192*L
 omega
theorem xpn_len (r j:Nat):qlen (xpn r j:Rat)≤1:=by
 unfold xpn
 split
 ·exact q_one
 ·exact q_zero
theorem rdw_len {n R L : Nat} {A : Nat → Nat → Rat} {v : Nat → Rat} {kn : Nat → Kn Rat} (h1 : 1 ≤ L) (hk : ∀ r, kn r = mkn n (rdw n A v kn r r)) (hlt : ∀ r, r < R → (kn r).p < n) (hV : ∀ r j, r ≤ R → j < n → qlen (av n A v r j) ≤ L) : ∀ i r, i ≤ r → r ≤ R → (∀ j, j < n → qlen ((rdw n A v kn r i).1 j) ≤ aL L i) ∧ (∀ j, qlen ((rdw n A v kn r i).2 j) ≤ aL L i) ∧ (i < r → (∀ j, j < n → qlen ((kn i).v j) ≤ 2 * aL L i + 1) ∧ ∀ j, qlen ((kn i).q j) ≤ 2 * aL L i + 1)
 | i,r,hi,hr=>by
  have hb:(∀ r,i≤r->r≤R->(∀ j,j<n->qlen ((rdw n A v kn r i).1 j)≤aL L i)/\(∀ j,qlen ((rdw n A v kn r i).2 j)≤aL L i)):=fun r hi hr=>by
   cases i with
   | zero=>exact⟨fun j hj=>hV r j hr hj,fun j=>Nat.le_trans (xpn_len r j) h1⟩
   | succ i =>
    obtain⟨a1,a2,a3⟩:=rdw_len h1 hk hlt hV i r (by omega) hr
    obtain⟨b1,b2⟩:=a3 (by omega)
    have hp:=hlt i (by omega)
    refine⟨fun j hj=>?_,fun j=>?_⟩
    ·exact Nat.le_trans (q_sub (a1 j hj) (q_mul (a1 _ hp) (b1 j hj) (by omega)) (by omega)) (by show _≤4*aL L i+2;omega)
    ·exact Nat.le_trans (q_sub (a2 j) (q_mul (b2 j) (a1 _ hp) (by omega)) (by omega)) (by show _≤4*aL L i+2;omega)
  refine⟨(hb r hi hr).1,(hb r hi hr).2,fun hir=>?_⟩
  obtain⟨a1,a2⟩:=hb i (Nat.le_refl i) (by omega)
  have hp:=hlt i (by omega)
  have e:(kn i).p=fnz n (rdw n A v kn i i).1:=by rw[hk i];rfl
  rw[e]at hp
  have hd:qlen (1 / (rdw n A v kn i i).1 (fnz n (rdw n A v kn i i).1))≤1+aL L i:=q_div q_one (a1 _ hp) (by omega)
  refine⟨fun j hj=>?_,fun j=>?_⟩
  ·rw[hk i]
   exact Nat.le_trans (q_mul (a1 j hj) hd (by omega)) (by omega)
  ·rw[hk i]
   exact Nat.le_trans (q_mul (a2 j) hd (by omega)) (by omega)
theorem least_ex {P : Nat → Prop} : ∀ n, (∃ r, r ≤ n ∧ P r) → ∃ R, R ≤ n ∧ P R ∧ ∀ r, r < R → ¬ P r
 | 0,⟨r,h1,h2⟩=>⟨0,Nat.le_refl 0,by rw[← Nat.le_zero.1 h1];exact h2,fun r hr=>absurd hr (Nat.not_lt_zero r)⟩
 | n+1,⟨r,h1,h2⟩=>by
  by_cases h:∃ r,r≤n/\P r
  ·obtain⟨R,a,b,c⟩:=least_ex n h
   exact⟨R,by omega,b,c⟩
  ·exact⟨r,h1,h2,fun s hs hp=>h ⟨s,by omega,hp⟩⟩
theorem rat_inv {x:Rat} (h:x≠0):x*(1 / x)=1:=by
 rw[Rat.div_def,Rat.one_mul,Rat.mul_inv_cancel x h]
theorem ann_ok {n:Nat} {p:Nat->RawR} {A:Nat->Nat->Rat} {v:Nat->Rat} {L:Nat} (hn:n≤6) (hp:∀ a,a<n*n->(p a).Fit KD) (hA:∀ i j,i<n->j<n->(p (i*n+j)).val=A i j) (lA:∀ i j,i<n->j<n->qlen (A i j)≤KD) (hV:∀ r j,r≤n->j<n->qlen (av n A v r j)≤L) (h1:1≤L) (hL:L≤1048576) (hS:∀ r i j,r<n->i≤n->j<n->qlen (sumR (av n A v r) A i j)≤KD):∃ g:Pol Rat,Ann n A v g/\g.len≤n+1/\(∀ i,qlen (g.f i)≤8192*L)/\FnOK Tryz.prog true 67 [.g (rmat n n p),.c (nql n v)] (.c (nql g.len g.f)):=by
 have hLIM:LIM=1099511627776:=rfl
 obtain⟨kn,hk⟩:=ex_kn n A v (mkn n)
 have ep:∀ r,(kn r).p=fnz n (rdw n A v kn r r).1:=fun r=>by rw[hk r];rfl
 have mkK:∀ R,(∀ r,r<R->¬ fnz n (rdw n A v kn r r).1=n)->Kns n A v R kn fun r=>1 / (rdw n A v kn r r).1 (fnz n (rdw n A v kn r r).1):=fun R h=>by
  have hlt:∀ r,r<R->fnz n (rdw n A v kn r r).1<n:=fun r hr=>Nat.lt_of_le_of_ne (fnz_spec n _).1 (h r hr)
  exact⟨fun r hr=>by rw[ep];exact hlt r hr,fun r hr=>by rw[ep];exact rat_inv ((fnz_spec n _).2.2 (hlt r hr)),fun r _ j=>by rw[hk r];rfl,fun r _ j=>by rw[hk r];rfl⟩
 obtain⟨R,hR,hz,hne⟩:∃ R,R≤n/\fnz n (rdw n A v kn R R).1=n/\∀ r,r<R->¬ fnz n (rdw n A v kn r r).1=n:=by
  refine least_ex n (Classical.byContradiction fun hx=>?_)
  have:=(mkK (n+1) fun r hr e=>hx ⟨r,by omega,e⟩).len
  omega
 have K:=mkK R hne
 have hlt:=K.lt
 have hl:=fun i r (hi:i≤r) (hr:r≤R)=>rdw_len (R:=R) h1 hk hlt (fun r j hr hj=>hV r j (by omega) hj) i r hi hr
 have hl1:∀ i r j,i≤r->r≤R->j<n->qlen ((rdw n A v kn r i).1 j)≤8192*L:=fun i r j hi hr hj=>Nat.le_trans ((hl i r hi hr).1 j hj) (aL_le h1 (by omega))
 have hl2:∀ i r j,i≤r->r≤R->qlen ((rdw n A v kn r i).2 j)≤8192*L:=fun i r j hi hr=>Nat.le_trans ((hl i r hi hr).2.1 j) (aL_le h1 (by omega))
 have hl3:∀ i j,i<R->j<n->qlen ((kn i).v j)≤16385*L:=fun i j hi hj=>by
  have a:=((hl i R (by omega) (Nat.le_refl R)).2.2 hi).1 j hj
  have b:=aL_le (L:=L) (i:=i) h1 (by omega)
  omega
 have hl4:∀ i j,i<R->qlen ((kn i).q j)≤16385*L:=fun i j hi=>by
  have a:=((hl i R (by omega) (Nat.le_refl R)).2.2 hi).2 j
  have b:=aL_le (L:=L) (i:=i) h1 (by omega)
  omega
 have hw:∀ r,r<R->(rdw n A v kn r r).1 ((kn r).p)≠0:=fun r hr=>by rw[ep];exact(fnz_spec n _).2.2 (by rw[← ep];exact hlt r hr)
 have hb:∀ r,r<R->qlen (1 / (rdw n A v kn r r).1 ((kn r).p))≤1+8192*L:=fun r hr=>q_div q_one (hl1 r r _ (Nat.le_refl r) (by omega) (hlt r hr)) (by omega)
 have kvE:∀ r,(kn r).v=fun j=>(rdw n A v kn r r).1 j*(1 / (rdw n A v kn r r).1 ((kn r).p)):=fun r=>by rw[ep];exact congrArg Kn.v (hk r)
 have kqE:∀ r,(kn r).q=fun j=>(rdw n A v kn r r).2 j*(1 / (rdw n A v kn r r).1 ((kn r).p)):=fun r=>by rw[ep];exact congrArg Kn.q (hk r)
 have kred:∀ r,r≤R->FnM Tryz.prog true 113 (gb (kcB n r (fun i=>(kn i).v) (fun i=>(kn i).q) fun i=>(kn i).p)) [.c (.gs 0 0),.c (nql n (av n A v r)),.c (nql (r+1) (xpn r))] (.t2 (.c (nql n (rdw n A v kn r r).1)) (.c (nql (r+1) (rdw n A v kn r r).2))) (gb (kcB n r (fun i=>(kn i).v) (fun i=>(kn i).q) fun i=>(kn i).p)) []:=fun r hr=>by
  refine red_ok (W:=fun i=>(rdw n A v kn r i).1) (G:=fun i=>(rdw n A v kn r i).2) (L:=16385*L) (by omega) (by omega) ⟨fun i hi=>hlt i (by omega),fun i j hi hj=>Nat.le_trans (hl1 i r j hi hr hj) (by omega),fun i j hi _=>Nat.le_trans (hl2 i r j hi hr) (by omega),fun i j hi hj=>hl3 i j (by omega) hj,fun i j hi _=>hl4 i j (by omega),fun _ _ _ _=>rfl,fun _ _ _ _=>rfl,fun i j hi hj=>(K.all i (by omega)).deg j hj,fun i hi=>(K.inv hr hi).2.2.2⟩ (by omega) (by omega)
 have W:Anw n R p (av n A v) (fun r=>(rdw n A v kn r r).1) (fun r=>(rdw n A v kn r r).2) (fun i=>(kn i).v) (fun i=>(kn i).q) (fun i=>(kn i).p) fun r=>1 / (rdw n A v kn r r).1 ((kn r).p):=by
  refine⟨by omega,by omega,kred,fun r j hr hj=>nz_ok (hl1 r r j (Nat.le_refl r) hr hj) (by omega),hlt,hw,fun r j hr hj=>(fnz_spec n _).2.1 j (by rw[← ep];exact hj),fun j hj=>(fnz_spec n _).2.1 j (by rw[hz];exact hj),fun r hr=>qquo_n q_one (hl1 r r _ (Nat.le_refl r) (by omega) (hlt r hr)) (by omega) (hw r hr) rfl,fun r j hr hj=>?_,fun r hr=>?_,fun r hr=>?_,fun r hr=>?_,?_⟩
  ·exact qmul_n (hl1 r r j (Nat.le_refl r) (by omega) hj) (hb r hr) (by omega) (by rw[kvE])
  ·have h:=scale_step (m:=r+1) (F:=(rdw n A v kn r r).2) (w:=1 / (rdw n A v kn r r).1 ((kn r).p)) (by omega) (fun j _=>hl2 r r j (Nat.le_refl r) (by omega)) (hb r hr) (by omega)
   show FnOK _ _ _ _ (.c (nql (r+1) (kn r).q))
   rw[kqE]
   rwa [Q.tq_self (n:=r+1) (fun k hk'=>by
    rw[show k=r by omega]
    have e:=(K.all r hr).top
    rwa [kqE]at e)]at h
  ·exact apply_n (by omega) (fun i hi=>Nat.le_trans (hV r i (by omega) hi) (Nat.le_trans hL (by decide))) hp hA lA (fun i j hi hj=>hS r i j (by omega) hi hj) fun j hj=>su_crg (fun a=>av n A v r a*A a j) n
  ·have h:=shift_step (n:=r) (v:=(xpn r:Nat->Rat)) (L:=1) (by omega) (fun i _=>xpn_len r i) (Nat.le_refl 1) (by omega) (by
    show(if r=r then(1:Rat)else 0)≠0
    rw[if_pos rfl]
    exact rat_one_ne)
   have e:xs (xpn r:Nat->Rat)=xpn (r+1):=funext fun j=>by
    show(if 1≤j then(if j-1=r then(1:Rat)else 0)else 0)=if j=r+1 then 1 else 0
    by_cases c:j=r+1
    ·rw[if_pos (by omega),if_pos (by omega),if_pos c]
    ·rw[if_neg c]
     split
     ·rw[if_neg (by omega)]
     ·rfl
   rwa [e]at h
  ·exact monic_n (by omega) (fun i _=>hl2 R R i (Nat.le_refl R) (Nat.le_refl R)) (by omega) (K.inv (Nat.le_refl R) (Nat.le_refl R)).2.2.2
 obtain⟨g,gl,gf,ga⟩:=K.ann fun j hj=>(fnz_spec n _).2.1 j (by rw[hz];exact hj)
 have e:g.f=(rdw n A v kn R R).2:=funext gf
 refine⟨g,ga,by omega,fun i=>by rw[gf];exact hl2 R R i (Nat.le_refl R) (Nat.le_refl R),?_⟩
 rw[gl,e]
 exact ann_walk W
end Mx
end Go.Proofs.YtkmbnldginonbaaGreat
/- matrix.Row; charpoly.MinPoly: its rounds. -/
set_option maxHeartbeats 16000000
namespace Go.Proofs.YtkmbnldginonbaaGreat
open Go.RowKit
namespace Mx
open Rf
theorem row_n {n i:Nat} {G:Nat->Nat->Rat} (hn:n≤64) (hi:i<n) (hq:∀ j,j<n->qlen (G i j)≤KD):FnOK Tryz.prog true 65 [.g (matL n n G),.c (.int .i64 (i:Nat))] (.t2 (.c (nql n (G i))) (.c (.int .i64 0))):=by
 have b1:i*n≤64*64:=Nat.mul_le_mul (by omega) hn
 have b2:(i+1)*n≤65*64:=Nat.mul_le_mul (by omega) hn
 have m3:(i+1)*n=i*n+n:=Nat.succ_mul i n
 have m4:i*n+n≤n*n:=by rw[← m3];exact Nat.mul_le_mul_right n hi
 have m1:((i*n:Nat):Int)=(i:Int)*(n:Int):=Int.natCast_mul i n
 have m2:(((i+1)*n:Nat):Int)=((i:Int)+1)*(n:Int):=by rw[Int.natCast_mul];rfl
 have l1:=loadR_ok (n:=1) (m:=n) (q:=fun k=>ofR (G i k)) (G:=fun _ j=>G i j) (by omega) hn (fun k hk=>ofR_fit (hq k (by omega))) fun a j ha hj=>by
  rw[ofR_val,show a*n+j=j by rw[show a=0 by omega];omega]
 have l2:FnOK Tryz.prog true 111 [.g [.int .i64 1,.int .i64 n,.row 4 (((i:Int)+1)*n-(i:Int)*n).toNat fun a b=>qlF (fun k=>ofR (G (k / n) (k%n))) (((i:Int)*n).toNat+a) b]] (.c (rowsC 1 n fun _ j=>G i j)):=by
  refine arg_ok l1 fun D' w vs h=>?_
  match vs,h with
  | [v],⟨⟨us,e,h1⟩,_⟩ =>
   refine⟨⟨us,e,?_⟩,trivial⟩
   match us.toList,h1 with
   | [a,b,c],⟨g1,g2,g3,_⟩ =>
    refine⟨g1,g2,subRowG (by rw[← m1,← m2,m3];omega) (fun x y hx _=>?_) D' w c g3,trivial⟩
    rw[Nat.one_mul]at hx
    rw[← m1,Int.toNat_natCast]
    show qlF (fun k=>ofR (G (k / n) (k%n))) (i*n+x) y=qlF (fun k=>ofR (G i k)) x y
    have q1:(i*n+x) / n=i:=by rw[Nat.mul_comm,Nat.mul_add_div (by omega),Nat.div_eq_of_lt hx,Nat.add_zero]
    have q2:(i*n+x)%n=x:=by rw[Nat.mul_comm,Nat.mul_add_mod,Nat.mod_eq_of_lt hx]
    exact congrArg (fun z=>(rr z).getD y .any) (show ofR (G ((i*n+x) / n) ((i*n+x)%n))=ofR (G i x)by rw[q1,q2])
 have v1:=valid_yes (n:=n) (m:=n) (q:=fun k=>ofR (G (k / n) (k%n))) (by omega) (by omega)
 refine fn_ok (E:=E1) E1_ok Tryz.func65 rfl mixed (by kernel_rfl) (by kernel_rfl) ?_
 conv=>whnf
 refine⟨_,v1,?_⟩
 conv=>whnf
 refine bneg (show decide ((n:Int)≤(i:Int))=false from decide_eq_false (by omega)) ?_
 conv=>whnf
 refine⟨i64_range (by rw[← m1];omega) (by rw[← m1];omega),?_⟩
 conv=>whnf
 refine⟨i64_range (by omega) (by omega),?_⟩
 conv=>whnf
 refine⟨i64_range (by rw[← m2];omega) (by rw[← m2];omega),?_⟩
 conv=>whnf
 refine⟨by rw[← m1];omega,by rw[← m1,← m2,m3];omega,?_⟩
 conv=>whnf
 refine⟨by rw[← m2,m3];omega,?_⟩
 conv=>whnf
 refine .inr ⟨_,l2,?_⟩
 conv=>whnf
 refine⟨by decide,?_⟩
 conv=>whnf
 refine⟨by decide,?_⟩
 conv=>whnf
 exact⟨rfl,Sub.refl _⟩
structure Mpw (n : Nat) (p : Nat → RawR) (f g : Nat → Pol Rat) (E : Nat → Nat → Nat → Rat) : Prop where
 hn:n≤64
 start:f 0=1
 kat:∀ i,i<n->FnOK Tryz.prog true 27 [.c (nql (f i).len (f i).f),.g (rmat n n p)] (.t2 (.g (matL n n (E i))) (.c (.int .i64 0)))
 krow:∀ i,i<n->FnOK Tryz.prog true 65 [.g (matL n n (E i)),.c (.int .i64 (i:Nat))] (.t2 (.c (nql n (E i i))) (.c (.int .i64 0)))
 kann:∀ i,i<n->FnOK Tryz.prog true 67 [.g (rmat n n p),.c (nql n (E i i))] (.c (nql (g i).len (g i).f))
 kmul:∀ i,i<n->FnOK Tryz.prog true 66 [.c (nql (f i).len (f i).f),.c (nql (g i).len (g i).f)] (.c (nql (f (i+1)).len (f (i+1)).f))
theorem sub_nql {a b:Nat} {f g:Nat->Rat} (h:a=b) (e:∀ i,i<b->f i=g i):Sub (.c (nql a f)) (.c (nql b g)):=subRowG h fun i j hi _=>congrArg (fun z=>(rr (ofR z)).getD j .any) (e i hi)
set_option maxRecDepth 100000 in
theorem min_walk {n:Nat} {p:Nat->RawR} {f g:Nat->Pol Rat} {E:Nat->Nat->Nat->Rat} (h:Mpw n p f g E):FnOK Tryz.prog true 20 [.g (rmat n n p)] (.t2 (.c (nql (f n).len (f n).f)) (.c (.int .i64 0))):=by
 obtain⟨hn,hs,kat,krow,kann,kmul⟩:=h
 have k0:FnOK Tryz.prog true 38 [.g (rmat n n p)] (.c (.int .i64 0)):=by
  have h:=check_ok (r:=n) (c:=n) (len:=n*n) (f:=qlF p)
  rwa [show firstErr (n:Int) n ((n*n:Nat):Int)=0 by
   unfold firstErr
   rw[if_pos ⟨⟨⟨by omega,by omega⟩,⟨by omega,by omega⟩,by rw[Int.natCast_mul]⟩,rfl⟩,if_neg (by omega)]]at h
 have k1:FnOK Tryz.prog true 41 [] (.c (nql (f 0).len (f 0).f)):=one_ok.res (sub_nql (by rw[hs,Pol.len_one]) fun i hi=>by
  rw[hs,Pol.len_one]at hi
  rw[hs,show i=0 by omega]
  rfl)
 clear hs
 obtain⟨N,hN⟩:∃ N:Nat->Nat,∀ i,(f i).len=N i:=⟨_,fun _=>rfl⟩
 obtain⟨F,hF⟩:∃ F:Nat->Nat->Rat,∀ i,(f i).f=F i:=⟨_,fun _=>rfl⟩
 simp only[hN,hF]at kat kmul k1 ⊢
 clear hN hF
 refine fn_okS (E:=E1) E1_ok Tryz.func20 rfl (by kernel_rfl) ?_
 refine swp_seq E1_ok mixed (by kernel_rfl) ?_
 conv=>whnf
 refine⟨gst [(1,.c (.p 0 0 3 0 0))] [⟨24,3,1,boxF (rmat n n p)⟩],Weak.gen [some 0] rfl ⟨Rf.boxK rfl rfl,trivial⟩ ⟨⟨_,rfl,rfl,rfl⟩,trivial⟩,?_⟩
 refine swp_seq E1_ok mixed (by kernel_rfl) ?_
 conv=>whnf
 refine⟨_,k0,?_⟩
 conv=>whnf
 refine⟨gst [(1,.c (.p 0 0 3 0 0))] [⟨24,3,1,boxF (rmat n n p)⟩],Weak.gen [some 0] rfl ⟨Rf.boxK rfl rfl,trivial⟩ ⟨⟨_,rfl,rfl,rfl⟩,trivial⟩,?_⟩
 refine swp_seq E1_ok mixed (by kernel_rfl) ?_
 conv=>whnf
 refine⟨_,k1,?_⟩
 conv=>whnf
 refine⟨gst [(1,.c (.p 0 0 3 0 0)),(5,.c (nql (N 0) (F 0)))] [⟨24,3,1,boxF (rmat n n p)⟩],Weak.gen [some 0] rfl ⟨Rf.boxK rfl rfl,trivial⟩ ⟨⟨_,rfl,rfl,rfl⟩,.inl ⟨_,_,rfl,rfl,fun _ _ _ _=>rfl⟩,trivial⟩,?_⟩
 refine swp_mid (fun _:Unit=>gst [(5,.c (nql (N n) (F n)))] []) (fun _=>True) ?_ fun _ _=>?_
 rotate_left
 ·refine swp_of E1_ok mixed (by kernel_rfl) ?_
  conv=>whnf
  exact⟨rfl,Sub.refl _⟩
 refine swp_seq E1_ok mixed (by kernel_rfl) ?_
 conv=>whnf
 refine⟨(fun i:Nat=>gst [(1,.c (.p 0 0 3 0 0)),(5,.c (nql (N i) (F i))),(18,.c (.int .i64 ((n:Nat):Int))),(19,.c (.int .i64 ((i:Nat):Int)))] [⟨24,3,1,boxF (rmat n n p)⟩]) 0,Weak.gen [some 0] rfl ⟨Rf.boxK rfl rfl,trivial⟩ ⟨⟨_,rfl,rfl,rfl⟩,.inl ⟨_,_,rfl,rfl,fun _ _ _ _=>rfl⟩,⟨_,rfl,rfl⟩,⟨_,rfl,rfl⟩,trivial⟩,?_⟩
 refine swp_block (swp_loop (fun i:Nat=>gst [(1,.c (.p 0 0 3 0 0)),(5,.c (nql (N i) (F i))),(18,.c (.int .i64 ((n:Nat):Int))),(19,.c (.int .i64 ((i:Nat):Int)))] [⟨24,3,1,boxF (rmat n n p)⟩]) (fun i=>n-i) (fun i=>i≤n) 0 (Weak.refl _) (Nat.zero_le n) fun i hi=>?_)
 have hi:i≤n:=hi
 rcases Nat.lt_or_ge i n with hlt | hge
 rotate_left
 ·obtain rfl:i=n:=by omega
  refine swp_seq0 E1_ok mixed (by kernel_rfl) ?_
  conv=>whnf
  refine swp_of E1_ok mixed (by kernel_rfl) ?_
  conv=>whnf
  refine bneg (show decide ((i:Int)<(i:Int))=false from decide_eq_false (by omega)) ?_
  conv=>whnf
  exact⟨(),trivial,Weak.gen [] rfl trivial ⟨.inl ⟨_,_,rfl,rfl,fun _ _ _ _=>rfl⟩,trivial⟩⟩
 have kat:=kat i hlt
 have krow:=krow i hlt
 have kann:=kann i hlt
 have kmul:=kmul i hlt
 refine swp_seq0 E1_ok mixed (by kernel_rfl) ?_
 conv=>whnf
 refine swp_seq E1_ok mixed (by kernel_rfl) ?_
 conv=>whnf
 refine bpos (show decide ((i:Int)<(n:Int))=true from decide_eq_true (by omega)) ?_
 conv=>whnf
 refine⟨gst [(1,.c (.p 0 0 3 0 0)),(5,.c (nql (N i) (F i))),(18,.c (.int .i64 ((n:Nat):Int))),(19,.c (.int .i64 ((i:Nat):Int)))] [⟨24,3,1,boxF (rmat n n p)⟩],Weak.gen [some 0] rfl ⟨Rf.boxK rfl rfl,trivial⟩ ⟨⟨_,rfl,rfl,rfl⟩,.inl ⟨_,_,rfl,rfl,fun _ _ _ _=>rfl⟩,⟨_,rfl,rfl⟩,⟨_,rfl,rfl⟩,trivial⟩,?_⟩
 refine swp_mid (fun _:Unit=>gst [(1,.c (.p 0 0 3 0 0)),(5,.c (nql (N (i+1)) (F (i+1)))),(18,.c (.int .i64 ((n:Nat):Int))),(19,.c (.int .i64 ((i:Nat):Int)))] [⟨24,3,1,boxF (rmat n n p)⟩]) (fun _=>True) ?_ fun _ _=>?_
 rotate_left
 ·refine swp_of E1_ok mixed (by kernel_rfl) ?_
  conv=>whnf
  refine⟨i64_range (by omega) (by omega),?_⟩
  conv=>whnf
  exact⟨i+1,by omega,Weak.gen [some 0] rfl ⟨Rf.boxK rfl rfl,trivial⟩ ⟨⟨_,rfl,rfl,rfl⟩,.inl ⟨_,_,rfl,rfl,fun _ _ _ _=>rfl⟩,⟨_,rfl,rfl⟩,⟨_,rfl,rfl⟩,trivial⟩,hlt⟩
 refine swp_block ?_
 refine swp_of E1_ok mixed (by kernel_rfl) ?_
 conv=>whnf
 refine⟨_,kat,?_⟩
 conv=>whnf
 refine⟨_,krow,?_⟩
 conv=>whnf
 refine⟨_,kann,?_⟩
 conv=>whnf
 refine⟨_,kmul,?_⟩
 conv=>whnf
 exact⟨(),trivial,Weak.gen [some 0] rfl ⟨Rf.boxK rfl rfl,trivial⟩ ⟨⟨_,rfl,rfl,rfl⟩,.inl ⟨_,_,rfl,rfl,fun _ _ _ _=>rfl⟩,⟨_,rfl,rfl⟩,⟨_,rfl,rfl⟩,trivial⟩⟩
end Mx
end Go.Proofs.YtkmbnldginonbaaGreat
/- Sizes of the coefficients of a relation between vectors, by elimination without quotients. Plain: no program. -/
namespace Go.Proofs.YtkmbnldginonbaaGreat
open Crg Pol
namespace Mx
def es : Nat → Nat → Nat
 | 0,M=>M
 | k+1,M=>es k (2*(M*M))
end Mx
end Go.Proofs.YtkmbnldginonbaaGreat
/- The polynomial of a Hessenberg matrix divides a power of every polynomial that takes the matrix to 0; the same for characteristic polynomials. Plain: no program. -/
namespace Go.Proofs.YtkmbnldginonbaaGreat
open Crg Pol
namespace Mx
section
variable {K:Type} [Fld K]
section
variable {s l:Nat} {H:Nat->Nat->K}
end
end
end Mx
end Go.Proofs.YtkmbnldginonbaaGreat
/- The minimal polynomial: how long its coefficients are; the contracts of charpoly.At and charpoly.MinPoly at at most five rows. -/
namespace Go.Proofs.YtkmbnldginonbaaGreat
open Go.RowKit Crg
namespace Mx
open Rf
/-! Exponents by name. -/
variable {n:Nat} {A:Nat->Nat->Rat} {D E:Nat}
theorem sm_len {f : Nat → Rat} {L : Nat} : ∀ n, (∀ i, i < n → qlen (f i) ≤ L) → qlen (Crg.sm f n) ≤ n * (L + 1) + 1
 | 0,_=>by
  show qlen 0≤_
  exact Nat.le_trans q_zero (by omega)
 | n+1,h=>by
  have h1:=sm_len n fun i hi=>h i (by omega)
  have h2:=h n (by omega)
  refine Nat.le_trans (q_add h1 h2 (by omega)) ?_
  rw[Nat.succ_mul]
  omega
theorem hrn_evm {T : Nat} {F : Nat → Rat} : ∀ t i j, t ≤ T → i < n → j < n → hrn n T F A t i j = Crg.sm (fun k => F (T - t + k) * mpw n A k i j) t
 | 0,_,_,_,_,_=>by rw[(hrn_hor n T F A).zero];rfl
 | t+1,i,j,ht,hi,hj=>by
  rw[(hrn_hor n T F A).step t i j (by omega),Crg.sm_head]
  have e1:F (T-(t+1)+0)*mpw n A 0 i j=F (T-1-t)*mone i j:=by
   rw[show T-(t+1)+0=T-1-t by omega]
   rfl
  have e2:sumR (hrn n T F A t i) A n j=Crg.sm (fun k=>F (T-(t+1)+(k+1))*mpw n A (k+1) i j) t:=by
   show Q.su (fun a=>hrn n T F A t i a*A a j) n=_
   rw[su_crg,Crg.sm_congr (g:=fun a=>Crg.sm (fun k=>F (T-t+k)*mpw n A k i a*A a j) t) fun a ha=>by rw[hrn_evm t i a (by omega) hi ha,Crg.sm_mul],Crg.sm_swap]
   refine Crg.sm_congr fun k _=>?_
   have e3:=mpw_add A k 1 i j hi hj
   rw[← e3,show mm n (mpw n A k) (mpw n A 1) i j=mm n (mpw n A k) A i j from Crg.sm_congr fun a ha=>by rw[show mpw n A 1 a j=A a j from mm_I hj a],show T-(t+1)+(k+1)=T-t+k by omega]
   unfold mm
   rw[Crg.mul_sm]
   exact Crg.sm_congr fun a _=>Rat.mul_assoc _ _ _
  rw[e1,e2]
  exact Rat.add_comm _ _
theorem mul_pol {f g:Pol Rat} {L L':Nat} (hf0:0<f.len) (hg0:0<g.len) (hl:f.len≤7) (hl':g.len≤7) (hf:∀ t,qlen (f.f t)≤L) (hg:∀ t,qlen (g.f t)≤L') (h1:1≤L) (hL:16*L+16*L'+64≤LIM):FnOK Tryz.prog true 66 [.c (nql f.len f.f),.c (nql g.len g.f)] (.c (nql (f*g).len (f*g).f)):=by
 have e1:Q.cf f.f g.f=(f*g).f:=funext fun k=>by
  show Q.su (fun i=>f.f i*g.f (k-i)) (k+1)=_
  rw[su_crg]
  rfl
 have e2:=Pol.len_mul (Pol.ne_of_len hf0) (Pol.ne_of_len hg0)
 have fin:∀ {a:Pol Rat},Q.Fin a.len a.f:=fun {a} t ht=>Pol.len_out a t ht
 have k:=qpMul_ok (n:=f.len) (m:=g.len) (q:=fun i=>ofR (f.f i)) (p:=fun i=>ofR (g.f i)) (L:=L+L') (K:=7*(L+L'+1)+1) (F:=f.f) (G:=g.f) (by rw[show(fun i=>(ofR (f.f i)).val)=f.f from funext fun i=>ofR_val _];exact Q.qx_self fin) (by rw[show(fun i=>(ofR (g.f i)).val)=g.f from funext fun i=>ofR_val _];exact Q.qx_self fin) (by omega) (by omega) (fun i _=>ofR_fit (Nat.le_trans (hf i) (by omega))) (fun i _=>ofR_fit (Nat.le_trans (hg i) (by omega))) (by omega) (fun i k hi=>by
  show qlen (Q.su (fun a=>if a≤k then f.f a*g.f (k-a)else 0) i)≤_
  rw[su_crg]
  refine Nat.le_trans (sm_len (L:=L+L') i fun a _=>?_) (by have:=Nat.mul_le_mul_right (L+L'+1) (show i≤7 by omega);omega)
  split
  ·exact q_mul (hf a) (hg _) (by omega)
  ·exact Nat.le_trans q_zero (by omega)) (by omega)
 rw[e1,show f.len+g.len-1=(f*g).len by omega,Q.tq_self fun k hk=>Pol.len_top (f*g) hk]at k
 exact k
end Mx
end Go.Proofs.YtkmbnldginonbaaGreat
/- CharPoly and MinPoly at companion matrices of degree at most six. -/
namespace Go.Proofs.YtkmbnldginonbaaGreat
open Go.RowKit
namespace Mx
open Rf Crg Pol
theorem cpn_bq {n:Nat} {w:Nat->Rat} (hw:∀ i,qlen (w i)≤2):Bq n 2 (cpn n w):=fun i j _ _=>by
 unfold cpn
 split
 ·exact hw j
 ·split
  ·decide
  ·decide
theorem cpn_hsn {n:Nat} {w:Nat->Rat} (h1:1≤n) (hw:∀ i,qlen (w i)≤2):Bq n 2 (hsn n (cpn n w)):=fun i j hi hj=>by
 show qlen (hs n (cpn n w) (n-1) i j)≤2
 rcases Nat.lt_or_ge 1 n with h | h
 ·exact cpn_hs (Q:=fun x=>qlen x≤2) (by decide) (by decide) (fun i _=>hw i) (by omega) (by omega) hi hj
 ·rw[show n-1=0 by omega]
  exact cpn_bq hw i j hi hj
variable {n:Nat} {c w:Nat->Rat}
theorem cpn_chp (hw:∀ j,w j = -c j) (h1:c n=1) (h0:∀ m,n<m->c m=0):(hp (wd (hsn n (cpn n w))) n).f=c:=funext fun i=>Newt.eq (fun m hm=>by
 rw[nc_rat]
 have:m≠0:=by omega
 exact_mod_cast this) (newt_hsn n (cpn n w)) (newt_cpn hw h1 h0) i
set_option maxHeartbeats 1000000 in
theorem cpn_charpoly (hn1:1≤n) (hn:n≤6) (hw:∀ j,w j = -c j) (lw:∀ i,qlen (w i)≤2) (h1:c n=1) (h0:∀ m,n<m->c m=0):FnOK Tryz.prog true 10 [.g (matL n n (cpn n w))] (.t2 (.c (nql (n+1) c)) (.c (.int .i64 0))):=by
 have hc:=cpn_chp hw h1 h0
 have hfit:∀ k,k<n*n->(ofR (cpn n w (k / n) (k%n))).Fit 2:=fit_mat fun i j hi hj=>cpn_bq lw i j hi hj
 have hA:∀ i j,i<n->j<n->(ofR (cpn n w ((i*n+j) / n) ((i*n+j)%n))).val=cpn n w i j:=fun i j hi hj=>val_mat (n:=n) i j hi hj
 have hB:Bq n 2 (cpn n w):=cpn_bq lw
 have hC:=ch_of (n:=n) (K:=2) hn (by decide) (cpn_hsn hn1 lw)
 have h8:=pb8 2 n
 have hL:4*PB 2 n+64≤LIM:=by
  rcases(show n=1∨n=2∨n=3∨n=4∨n=5∨n=6 by omega)with rfl | rfl | rfl | rfl | rfl | rfl <;> decide
 have hg6:n=6->FnT Tryz.prog true 40 1 ((R6 (cpn 6 w)).map gb) [.c (.gs 0 0)] (.c .any) ((R6 (hsn 6 (cpn 6 w))).map gb):=fun _=>hess6 (cpn 6 w) (K:=2) (fun m hm hm2 i j hi hj=>cpn_hs (Q:=fun x=>qlen x≤2) (by decide) (by decide) (fun i _=>lw i) hm (by omega) hi hj) (fun m t hm _ hp ht i j hi hj=>cpn_el (Q:=fun x=>qlen x≤2) (by decide) (by decide) (fun i _=>lw i) hm hp ht hi hj) (by decide) (by decide)
 rw[← hc]
 clear hc h1 h0 hw
 rcases(show n=1∨n=2∨n=3∨n=4∨n=5∨n=6 by omega)with rfl | rfl | rfl | rfl | rfl | rfl
 ·exact charpoly_w (p:=fun k=>ofR (cpn 1 w (k / 1) (k%1))) (A:=cpn 1 w) (H:=hsn 1 (cpn 1 w)) (W:=wd (hsn 1 (cpn 1 w))) (D:=dd (hsn 1 (cpn 1 w))) (P:=fun k=>(hp (wd (hsn 1 (cpn 1 w))) k).f) (N:=nx (wd (hsn 1 (cpn 1 w)))) (K:=2) (Bd:=PB 2 1) (by decide) (rr_of (by rfl) (grid_1 hfit (by decide) hA)) (rr_ex (by rfl) (by rfl) (hess_1 (cpn 1 w) hB (by decide) (by decide +kernel))) (by decide) h8 hL hC
 ·exact charpoly_w (p:=fun k=>ofR (cpn 2 w (k / 2) (k%2))) (A:=cpn 2 w) (H:=hsn 2 (cpn 2 w)) (W:=wd (hsn 2 (cpn 2 w))) (D:=dd (hsn 2 (cpn 2 w))) (P:=fun k=>(hp (wd (hsn 2 (cpn 2 w))) k).f) (N:=nx (wd (hsn 2 (cpn 2 w)))) (K:=2) (Bd:=PB 2 2) (by decide) (rr_of (by rfl) (grid_2 hfit (by decide) hA)) (rr_ex (by rfl) (by rfl) (hess_2 (cpn 2 w) hB (by decide) (by decide +kernel))) (by decide) h8 hL hC
 ·exact charpoly_w (p:=fun k=>ofR (cpn 3 w (k / 3) (k%3))) (A:=cpn 3 w) (H:=hsn 3 (cpn 3 w)) (W:=wd (hsn 3 (cpn 3 w))) (D:=dd (hsn 3 (cpn 3 w))) (P:=fun k=>(hp (wd (hsn 3 (cpn 3 w))) k).f) (N:=nx (wd (hsn 3 (cpn 3 w)))) (K:=2) (Bd:=PB 2 3) (by decide) (rr_of (by rfl) (grid_3 hfit (by decide) hA)) (rr_ex (by rfl) (by rfl) (hess_3 (cpn 3 w) hB (by decide) (by decide +kernel))) (by decide) h8 hL hC
 ·exact charpoly_w (p:=fun k=>ofR (cpn 4 w (k / 4) (k%4))) (A:=cpn 4 w) (H:=hsn 4 (cpn 4 w)) (W:=wd (hsn 4 (cpn 4 w))) (D:=dd (hsn 4 (cpn 4 w))) (P:=fun k=>(hp (wd (hsn 4 (cpn 4 w))) k).f) (N:=nx (wd (hsn 4 (cpn 4 w)))) (K:=2) (Bd:=PB 2 4) (by decide) (rr_of (by rfl) (grid_4 hfit (by decide) hA)) (rr_ex (by rfl) (by rfl) (hess_4 (cpn 4 w) hB (by decide) (by decide +kernel))) (by decide) h8 hL hC
 ·exact charpoly_w (p:=fun k=>ofR (cpn 5 w (k / 5) (k%5))) (A:=cpn 5 w) (H:=hsn 5 (cpn 5 w)) (W:=wd (hsn 5 (cpn 5 w))) (D:=dd (hsn 5 (cpn 5 w))) (P:=fun k=>(hp (wd (hsn 5 (cpn 5 w))) k).f) (N:=nx (wd (hsn 5 (cpn 5 w)))) (K:=2) (Bd:=PB 2 5) (by decide) (rr_of (by rfl) (grid_5 hfit (by decide) hA)) (rr_ex (by rfl) (by rfl) (hess_5 (cpn 5 w) hB (by decide) (by decide +kernel))) (by decide) h8 hL hC
 ·exact charpoly_w (p:=fun k=>ofR (cpn 6 w (k / 6) (k%6))) (A:=cpn 6 w) (H:=hsn 6 (cpn 6 w)) (W:=wd (hsn 6 (cpn 6 w))) (D:=dd (hsn 6 (cpn 6 w))) (P:=fun k=>(hp (wd (hsn 6 (cpn 6 w))) k).f) (N:=nx (wd (hsn 6 (cpn 6 w)))) (K:=2) (Bd:=PB 2 6) (by decide) (rr_of (by rfl) (grid_6 hfit (by decide) hA)) (rr_ex (by rfl) (by rfl) (hg6 rfl)) (by decide) h8 hL hC
end Mx
end Go.Proofs.YtkmbnldginonbaaGreat
/- MinPoly at companion matrices of degree at most six. -/
namespace Go.Proofs.YtkmbnldginonbaaGreat
open Go.RowKit
namespace Mx
open Rf Crg Pol
variable {n:Nat} {c w:Nat->Rat} {A:Nat->Nat->Rat}
def pL : Nat → Nat
 | 0=>1
 | t+1=>6*(2+pL t+1)+1
theorem pL_up:∀ t,pL t≤pL (t+1):=fun t=>by
 show pL t≤6*(2+pL t+1)+1
 omega
theorem pL_mono {s : Nat} : ∀ t, s ≤ t → pL s ≤ pL t
 | 0,h=>by rw[show s=0 by omega];exact Nat.le_refl _
 | t+1,h=>by
  rcases Nat.lt_or_ge s (t+1)with g | g
  ·exact Nat.le_trans (pL_mono t (by omega)) (pL_up t)
  ·rw[show s=t+1 by omega]
   exact Nat.le_refl _
theorem pw_bq (hn : n ≤ 6) (hA : Bq n 2 A) : ∀ t i j, i < n → j < n → qlen (mpw n A t i j) ≤ pL t
 | 0,i,j,_,_=>by
  show qlen (if i=j then 1 else 0)≤1
  split
  ·decide
  ·decide
 | t+1,i,j,hi,hj=>by
  show qlen (Crg.sm (fun a=>A i a*mpw n A t a j) n)≤6*(2+pL t+1)+1
  have e:=sm_len (f:=fun a=>A i a*mpw n A t a j) (L:=2+pL t) n fun a ha=>q_mul (hA i a hi ha) (pw_bq hn hA t a j ha hj) (by omega)
  have:=Nat.mul_le_mul_right (2+pL t+1) hn
  omega
theorem at_c (hn:n≤6) (hA:Bq n 2 A) {f:Pol Rat} (hl:f.len≤7) (hf:∀ t,qlen (f.f t)≤2):FnOK Tryz.prog true 27 [.c (nql f.len f.f),.g (matL n n A)] (.t2 (.g (matL n n (evm n A f))) (.c (.int .i64 0))):=by
 have hT:Q.tq f.f f.len=f.len:=Q.tq_self fun k hk=>Pol.len_top f hk
 have hH:∀ t i j,t≤f.len->i<n->j<n->qlen (hrn n f.len f.f A t i j)≤1567637:=fun t i j ht hi hj=>by
  rw[hrn_evm t i j ht hi hj]
  have e:=sm_len (f:=fun k=>f.f (f.len-t+k)*mpw n A k i j) (L:=2+pL 6) t fun k hk=>q_mul (hf _) (Nat.le_trans (pw_bq hn hA k i j hi hj) (pL_mono 6 (by omega))) (by omega)
  have e2:=Nat.mul_le_mul_right (2+pL 6+1) (show t≤7 by omega)
  have e3:pL 6=223945:=by decide
  omega
 have k:=at_ok (n:=n) (N:=f.len) (T:=f.len) (q:=fun i=>ofR (f.f i)) (p:=fun k=>ofR (A (k / n) (k%n))) (F:=f.f) (A:=A) (H:=hrn n f.len f.f A) hn (by omega) (funext fun i=>ofR_val _) hT (by omega) (fun i _=>ofR_fit (Nat.le_trans (hf i) (by decide))) (fit_mat fun i j hi hj=>Nat.le_trans (hA i j hi hj) (by decide)) (fun i j hi hj=>val_mat (n:=n) i j hi hj) (fun i j hi hj=>Nat.le_trans (hA i j hi hj) (by decide)) (fun i _=>Nat.le_trans (hf i) (by decide)) (fun t i j ht hi hj=>Nat.le_trans (hH t i j ht hi hj) (by decide)) (fun t r i j ht hr hi hj=>by
  show qlen (Q.su (fun a=>hrn n f.len f.f A t r a*A a j) i)≤67108864
  rw[su_crg]
  have e:=sm_len (f:=fun a=>hrn n f.len f.f A t r a*A a j) (L:=1567637+2) i fun a ha=>q_mul (hH t r a (by omega) hr (by omega)) (hA a j (by omega) hj) (by omega)
  have e2:=Nat.mul_le_mul_right (1567637+2+1) (show i≤6 by omega)
  omega) (hrn_hor n f.len f.f A)
 refine k.res fun D' w v ⟨x,y,e1,e2,e3⟩=>⟨x,y,e1,matL_eq (fun i j hi hj=>?_) D' w x e2,e3⟩
 rw[hrn_evm f.len i j (Nat.le_refl _) hi hj]
 exact Crg.sm_congr fun t _=>by rw[Nat.sub_self,Nat.zero_add]
theorem ann_c (hn:n≤6) (hA:Bq n 2 A) {v:Nat->Rat} (hV:∀ r j,r≤n->j<n->qlen (av n A v r j)≤2):∃ g:Pol Rat,Ann n A v g/\FnOK Tryz.prog true 67 [.g (matL n n A),.c (nql n v)] (.c (nql g.len g.f)):=by
 obtain⟨g,h1,-,-,h4⟩:=ann_ok (n:=n) (p:=fun k=>ofR (A (k / n) (k%n))) (A:=A) (v:=v) (L:=2) hn (fit_mat fun i j hi hj=>Nat.le_trans (hA i j hi hj) (by decide)) (fun i j hi hj=>val_mat (n:=n) i j hi hj) (fun i j hi hj=>Nat.le_trans (hA i j hi hj) (by decide)) hV (by decide) (by decide) fun r i j hr hi hj=>by
  show qlen (Q.su (fun a=>av n A v r a*A a j) i)≤67108864
  rw[su_crg]
  have e:=sm_len (f:=fun a=>av n A v r a*A a j) (L:=2+2) i fun a ha=>q_mul (hV r a (by omega) (by omega)) (hA a j (by omega) hj) (by omega)
  omega
 exact⟨g,h1,h4⟩
theorem cpn_minpoly (hn1:1≤n) (hn:n≤6) (hw:∀ j,w j = -c j) (lw:∀ i,qlen (w i)≤2) (lc:∀ i,qlen (c i)≤2) (h1:c n=1) (h0:∀ m,n<m->c m=0):FnOK Tryz.prog true 20 [.g (matL n n (cpn n w))] (.t2 (.c (nql (n+1) c)) (.c (.int .i64 0))):=by
 have hA:Bq n 2 (cpn n w):=cpn_bq lw
 have hN:=newt_cpn hw h1 h0
 let p:Pol Rat:=⟨c,n+1,fun j hj=>h0 j (by omega)⟩
 have hp:p.f=c:=rfl
 have hpl:p.len=n+1:=len_eq (fun j hj=>h0 j (by omega)) (by show c n≠0;rw[h1];exact Fld.one_ne)
 have hp0:p≠0:=ne_of_len (by omega)
 let f:Nat->Pol Rat:=fun i=>if i=0 then 1 else p
 let g:Nat->Pol Rat:=fun i=>if i=0 then p else 1
 have fl:∀ i,(f i).len≤7/\0<(f i).len/\∀ t,qlen ((f i).f t)≤2:=fun i=>by
  show(if i=0 then(1:Pol Rat)else p).len≤7/\0<(if i=0 then(1:Pol Rat)else p).len/\∀ t,qlen ((if i=0 then(1:Pol Rat)else p).f t)≤2
  split
  ·rw[len_one]
   refine⟨by decide,by decide,fun t=>?_⟩
   rw[f_one]
   split <;> decide
  ·exact⟨by omega,by omega,lc⟩
 have gl:∀ i,(g i).len≤7/\0<(g i).len/\∀ t,qlen ((g i).f t)≤2:=fun i=>by
  show(if i=0 then p else(1:Pol Rat)).len≤7/\0<(if i=0 then p else(1:Pol Rat)).len/\∀ t,qlen ((if i=0 then p else(1:Pol Rat)).f t)≤2
  split
  ·exact⟨by omega,by omega,lc⟩
  ·rw[len_one]
   refine⟨by decide,by decide,fun t=>?_⟩
   rw[f_one]
   split <;> decide
 have fg:∀ i,f i*g i=f (i+1):=fun i=>by
  show(if i=0 then(1:Pol Rat)else p)*(if i=0 then p else(1:Pol Rat))=if i+1=0 then 1 else p
  rw[if_neg (show ¬ i+1=0 by omega)]
  split
  ·exact Crg.one_mul p
  ·exact Crg.mul_one p
 let E:Nat->Nat->Nat->Rat:=fun i=>if i=0 then mI else fun _ _=>0
 have ev:∀ i a b,a<n->b<n->evm n (cpn n w) (f i) a b=E i a b:=fun i a b ha hb=>by
  show evm n (cpn n w) (if i=0 then(1:Pol Rat)else p) a b=(if i=0 then mI else fun _ _=>0) a b
  split
  ·rw[evm_of (Nat.le_of_eq len_one)]
   show 0+(1:Pol Rat).f 0*mI a b=mI a b
   rw[Crg.zero_add,f_one,if_pos rfl,Crg.one_mul]
  ·rw[evm_of (Nat.le_of_eq hpl)]
   exact hN.root a b ha hb
 have El:∀ i a b,qlen (E i a b)≤1:=fun i a b=>by
  show qlen ((if i=0 then mI else fun _ _=>0) a b)≤1
  split
  ·show qlen (if a=b then 1 else 0)≤1
   split <;> decide
  ·exact q_zero
 have W:Mpw n (fun k=>ofR (cpn n w (k / n) (k%n))) f g E:=by
  refine⟨by omega,rfl,fun i hi=>?_,fun i hi=>row_n (by omega) hi fun j _=>Nat.le_trans (El i i j) (by decide),fun i hi=>?_,fun i hi=>?_⟩
  ·refine(at_c hn hA (fl i).1 (fl i).2.2).res fun D' w v ⟨x,y,e1,e2,e3⟩=>⟨x,y,e1,matL_eq (fun a b ha hb=>ev i a b ha hb) D' w x e2,e3⟩
  ·by_cases e:i=0
   ·subst e
    obtain⟨g',k1,k2⟩:=ann_c (v:=mI 0) hn hA fun r j hr hj=>by
     rcases Nat.lt_or_ge r n with h | h
     ·rw[cpn_av r h j hj]
      split <;> decide
     ·rw[show r=n-1+1 by omega]
      show qlen (Crg.sm (fun i=>av n (cpn n w) (mI 0) (n-1) i*cpn n w i j) n)≤2
      rw[Crg.sm_congr (g:=fun i=>(if i=n-1 then 1 else 0)*cpn n w i j) fun i hi=>by rw[cpn_av (n-1) (by omega) i hi],Crg.sm_one (show n-1<n by omega) fun a _ ha=>by rw[if_neg ha,Crg.zero_mul],if_pos rfl,Crg.one_mul]
      exact hA (n-1) j (by omega) hj
    have e:=cpn_ann hw hn1 hp h1 h0 k1
    rw[e]at k2
    exact k2
   ·obtain⟨g',k1,k2⟩:=ann_c (v:=fun _=>(0:Rat)) hn hA fun r j hr hj=>by
     rw[show av n (cpn n w) (fun _=>(0:Rat)) r j=0 from by
      rw[av_mpw _ r j hj]
      exact Crg.sm_zero fun i _=>Crg.zero_mul _]
     decide
    have e2:=ann_nil (fun _ _=>rfl) k1
    rw[e2]at k2
    show FnOK Tryz.prog true 67 [_,.c (nql n ((if i=0 then mI else fun _ _=>0) i))] (.c (nql (if i=0 then p else 1).len (if i=0 then p else 1).f))
    rw[if_neg e,if_neg e]
    exact k2
  ·have h:=mul_pol (fl i).2.1 (gl i).2.1 (fl i).1 (gl i).1 (fl i).2.2 (gl i).2.2 (by decide) (by decide)
   rw[fg]at h
   exact h
 have h:=min_walk W
 have e:f n=p:=if_neg (by omega)
 rw[e,hpl]at h
 exact h
end Mx
end Go.Proofs.YtkmbnldginonbaaGreat
/- What the statements of charpoly begin with: fixed calls, run. -/
namespace Go.Proofs.YtkmbnldginonbaaGreat
open Go.RowKit
def inlAwake (f:FuncId):Bool:=[39,40,92,151,58,108,48,100].contains f
theorem awake_run:(pureX orcC (runX ER orcC okF inlAwake 1000 40) 8 []).map (fun x=>match x with | .c (.bool b)=>b | _=>false)=some true:=by kernel_rfl
theorem awake_ok:FnOK Tryz.prog false 8 [] (.c (.bool true)):=by
 have h:=awake_run
 cases hx:pureX orcC (runX ER orcC okF inlAwake 1000 40) 8 []with
 | none=>rw[hx]at h;cases h
 | some X =>
  rw[hx]at h
  have hX:X = .c (.bool true):=by
   simp only[Option.map_some,Option.some.injEq]at h
   split at h
   ·rename_i b;subst h;rfl
   ·cases h
  subst hX
  exact run_call orcC_ok hx
end Go.Proofs.YtkmbnldginonbaaGreat
/- The law CharpolyNewton over abstract arguments. -/
namespace Go.Proofs.YtkmbnldginonbaaGreat
open Go.RowKit
namespace Mx
open Rf
def qs (n : Nat) (p : Nat → RawR) (A : Nat → Nat → Rat) : Nat → Nat → RawR
 | 0=>p
 | t+1=>fun k=>ofR (xw n A (t+1) (k / n) (k%n))
end Mx
end Go.Proofs.YtkmbnldginonbaaGreat
/- The law CharpolyCompanions over the contracts of what it calls. -/
set_option maxHeartbeats 4000000
namespace Go.Proofs.YtkmbnldginonbaaGreat
open Go.RowKit
namespace Mx
open Rf
theorem companion_bad {N T:Nat} {q:Nat->RawR} {F:Nat->Rat} (hN:N≤1024) (hqF:(fun i=>(q i).val)=F) (hT:Q.tq F N=T) (hb:T≤1∨65<T) (hq:∀ i,i<N->(q i).Fit KD):FnOK Tryz.prog true 16 [.c (ql N q)] (.t2 (.g [.int .i64 0,.int .i64 0,.nil]) (.c (.int .i64 2))):=by
 have q0:=qnorm_ok (n:=N) hqF (by omega) hq (by decide)
 rw[hT]at q0
 have hT2:T≤N:=by rw[← hT];exact Q.tq_le F N
 clear hqF hT hq
 refine fn_ok (E:=E1) E1_ok Tryz.func16 rfl mixed (by kernel_rfl) (by kernel_rfl) ?_
 conv=>whnf
 refine .inr ⟨_,q0,?_⟩
 conv=>whnf
 refine⟨i64_range (by omega) (by omega),?_⟩
 conv=>whnf
 rcases hb with h | h
 ·refine bneg (show gw false (decide ((T:Int)-1<1))=false by rw[decide_eq_true (by omega)];rfl) ?_
  conv=>whnf
  exact⟨rfl,Sub.refl _⟩
 ·refine bpos (show gw false (decide ((T:Int)-1<1))=true by rw[decide_eq_false (by omega)];rfl) ?_
  conv=>whnf
  refine bpos (show decide ((64:Int)<(T:Int)-1)=true from decide_eq_true (by omega)) ?_
  conv=>whnf
  exact⟨rfl,Sub.refl _⟩
theorem co_long {N:Nat} {q:Nat->RawR} (hN:100<N):FnOK Tryz.prog true 4 [.c (ql N q)] (.c (.bool true)):=by
 have h0:=awake_ok.weak (r:=true)
 refine fn_ok (E:=E1) E1_ok Tryz.func4 rfl mixed (by kernel_rfl) (by kernel_rfl) ?_
 conv=>whnf
 refine⟨_,h0,?_⟩
 conv=>whnf
 refine bneg (show gw false (decide ((100:Int)<(N:Int)))=false by rw[decide_eq_true (by omega)];rfl) ?_
 conv=>whnf
 exact⟨rfl,Sub.refl _⟩
theorem co_big {N:Nat} {q:Nat->RawR} (hN:N≤100) (s0:FnOK Tryz.prog true 15 [.c (ql N q)] (.c (.bool false))):FnOK Tryz.prog true 4 [.c (ql N q)] (.c (.bool true)):=by
 have h0:=awake_ok.weak (r:=true)
 refine fn_ok (E:=E1) E1_ok Tryz.func4 rfl mixed (by kernel_rfl) (by kernel_rfl) ?_
 conv=>whnf
 refine⟨_,h0,?_⟩
 conv=>whnf
 refine bpos (show gw false (decide ((100:Int)<(N:Int)))=true by rw[decide_eq_false (by omega)];rfl) ?_
 conv=>whnf
 refine⟨_,s0,?_⟩
 conv=>whnf
 exact⟨rfl,Sub.refl _⟩
theorem co_bad {N T:Nat} {q:Nat->RawR} (hN:N≤100) (s0:FnOK Tryz.prog true 15 [.c (ql N q)] (.c (.bool true))) (c0:FnOK Tryz.prog true 16 [.c (ql N q)] (.t2 (.g [.int .i64 0,.int .i64 0,.nil]) (.c (.int .i64 2)))) (d0:FnOK Tryz.prog true 17 [.c (ql N q)] (.c (.int .i64 ((T:Nat)-1)))) (hb:T≤1∨65<T):FnOK Tryz.prog true 4 [.c (ql N q)] (.c (.bool true)):=by
 have h0:=awake_ok.weak (r:=true)
 refine fn_ok (E:=E1) E1_ok Tryz.func4 rfl mixed (by kernel_rfl) (by kernel_rfl) ?_
 conv=>whnf
 refine⟨_,h0,?_⟩
 conv=>whnf
 refine bpos (show gw false (decide ((100:Int)<(N:Int)))=true by rw[decide_eq_false (by omega)];rfl) ?_
 conv=>whnf
 refine⟨_,s0,?_⟩
 conv=>whnf
 refine⟨_,c0,?_⟩
 conv=>whnf
 refine⟨_,d0,?_⟩
 conv=>whnf
 rcases hb with h | h
 ·refine bneg (show gw false (decide ((T:Int)-1<1))=false by rw[decide_eq_true (by omega)];rfl) ?_
  conv=>whnf
  refine⟨i64_range (by decide) (by decide),?_⟩
  conv=>whnf
  refine⟨i64_range (by decide) (by decide),?_⟩
  conv=>whnf
  exact⟨rfl,Sub.refl _⟩
 ·refine bpos (show gw false (decide ((T:Int)-1<1))=true by rw[decide_eq_false (by omega)];rfl) ?_
  conv=>whnf
  refine bpos (show decide ((64:Int)<(T:Int)-1)=true from decide_eq_true (by omega)) ?_
  conv=>whnf
  refine⟨i64_range (by decide) (by decide),?_⟩
  conv=>whnf
  refine⟨i64_range (by decide) (by decide),?_⟩
  conv=>whnf
  exact⟨rfl,Sub.refl _⟩
theorem co_far {N n:Nat} {q:Nat->RawR} {G:Nat->Nat->Rat} (hN:N≤100) (hn1:1≤n) (hn:n≤64) (h6:6<n) (s0:FnOK Tryz.prog true 15 [.c (ql N q)] (.c (.bool true))) (c0:FnOK Tryz.prog true 16 [.c (ql N q)] (.t2 (.g (matL n n G)) (.c (.int .i64 0)))) (d0:FnOK Tryz.prog true 17 [.c (ql N q)] (.c (.int .i64 ((n+1:Nat)-1)))) (r0:FnOK Tryz.prog true 19 [.c (ql N q)] (.g (matL n n G))) (m0:FnOK Tryz.prog true 18 [.g (matL n n G),.g (matL n n G)] (.c (.bool true))):FnOK Tryz.prog true 4 [.c (ql N q)] (.c (.bool true)):=by
 have h0:=awake_ok.weak (r:=true)
 refine fn_ok (E:=E1) E1_ok Tryz.func4 rfl mixed (by kernel_rfl) (by kernel_rfl) ?_
 conv=>whnf
 refine⟨_,h0,?_⟩
 conv=>whnf
 refine bpos (show gw false (decide ((100:Int)<(N:Int)))=true by rw[decide_eq_false (by omega)];rfl) ?_
 conv=>whnf
 refine⟨_,s0,?_⟩
 conv=>whnf
 refine⟨_,c0,?_⟩
 conv=>whnf
 refine⟨_,d0,?_⟩
 conv=>whnf
 refine bpos (show gw false (decide (((n+1:Nat):Int)-1<1))=true by rw[decide_eq_false (by omega)];rfl) ?_
 conv=>whnf
 refine bneg (show decide ((64:Int)<((n+1:Nat):Int)-1)=false from decide_eq_false (by omega)) ?_
 conv=>whnf
 refine⟨_,r0,?_⟩
 conv=>whnf
 refine⟨_,m0,?_⟩
 conv=>whnf
 refine bpos (show decide ((6:Int)<((n+1:Nat):Int)-1)=true from decide_eq_true (by omega)) ?_
 conv=>whnf
 exact⟨rfl,Sub.refl _⟩
theorem co_near {N n : Nat} {q : Nat → RawR} {G : Nat → Nat → Rat} {c : Nat → Rat} (hN : N ≤ 100) (hn1 : 1 ≤ n) (h6 : n ≤ 6) (s0 : FnOK Tryz.prog true 15 [.c (ql N q)] (.c (.bool true))) (c0 : FnOK Tryz.prog true 16 [.c (ql N q)] (.t2 (.g (matL n n G)) (.c (.int .i64 0)))) (d0 : FnOK Tryz.prog true 17 [.c (ql N q)] (.c (.int .i64 ((n + 1 : Nat) - 1)))) (r0 : FnOK Tryz.prog true 19 [.c (ql N q)] (.g (matL n n G))) (m0 : FnOK Tryz.prog true 18 [.g (matL n n G), .g (matL n n G)] (.c (.bool true)))
  (p0:FnOK Tryz.prog true 10 [.g (matL n n G)] (.t2 (.c (nql (n+1) c)) (.c (.int .i64 0)))) (p1:FnOK Tryz.prog true 20 [.g (matL n n G)] (.t2 (.c (nql (n+1) c)) (.c (.int .i64 0)))) (o0:FnOK Tryz.prog true 22 [.c (ql N q)] (.c (nql (n+1) c))) (e0:FnOK Tryz.prog true 21 [.c (nql (n+1) c),.c (nql (n+1) c)] (.c (.bool true))):FnOK Tryz.prog true 4 [.c (ql N q)] (.c (.bool true)):=by
 have h0:=awake_ok.weak (r:=true)
 refine fn_ok (E:=E1) E1_ok Tryz.func4 rfl mixed (by kernel_rfl) (by kernel_rfl) ?_
 conv=>whnf
 refine⟨_,h0,?_⟩
 conv=>whnf
 refine bpos (show gw false (decide ((100:Int)<(N:Int)))=true by rw[decide_eq_false (by omega)];rfl) ?_
 conv=>whnf
 refine⟨_,s0,?_⟩
 conv=>whnf
 refine⟨_,c0,?_⟩
 conv=>whnf
 refine⟨_,d0,?_⟩
 conv=>whnf
 refine bpos (show gw false (decide (((n+1:Nat):Int)-1<1))=true by rw[decide_eq_false (by omega)];rfl) ?_
 conv=>whnf
 refine bneg (show decide ((64:Int)<((n+1:Nat):Int)-1)=false from decide_eq_false (by omega)) ?_
 conv=>whnf
 refine⟨_,r0,?_⟩
 conv=>whnf
 refine⟨_,m0,?_⟩
 conv=>whnf
 refine bneg (show decide ((6:Int)<((n+1:Nat):Int)-1)=false from decide_eq_false (by omega)) ?_
 conv=>whnf
 refine⟨_,p0,?_⟩
 conv=>whnf
 refine⟨_,p1,?_⟩
 conv=>whnf
 refine⟨_,o0,?_⟩
 conv=>whnf
 refine⟨_,e0,?_⟩
 conv=>whnf
 refine⟨_,e0,?_⟩
 conv=>whnf
 exact⟨rfl,Sub.refl _⟩
end Mx
end Go.Proofs.YtkmbnldginonbaaGreat
/- The document's fractions and polynomials over the rational numbers: whole numbers, negatives, differences, ratios; lists of whole numbers, places, sums. -/
set_option maxHeartbeats 4000000
namespace Go.Proofs.YtkmbnldginonbaaGreat
open Go.RowKit
namespace Rf
theorem rqratio_n {x y:Rat} (hx:qlen x≤131070) (hy:qlen y≤131070):FnOK Tryz.prog false 70 [.g (nq x),.g (nq y)] (.g (nq (x / y))):=by
 have h1:=lenZ hx
 have h2:=lenZ hy
 have n1:=rqnorm_n (x:=x) (by omega)
 have n2:=rqnorm_n (x:=y) (by omega)
 have m1:=zmul_n (a:=x.num) (b:=(y.den:Int)) (by omega)
 have m2:=zmul_n (a:=(x.den:Int)) (b:=y.num) (by omega)
 have l1:=zlen_mul x.num (y.den:Int)
 have l2:=zlen_mul (x.den:Int) y.num
 have o:=over_n (x:=x / y) (a:=x.num*(y.den:Int)) (b:=(x.den:Int)*y.num) (by rw[← ratio_div,ratio_num_den,ratio_num_den]) (by omega) (by omega)
 refine fn_ok (E:=E0) E0_ok Tryz.func70 rfl mixed (by kernel_rfl) (by kernel_rfl) ?_
 conv=>whnf
 refine⟨_,n1,?_⟩
 conv=>whnf
 refine⟨_,n2,?_⟩
 conv=>whnf
 refine⟨_,m1,?_⟩
 conv=>whnf
 refine⟨_,m2,?_⟩
 conv=>whnf
 refine⟨_,o,?_⟩
 conv=>whnf
 exact⟨rfl,Sub.refl _⟩
theorem at6_ok {n i:Nat} {q:Nat->RawR} {F:Nat->Rat} (hF:Q.qx n (fun i=>(q i).val)=F) (hi:i≤4096) (hq:∀ i,i<n->wq (q i)):FnOK Tryz.prog false 117 [.c (ql n q),.c (.int .i64 i)] (.g (nq (F i))):=by
 have o0:=rqof_zero
 have e0:¬ i<n->nq 0=nq (F i):=fun h=>by rw[← hF,show Q.qx n (fun i=>(q i).val) i=0 from if_neg h]
 have n0:i<n->FnOK Tryz.prog false 102 [.g (rr (q i))] (.g (nq (F i))):=fun h=>by
  have:=rqnormal_ok (hq i h)
  rw[← hF,Q.qx_lt h]
  exact this
 clear hF hq
 refine fn_ok (E:=E0) E0_ok Tryz.func117 rfl mixed (by kernel_rfl) (by kernel_rfl) ?_
 conv=>whnf
 refine bcase (fun(h:decide ((n:Int)≤i)=true)=>?_) fun(h:decide ((n:Int)≤i)=false)=>?_
 ·have h:=e0 (by have:=of_decide_eq_true h;omega)
  conv=>whnf
  refine⟨_,o0,?_⟩
  conv=>whnf
  rw[← h]
  exact⟨rfl,Sub.refl _⟩
 ·have h:=of_decide_eq_false h
  have n0:=n0 (by omega)
  conv=>whnf
  refine⟨by omega,by omega,?_⟩
  conv=>whnf
  refine⟨_,n0,?_⟩
  conv=>whnf
  exact⟨rfl,Sub.refl _⟩
end Rf
end Go.Proofs.YtkmbnldginonbaaGreat
/- The document's monic polynomial, unit vectors. -/
set_option maxHeartbeats 8000000
namespace Go.Proofs.YtkmbnldginonbaaGreat
open Go.RowKit
namespace Mx
open Rf
theorem rqmulR {q:RawR} {c:Rat} (hw:wq q) (h1:zlen q.num.val≤65535) (h2:zlen q.den.val≤65535) (hc:qlen c≤65535):FnOK Tryz.prog false 91 [.g (rr q),.g (nq c)] (.g (nq (q.val*c))):=by
 have h3:=lenZ hc
 have w1:wr (ofZ c.num):=wr_nz (by omega)
 have w2:wr (ofZ (c.den:Int)):=wr_nz (by omega)
 have m1:=rmulz_ok (a:=q.num) (b:=ofZ c.num) hw.1.1 w1 (by rw[ofZ_val];omega)
 have m2:=rmulz_ok (a:=q.den) (b:=ofZ (c.den:Int)) hw.1.2 w2 (by rw[ofZ_val];omega)
 rw[ofZ_val]at m1 m2
 have l1:=zlen_mul q.num.val c.num
 have l2:=zlen_mul q.den.val (c.den:Int)
 have o:=over_n (x:=q.val*c) (a:=q.num.val*c.num) (b:=q.den.val*(c.den:Int)) (by rw[← ratio_mul,ratio_num_den];rfl) (by omega) (by omega)
 refine fn_ok (E:=E0) E0_ok Tryz.func91 rfl mixed (by kernel_rfl) (by kernel_rfl) ?_
 conv=>whnf
 refine⟨_,m1,?_⟩
 conv=>whnf
 refine⟨_,m2,?_⟩
 conv=>whnf
 refine⟨_,o,?_⟩
 conv=>whnf
 exact⟨rfl,Sub.refl _⟩
theorem scale6_ok {N:Nat} {q:Nat->RawR} {z:Nat->Rat} {c:Rat} (hN:N≤1024) (hq:∀ i,i<N->wq (q i)/\zlen (q i).num.val≤65535/\zlen (q i).den.val≤65535) (hc:qlen c≤65535) (hz:∀ i,i<N->z i=(q i).val*c) (hl:∀ i,i<N->qlen (z i)≤524286):FnOK Tryz.prog false 69 [.c (ql N q),.g (nq c)] (.c (nql (Q.tq z N) z)):=by
 have m0:∀ i,i<N->FnOK Tryz.prog false 91 [.g (rr (q i)),.g (nq c)] (.g (nq (z i))):=fun i hi=>by
  rw[hz i hi]
  exact rqmulR (hq i hi).1 (hq i hi).2.1 (hq i hi).2.2 hc
 have n0:=normal6_ok (n:=N) (q:=fun i=>ofR (z i)) (v:=z) (by omega) (fun i _=>ofR_val _) (fun i hi=>wq_n (hl i hi)) hl
 have n1:∀ i,i=N->FnOK Tryz.prog false 61 [.c (nql i z)] (.c (nql (Q.tq z N) z)):=fun i e=>by rw[e];exact n0
 clear hq hc hz hl n0
 refine fn_ok (E:=E0) E0_ok Tryz.func69 rfl mixed (by kernel_rfl) (by kernel_rfl) ?_
 conv=>whnf
 refine loop_ints (fun i:Nat=>gst [(0,.c (ql N q)),(3,.c (.p 0 0 4 0 0)),(5,.c (.gs 1 0)),(6,.c (.int .i64 i))] [⟨38,4,1,boxF (nq c)⟩,gqr i fun k=>ofR (z k)]) (fun i=>N-i) (fun i=>i≤N) 0 rfl (Weak.gen [some 0,none] rfl ⟨boxK rfl rfl,rfl,trivial⟩ ⟨.inl ⟨_,_,rfl,rfl,fun _ _ _ _=>rfl⟩,⟨_,rfl,rfl,rfl⟩,rfl,⟨_,rfl,rfl⟩,trivial⟩) (Nat.zero_le _) fun i hi=>?_
 have m0:=m0 i
 have n1:=n1 i
 conv=>whnf
 refine bcase (fun(h:decide ((i:Int)<N)=true)=>?_) fun(h:decide ((i:Int)<N)=false)=>?_
 ·have h:=of_decide_eq_true h
  have m0:=m0 (by omega)
  conv=>whnf
  refine⟨by omega,by omega,?_⟩
  conv=>whnf
  refine⟨_,m0,?_⟩
  conv=>whnf
  refine .inr ⟨rfl,?_⟩
  conv=>whnf
  refine⟨by show i+1≤16777216;omega,fun a b ha hb=>one_nq _ _ a b ha hb,?_⟩
  conv=>whnf
  refine⟨i64 (by omega) (by omega),?_⟩
  conv=>whnf
  refine⟨i+1,by omega,Weak.gen [some 0,some 1] rfl ⟨boxK rfl rfl,⟨_,rfl,rfl,rfl,rfl,rfl,fun a b ha hb=>regE ?_ (ql_clos (c:=fun k=>ofR (z k)) a b)⟩,trivial⟩ ⟨.inl ⟨_,_,rfl,rfl,fun _ _ _ _=>rfl⟩,⟨_,rfl,rfl,rfl⟩,⟨_,rfl,rfl,rfl⟩,⟨_,rfl,rfl⟩,trivial⟩,by omega⟩
  exact appG (sz:=4) (g:=fun k=>nq (z k)) (g':=fun k=>nq (z k)) (l:=nq (z i)) (app_sameq z i a) (Nat.le_refl (i+1)) ha
 ·have h:=of_decide_eq_false h
  have n1:=n1 (by omega)
  conv=>whnf
  refine .inr ⟨fun x y _ _=>ql_clos (c:=fun k=>ofR (z k)) x y,?_⟩
  conv=>whnf
  refine⟨_,n1,?_⟩
  conv=>whnf
  exact⟨rfl,Sub.refl _⟩
theorem tq_iff {a b : Nat → Rat} (h : ∀ k, a k = 0 ↔ b k = 0) : ∀ n, Q.tq a n = Q.tq b n
 | 0=>rfl
 | n+1=>by
  unfold Q.tq
  by_cases e:a n=0
  ·rw[if_pos e,if_pos ((h n).1 e),tq_iff h n]
  ·rw[if_neg e,if_neg fun g=>e ((h n).2 g)]
theorem lead6_ok {N n:Nat} {q:Nat->RawR} {F:Nat->Rat} (hN:N≤1024) (hF:Q.qx N (fun i=>(q i).val)=F) (hT:Q.tq F N=n+1) (hq:∀ i,i<N->wq (q i)) (hl:∀ i,qlen (F i)≤524286):FnOK Tryz.prog false 71 [.c (ql N q)] (.g (nq (F n))):=by
 have d0:=degree6_ok (n:=N) (q:=q) (v:=F) (by omega) (fun i hi=>by rw[← hF,Q.qx_lt hi]) hq fun i _=>hl i
 have hn:=Q.tq_le F N
 rw[hT]at d0 hn
 have a0:=at6_ok (n:=N) (i:=n) hF (by omega) hq
 have a1:FnOK Tryz.prog false 117 [.c (ql N q),.c (.int .i64 (((n+1:Nat):Int)-1))] (.g (nq (F n))):=by
  rw[show((n+1:Nat):Int)-1=(n:Int)by omega]
  exact a0
 refine fn_ok (E:=E0) E0_ok Tryz.func71 rfl mixed (by kernel_rfl) (by kernel_rfl) ?_
 conv=>whnf
 refine⟨_,d0,?_⟩
 conv=>whnf
 refine⟨_,a1,?_⟩
 conv=>whnf
 exact⟨rfl,Sub.refl _⟩
theorem monic6_ok {N n:Nat} {q:Nat->RawR} {F M:Nat->Rat} (hN:N≤1024) (hF:Q.qx N (fun i=>(q i).val)=F) (hT:Q.tq F N=n+1) (hq:∀ i,i<N->wq (q i)/\zlen (q i).num.val≤65535/\zlen (q i).den.val≤65535) (hl:∀ i,qlen (F i)≤30000) (hM:∀ i,M i=F i / F n):FnOK Tryz.prog false 22 [.c (ql N q)] (.c (nql (n+1) M)):=by
 have h0:F n≠0:=Q.tq_top hT
 have ld:=lead6_ok hN hF hT (fun i hi=>(hq i hi).1) fun i=>Nat.le_trans (hl i) (by decide)
 have o1:FnOK Tryz.prog false 52 [.c (.int .i64 1)] (.g (nq 1)):=rqof_ok (n:=1) (by omega) (by omega)
 have r1:=rqratio_n (x:=1) (y:=F n) (by decide) (Nat.le_trans (hl n) (by decide))
 have q1:qlen (1 / F n)≤30001:=q_div (L:=1) (by decide) (hl n) (by omega)
 have s1:=scale6_ok (z:=M) (c:=1 / F n) hN hq (by omega) (fun i hi=>by rw[hM,← hF,Q.qx_lt hi,Rat.div_def,Rat.div_def,Rat.one_mul]) fun i hi=>by
  rw[hM]
  exact Nat.le_trans (q_div (hl i) (hl n) (by omega)) (by omega)
 have e:Q.tq M N=n+1:=by
  refine(tq_iff (fun k=>?_) N).trans hT
  rw[hM]
  constructor
  ·intro h
   rw[← Rat.div_mul_cancel (a:=F k) h0,h,Rat.zero_mul]
  ·intro h
   rw[h,Rat.div_def,Rat.zero_mul]
 rw[e]at s1
 refine fn_ok (E:=E0) E0_ok Tryz.func22 rfl mixed (by kernel_rfl) (by kernel_rfl) ?_
 conv=>whnf
 refine⟨_,o1,?_⟩
 conv=>whnf
 refine⟨_,ld,?_⟩
 conv=>whnf
 refine⟨_,r1,?_⟩
 conv=>whnf
 refine⟨_,s1,?_⟩
 conv=>whnf
 exact⟨rfl,Sub.refl _⟩
end Mx
end Go.Proofs.YtkmbnldginonbaaGreat
/- The document's companion matrix; charpoly.Companion's error. -/
set_option maxHeartbeats 8000000
namespace Go.Proofs.YtkmbnldginonbaaGreat
open Go.RowKit
namespace Mx
open Rf
theorem rzeros_t {n:Nat} (hn:n≤1024):FnT Tryz.prog false 64 0 [] [.c (.int .i64 n)] (.c (.gs 0 0)) [gb (gqr n fun _=>ofR 0)]:=by
 have h0:=rqof_zero
 refine fnt_okS (E:=E0) E0_ok Tryz.func64 rfl (by kernel_rfl) ?_
 refine swp_of E0_ok mixed (by kernel_rfl) ?_
 conv=>whnf
 refine loop_ints (fun i:Nat=>gst [(0,.c (.int .i64 n)),(3,.c (.gs 0 0)),(4,.c (.int .i64 i))] [gqr i fun _=>ofR 0]) (fun i=>n-i) (fun i=>i≤n) 0 rfl (Weak.gen [none] rfl ⟨rfl,trivial⟩ ⟨⟨_,rfl,rfl⟩,rfl,⟨_,rfl,rfl⟩,trivial⟩) (Nat.zero_le _) fun i hi=>?_
 conv=>whnf
 refine bcase (fun(h:decide ((i:Int)<n)=true)=>?_) fun(h:decide ((i:Int)<n)=false)=>?_
 ·have h:=of_decide_eq_true h
  conv=>whnf
  refine⟨_,h0,?_⟩
  conv=>whnf
  refine⟨by show i+1≤16777216;omega,fun a b ha hb=>one_nq 0 _ a b ha hb,?_⟩
  conv=>whnf
  refine⟨i64 (by omega) (by omega),?_⟩
  conv=>whnf
  refine⟨i+1,by omega,Weak.gen [some 0] rfl ⟨⟨_,rfl,rfl,rfl,rfl,rfl,fun a b ha hb=>regE ?_ (ql_clos (c:=fun _=>ofR 0) a b)⟩,trivial⟩ ⟨⟨_,rfl,rfl⟩,⟨_,rfl,rfl,rfl⟩,⟨_,rfl,rfl⟩,trivial⟩,by omega⟩
  exact appG (sz:=4) (g:=fun _=>nq 0) (g':=fun _=>nq 0) (l:=nq 0) (app_sameq (fun _=>0) i a) (Nat.le_refl (i+1)) ha
 ·have h:=of_decide_eq_false h
  have e:i=n:=by omega
  conv=>whnf
  exact Weak.gen (tl:=[(0,.c (.gs 0 0))]) (xs:=[gqr n fun _=>ofR 0]) [some 0] rfl ⟨⟨_,rfl,rfl,rfl,e,rfl,fun a b ha hb=>regE rfl (ql_clos (c:=fun _=>ofR 0) a b)⟩,trivial⟩ ⟨⟨_,rfl,rfl,rfl⟩,trivial⟩
set_option maxRecDepth 100000 in
theorem unit_ok {n k:Nat} {u:Nat->Rat} (hn:n≤1024) (hk:k<n) (hu:∀ j,u j=if j=k then 1 else 0):FnOK Tryz.prog false 62 [.c (.int .i64 n),.c (.int .i64 k)] (.c (nql n u)):=by
 have o1:FnOK Tryz.prog false 52 [.c (.int .i64 1)] (.g (nq 1)):=rqof_ok (n:=1) (by omega) (by omega)
 have k0:(0:Int)≤(k:Int):=by omega
 have k1:(k:Int)<(n:Int):=by omega
 refine fn_okS (E:=E0) E0_ok Tryz.func62 rfl (by kernel_rfl) ?_
 refine swp_seq E0_ok mixed (by kernel_rfl) ?_
 conv=>whnf
 refine⟨gst [(0,.c (.int .i64 n)),(1,.c (.int .i64 k))] [],Weak.gen [] rfl trivial ⟨⟨_,rfl,rfl⟩,⟨_,rfl,rfl⟩,trivial⟩,?_⟩
 refine swp_mid (fun _:Unit=>gst [(1,.c (.int .i64 k)),(5,.c (.gs 0 0))] [gqr n fun _=>ofR 0]) (fun _=>True) ?_ fun _ _=>?_
 ·refine swp_goT E0_ok (pre:=[_]) (post:=[_]) rfl rfl (by kernel_rfl) ?_
  conv=>whnf
  refine⟨0,_,Nat.le_refl _,OpGoT.call0 (f:=64) (cs:=[]) rfl rfl (fun B hB=>absurd hB List.not_mem_nil) (rzeros_t hn) (lt_put (lt_asg (tl:=[(0,.c (.int .i64 n)),(1,.c (.int .i64 k))]) ⟨rfl,rfl,trivial⟩) rfl),?_⟩
  conv=>whnf
  exact⟨(),trivial,Weak.gen [some 0] rfl ⟨⟨_,rfl,rfl,rfl,rfl,rfl,fun x y hx hy=>regE rfl (ql_clos (c:=fun _=>ofR 0) x y)⟩,trivial⟩ ⟨⟨_,rfl,rfl⟩,⟨_,rfl,rfl,rfl⟩,trivial⟩⟩
 refine swp_seq E0_ok mixed (by kernel_rfl) ?_
 conv=>whnf
 refine⟨_,o1,?_⟩
 conv=>whnf
 refine⟨k0,k1,?_⟩
 conv=>whnf
 refine⟨gst [(5,.c (.gs 0 0))] [gqr n fun j=>ofR (u j)],Weak.gen [some 0] rfl ⟨⟨_,rfl,rfl,rfl,rfl,rfl,fun x y hx hy=>regE (one_upd (V:=fun _=>0) (V':=u) (by rw[hu];rfl) hy) (ql_clos (c:=fun j=>ofR (u j)) x y)⟩,trivial⟩ ⟨⟨_,rfl,rfl,rfl⟩,trivial⟩,?_⟩
 refine swp_of E0_ok mixed (by kernel_rfl) ?_
 conv=>whnf
 refine⟨fun a b _ _=>ql_clos (c:=fun j=>ofR (u j)) a b,?_⟩
 conv=>whnf
 exact⟨rfl,Sub.refl _⟩
set_option maxRecDepth 100000 in
theorem rof_t {n m:Nat} {G:Nat->Nat->Rat} (hn:n≤64) (hm:m≤64) (h:∀ i j,i<n->j<m->qlen (G i j)≤524286):FnT Tryz.prog false 57 1 [gb ⟨22,1,n,fun k _=>nql m (G k)⟩] [.c (.int .i64 m),.c (.gs 0 0)] (.g (matL n m G)) [gb ⟨22,1,n,fun k _=>nql m (G k)⟩]:=by
 have n1:∀ i j,i<n->j<m->FnOK Tryz.prog false 102 [.g (nq (G i j))] (.g (nq (G i j))):=fun i j hi hj=>rqnorm_n (h i j hi hj)
 have hnm:∀ i,i≤n->i*m≤4096:=fun i hi=>Nat.le_trans (Nat.mul_le_mul (show i≤64 by omega) hm) (by decide)
 clear h
 refine fnt_okS (E:=E0m) E0m_ok Tryz.func57 rfl (by kernel_rfl) ?_
 refine swp_of E0m_ok mixed (by kernel_rfl) ?_
 conv=>whnf
 refine loop_ints1 (fun i:Nat=>gst [(0,.c (.int .i64 m)),(1,.c (.gs 0 0)),(4,.c (.p 1 0 3 0 0)),(5,.c (.p 2 0 3 0 0)),(6,.c (.int .i64 i))] [⟨22,1,n,fun k _=>nql m (G k)⟩,⟨24,3,1,boxF [.int .i64 0,.int .i64 0,.nil]⟩,⟨24,3,1,boxF [.int .i64 n,.int .i64 m,.gs 3 0]⟩,gqr (i*m) fun k=>ofR (G (k / m) (k%m))]) (fun i=>n-i) (fun i=>i≤n) 0 rfl ?_ (Nat.zero_le _) fun i hi=>?_
 ·exact Weak.genT [some 0,some 1,some 2,none] rfl rfl ⟨_,rfl,rfl,Nat.zero_le 1⟩ ⟨⟨_,rfl,rfl,rfl,rfl,rfl,fun a b ha hb=>regE rfl rfl⟩,boxK rfl rfl,⟨_,rfl,rfl,rfl,rfl,rfl,fun a b ha hb=>by
   obtain rfl:=Nat.lt_one_iff.1 ha
   match b,hb with
   | 0,_=>exact⟨_,rfl,rfl⟩
   | 1,_=>exact⟨_,rfl,rfl⟩
   | 2,_=>exact rfl⟩,Nat.zero_mul m,trivial⟩ ⟨⟨_,rfl,rfl⟩,⟨_,rfl,rfl,rfl⟩,⟨_,rfl,rfl,rfl⟩,⟨_,rfl,rfl,rfl⟩,⟨_,rfl,rfl⟩,trivial⟩
 have n1:=n1 i
 have e1:=hnm i hi
 conv=>whnf
 refine bcase (fun(h:decide ((i:Int)<n)=true)=>?_) fun(h:decide ((i:Int)<n)=false)=>?_
 ·have h:=of_decide_eq_true h
  have n1:=fun j=>n1 j (by omega)
  have ap:∀ j,j<m->∀ a,(if a=i*m+j then nq (G i j)else nq (G (a / m) (a%m)))=nq (G (a / m) (a%m)):=fun j hj a=>by
   split
   ·rename_i e
    rw[e,mat_next G hj (show i<n by omega)]
   ·rfl
  conv=>whnf
  refine loop_ints1 (fun j:Nat=>gst [(0,.c (.int .i64 m)),(1,.c (.gs 0 0)),(4,.c (.p 1 0 3 0 0)),(5,.c (.p 2 0 3 0 0)),(6,.c (.int .i64 i)),(7,.c (.int .i64 j))] [⟨22,1,n,fun k _=>nql m (G k)⟩,⟨24,3,1,boxF [.int .i64 0,.int .i64 0,.nil]⟩,⟨24,3,1,boxF [.int .i64 n,.int .i64 m,.gs 3 0]⟩,gqr (i*m+j) fun k=>ofR (G (k / m) (k%m))]) (fun j=>m-j) (fun j=>j≤m) 0 rfl ?_ (Nat.zero_le _) fun j hj=>?_
  ·exact Weak.genT [some 0,some 1,some 2,some 3] rfl rfl ⟨_,rfl,rfl,Nat.zero_le 1⟩ ⟨⟨_,rfl,rfl,rfl,rfl,rfl,fun a b ha hb=>regE rfl rfl⟩,boxK rfl rfl,box3 rfl rfl rfl rfl ⟨rfl,rfl,rfl,rfl⟩ rfl rfl rfl,⟨_,rfl,rfl,rfl,rfl,rfl,fun a b ha hb=>regE rfl (ql_clos (c:=fun k=>ofR (G (k / m) (k%m))) a b)⟩,trivial⟩ ⟨⟨_,rfl,rfl⟩,⟨_,rfl,rfl,rfl⟩,⟨_,rfl,rfl,rfl⟩,⟨_,rfl,rfl,rfl⟩,⟨_,rfl,rfl⟩,⟨_,rfl,rfl⟩,trivial⟩
  have n1:=n1 j
  have ap:=ap j
  conv=>whnf
  refine bcase (fun(h1:decide ((j:Int)<m)=true)=>?_) fun(h1:decide ((j:Int)<m)=false)=>?_
  ·have h1:=of_decide_eq_true h1
   have n1:=n1 (by omega)
   have ap:=ap (by omega)
   conv=>whnf
   refine⟨by omega,by show(i:Int)<((n:Nat):Int);omega,?_⟩
   conv=>whnf
   refine⟨by omega,by omega,?_⟩
   conv=>whnf
   refine⟨_,n1,?_⟩
   conv=>whnf
   refine .inr ⟨rfl,?_⟩
   conv=>whnf
   refine⟨by show i*m+j+1≤16777216;omega,fun a b ha hb=>one_nq (G i j) _ a b ha hb,?_⟩
   conv=>whnf
   refine⟨i64 (by omega) (by omega),?_⟩
   conv=>whnf
   refine⟨j+1,by omega,Weak.genT [some 0,some 1,some 2,some 3] rfl rfl ⟨_,rfl,rfl,Nat.zero_le 1⟩ ⟨⟨_,rfl,rfl,rfl,rfl,rfl,fun a b ha hb=>regE rfl rfl⟩,boxK rfl rfl,box3 rfl rfl rfl rfl ⟨rfl,rfl,rfl,rfl⟩ rfl rfl rfl,⟨_,rfl,rfl,rfl,rfl,rfl,fun a b ha hb=>regE ?_ (ql_clos (c:=fun k=>ofR (G (k / m) (k%m))) a b)⟩,trivial⟩ ⟨⟨_,rfl,rfl⟩,⟨_,rfl,rfl,rfl⟩,⟨_,rfl,rfl,rfl⟩,⟨_,rfl,rfl,rfl⟩,⟨_,rfl,rfl⟩,⟨_,rfl,rfl⟩,trivial⟩,by omega⟩
   exact appG (sz:=4) (g:=fun k=>nq (G (k / m) (k%m))) (g':=fun k=>nq (G (k / m) (k%m))) (l:=nq (G i j)) (ap a) (Nat.le_refl (i*m+j+1)) ha
  ·have h1:=of_decide_eq_false h1
   have ej:i*m+j=(i+1)*m:=by rw[Nat.succ_mul,show j=m by omega]
   conv=>whnf
   refine⟨i64 (by omega) (by omega),?_⟩
   conv=>whnf
   exact⟨i+1,by omega,Weak.genT [some 0,some 1,some 2,some 3] rfl rfl ⟨_,rfl,rfl,Nat.zero_le 1⟩ ⟨⟨_,rfl,rfl,rfl,rfl,rfl,fun a b ha hb=>regE rfl rfl⟩,boxK rfl rfl,box3 rfl rfl rfl rfl ⟨rfl,rfl,rfl,rfl⟩ rfl rfl rfl,⟨_,rfl,rfl,rfl,ej,rfl,fun a b ha hb=>regE rfl (ql_clos (c:=fun k=>ofR (G (k / m) (k%m))) a b)⟩,trivial⟩ ⟨⟨_,rfl,rfl⟩,⟨_,rfl,rfl,rfl⟩,⟨_,rfl,rfl,rfl⟩,⟨_,rfl,rfl,rfl⟩,⟨_,rfl,rfl⟩,trivial⟩,by omega⟩
 ·have h:=of_decide_eq_false h
  have e:i=n:=by omega
  subst e
  conv=>whnf
  refine Weak.genT (tl:=[(0,.g (matL i m G))]) (xs:=[⟨22,1,i,fun k _=>nql m (G k)⟩]) [some 0] rfl rfl ⟨_,rfl,rfl,Nat.zero_le 1⟩ ⟨⟨_,rfl,rfl,rfl,rfl,rfl,fun a b ha hb=>regE rfl rfl⟩,trivial⟩ ?_
  exact⟨.inr ⟨_,rfl,⟨_,rfl,rfl⟩,⟨_,rfl,rfl⟩,.inr (.inr ⟨3,_,rfl,rfl,rfl,rfl,Nat.zero_le _,rfl,rfl,fun x y _ _=>⟨rfl,ql_clos (c:=fun k=>ofR (G (k / m) (k%m))) x y⟩⟩),trivial⟩,trivial⟩
theorem dof_ver {D:Nat->Prop} {l l':Loc} {t sz n u u':Nat} {f g:Nat->Nat->Cell} {b:Nat} (e:l.b=l'.b) (h:Dof D [l] [⟨t,sz,n,u,0,f⟩] b):Dof D [l'] [⟨t,sz,n,u',0,g⟩] b:=by
 rcases h with h | ⟨k,l1,B,h1,h2,h3,h4⟩
 ·exact .inl h
 ·match k,h1,h2 with
  | 0,h1,h2 =>
   cases h1
   cases h2
   exact .inr ⟨0,_,_,rfl,rfl,h3,e ▸ h4⟩
  | k+1,h1,_=>simp at h1
theorem sat_ver {D : Nat → Prop} {w0 : Base} {r : Bool} {l : Loc} {t sz n u : Nat} {f g : Nat → Nat → Cell} {w : World} (u' : Nat) (h : Sat D w0 r [l] [⟨t, sz, n, u, 0, f⟩] w) (hf : ∀ i j, i < n → j < sz → f i j = g i j ∧ (g i j).clos = true) : Sat D w0 r [⟨u', l.b, l.n, l.c⟩] [⟨t, sz, n, u', 0, g⟩] w where
 below:=h.below
 d0:=h.d0
 len:=rfl
 at_:=fun k l1 B h1 h2=>by
  match k,h1,h2 with
  | 0,h1,h2 =>
   cases h1
   cases h2
   intro hst
   refine⟨rfl,?_⟩
   rcases(h.at_ 0 l _ rfl rfl (Nat.zero_le 1)).2 with q | ⟨b,cap,cs,q1,q2,q3,q4,q5,q6,q7,q8⟩
   ·exact .inl q
   ·refine .inr ⟨b,cap,cs,q1,q2,q3,q4,q5,q6,q7,fun i j hi hj=>?_⟩
    obtain⟨x,e1,e2⟩:=q8 i j hi hj
    obtain⟨e3,e4⟩:=hf i j hi hj
    have e2:CRel (Dof D [l] [⟨t,sz,n,u,0,f⟩]) w _ (f i j) x:=e2
    rw[e3]at e2
    refine⟨x,e1,CRel.step (Ext.refl _ _) (fun b _ hb=>dof_ver (l:=⟨u',l.b,l.n,l.c⟩) (l':=l) (u':=u) (g:=f) rfl hb) (LocsLe.refl _) (CRel.clos e2 e4)⟩
  | k+1,h1,_=>simp at h1
 dist:=fun i j li lj Bi Bj b h1 h2 _ _ _ _ _ _=>by
  match i,j,h1,h2 with
  | 0,0,_,_=>rfl
  | 0,j+1,_,h2=>simp at h2
  | i+1,_,h1,_=>simp at h1
 noU:=fun hr b o d hb=>h.noU hr b o d (dof_ver (l:=⟨u',l.b,l.n,l.c⟩) (l':=l) rfl hb)
theorem fnm_ver {P : Program} {r : Bool} {f : FuncId} {t sz n u : Nat} {F G : Nat → Nat → Cell} {args args' : List V} {X : V} (h : FnM P r f ⟨t, sz, n, 0, 0, G⟩ args X ⟨t, sz, n, 0, 0, G⟩ []) (hF : ∀ i j, i < n → j < sz → F i j = G i j ∧ (G i j).clos = true)
  (ha:∀ D w (l:Loc) vs,l.u=u->VRels D w [l] args' vs->VRels D w [⟨0,l.b,l.n,l.c⟩] args vs) (hX:X.clos=true):FnM P r f ⟨t,sz,n,u,0,F⟩ args' X ⟨t,sz,n,u,0,F⟩ []:=by
 refine⟨h.1,fun D w0 l w vs hs hv=>?_⟩
 have hu:l.u=u:=(hs.at_ 0 l _ rfl rfl (Nat.zero_le 1)).1
 have hs0:=sat_ver 0 hs hF
 have hv0:=VRels.step (D':=Dof D [⟨0,l.b,l.n,l.c⟩] [⟨t,sz,n,0,0,G⟩]) (fun b _ hb=>dof_ver (l:=⟨0,l.b,l.n,l.c⟩) (l':=l) (u':=u) (g:=F) rfl hb) (ha _ _ l vs hu hv)
 refine(h.2 D w0 _ w vs hs0 hv0).mono ?_
 rintro e w' ⟨v,l',ρ',he,q1,q2,q3⟩
 obtain rfl:ρ'=[]:=by have:=q1.len;simpa using this
 obtain⟨l2,e1,e2,_⟩:=q2 0 _ rfl
 cases e1
 have hu':l'.u=0:=(q1.at_ 0 l' _ rfl rfl (Nat.zero_le 1)).1
 have e3:l'=⟨0,l.b,l.n,l.c⟩:=e2 hu'
 have hs2:=sat_ver u q1 fun i j hi hj=>⟨(hF i j hi hj).1.symm,by rw[(hF i j hi hj).1];exact(hF i j hi hj).2⟩
 have e4:(⟨u,l'.b,l'.n,l'.c⟩:Loc)=l:=by
  rw[e3,← hu]
 rw[e4]at hs2
 refine⟨v,l,[],he,hs2,LocsLe.refl _,?_⟩
 have q4:VRel (Dof D [l] [⟨t,sz,n,u,0,F⟩]) w' [l'] X v:=q3.step (Ext.refl _ _) (fun b _ hb=>dof_ver (l:=l) (by rw[e3]) hb) (LocsLe.refl _)
 exact VRel.clos q4 hX
theorem app_rows {n k:Nat} {G:Nat->Nat->Rat} {v:Nat->Rat} (a b:Nat) (ha:a<k+1) (hb:b<1):(appF k (fun a _=>nql n (G a)) (rowF 1 [nql n v]) a b).clos=true:=by
 obtain rfl:b=0:=by omega
 unfold appF
 split
 ·rfl
 ·rw[show a-k=0 by omega]
  rfl
theorem rcompanion_ok {N n:Nat} {q:Nat->RawR} {F w:Nat->Rat} (hN:N≤1024) (hF:Q.qx N (fun i=>(q i).val)=F) (hT:Q.tq F N=n+1) (h1:1≤n) (hn:n≤64) (hq:∀ i,i<N->wq (q i)/\zlen (q i).num.val≤65535/\zlen (q i).den.val≤65535) (hl:∀ i,qlen (F i)≤30000) (hw:∀ i,w i = -(F i / F n)):FnOK Tryz.prog false 19 [.c (ql N q)] (.g (matL n n (cpn n w))):=by
 obtain⟨M,hM⟩:∃ M:Nat->Rat,M=fun i=>F i / F n:=⟨_,rfl⟩
 have m0:=monic6_ok (M:=M) hN hF hT hq hl fun i=>by rw[hM]
 have lM:∀ i,qlen (M i)≤60000:=fun i=>by rw[hM];exact q_div (hl i) (hl n) (by omega)
 have lw:∀ i,qlen (w i)≤60001:=fun i=>by
  rw[hw,show -(F i / F n) = -1*M i by rw[hM,Rat.neg_mul,Rat.one_mul]]
  exact Nat.le_trans (q_mul (L:=1) (by decide) (lM i) (by omega)) (by omega)
 have z0:=rzeros_ok (n:=n) (by omega)
 have o1:FnOK Tryz.prog false 52 [.c (.int .i64 (-1))] (.g (nq (-1))):=rqof_ok (n := -1) (by omega) (by omega)
 have c0:FnOK Tryz.prog false 63 [.c (nql n fun _=>0),.g (nq (-1)),.c (nql n M)] (.c (nql n (cpn n w (n-1)))):=by
  have h:=rcomb_ok (n:=n) (X:=fun _=>0) (Y:=M) (c := -1) (by omega) (fun _ _=>by decide) (fun i _=>Nat.le_trans (lM i) (by decide)) (by decide)
  rwa [show(fun i=>(0:Rat) + -1*M i)=cpn n w (n-1)from funext fun j=>by
   unfold cpn
   rw[if_pos (by omega),hw,hM,Rat.zero_add,Rat.neg_mul,Rat.one_mul]]at h
 have c0:FnOK Tryz.prog false 63 [.c (nql n fun _=>0),.g (nq (-1)),.c (.row 4 ((n:Int)-0).toNat fun i j=>qlF (fun k=>ofR (M k)) ((0:Int).toNat+i) j)] (.c (nql n (cpn n w (n-1)))):=by
  have e:(fun i j=>qlF (fun k=>ofR (M k)) ((0:Int).toNat+i) j)=qlF fun k=>ofR (M k):=funext fun i=>funext fun j=>by
   show qlF _ (0+i) j=_
   rw[Nat.zero_add]
  rw[show((n:Int)-0).toNat=n by omega,e]
  exact c0
 have u0:∀ k:Nat,k+1<n->FnOK Tryz.prog false 62 [.c (.int .i64 n),.c (.int .i64 ((k:Int)+1))] (.c (nql n (cpn n w k))):=fun k hk=>unit_ok (k:=k+1) (by omega) hk fun j=>by
  unfold cpn
  rw[if_neg (by omega)]
 have f0:∀ k,k+1=n->FnM Tryz.prog false 57 ⟨22,1,k+1,1,0,appF k (fun a _=>nql n (cpn n w a)) (rowF 1 [nql n (cpn n w (n-1))])⟩ [.c (.int .i64 n),.c (.gs 0 1)] (.g (matL n n (cpn n w))) ⟨22,1,k+1,1,0,appF k (fun a _=>nql n (cpn n w a)) (rowF 1 [nql n (cpn n w (n-1))])⟩ []:=fun k hk=>by
  subst hk
  refine fnm_ver (FnT.m (rof_t (n:=k+1) (m:=k+1) (G:=cpn (k+1) w) hn hn fun i j _ _=>?_)) (fun a b ha hb=>⟨?_,rfl⟩) (fun D w l vs hu h=>?_) rfl
  ·unfold cpn
   split
   ·exact Nat.le_trans (lw j) (by decide)
   ·split
    ·decide
    ·decide
  ·obtain rfl:b=0:=by omega
   unfold appF
   by_cases c:a<k
   ·rw[if_pos c]
   ·rw[if_neg c,show a-k=0 by omega,show a=k by omega]
    rfl
  ·match vs,h with
   | [v1,v2],⟨h1,⟨l',e1,_,e3⟩,_⟩ =>
    cases e1
    exact⟨h1,⟨_,rfl,Nat.le_refl 0,fun _=>e3 hu⟩,trivial⟩
 clear hF hT hq hl hw hM lM lw
 generalize cpn n w=G at *
 refine fn_ok (E:=E0) E0_ok Tryz.func19 rfl mixed (by kernel_rfl) (by kernel_rfl) ?_
 conv=>whnf
 refine⟨_,m0,?_⟩
 conv=>whnf
 refine⟨i64 (by omega) (by omega),?_⟩
 conv=>whnf
 refine loop_ints (fun i:Nat=>gst [(2,.c (.p 0 0 3 0 0)),(3,.c (nql (n+1) M)),(4,.c (.int .i64 n)),(5,.c (.gs 1 0)),(6,.c (.int .i64 i))] [⟨24,3,1,boxF [.int .i64 0,.int .i64 0,.nil]⟩,⟨22,1,i,fun k _=>nql n (G k)⟩]) (fun i=>n-i) (fun i=>i+1≤n) 0 rfl (Weak.gen [some 0,none] rfl ⟨boxK rfl rfl,rfl,trivial⟩ ⟨⟨_,rfl,rfl,rfl⟩,.inl ⟨_,_,rfl,rfl,fun _ _ _ _=>rfl⟩,⟨_,rfl,by omega⟩,rfl,⟨_,rfl,rfl⟩,trivial⟩) h1 fun i hi=>?_
 have u0:=u0 i
 have f0:=f0 i
 conv=>whnf
 refine⟨i64 (by omega) (by omega),?_⟩
 conv=>whnf
 refine bcase (fun(h:decide ((i:Int)+1<n)=true)=>?_) fun(h:decide ((i:Int)+1<n)=false)=>?_
 ·have h:=of_decide_eq_true h
  have u0:=u0 (by omega)
  conv=>whnf
  refine⟨i64 (by omega) (by omega),?_⟩
  conv=>whnf
  refine⟨_,u0,?_⟩
  conv=>whnf
  refine⟨by show i+1≤16777216;omega,fun a b ha hb=>?_,?_⟩
  ·match a,b,ha,hb with
   | 0,0,_,_=>exact⟨rfl,fun h=>by cases h⟩
  conv=>whnf
  refine⟨i64 (by omega) (by omega),?_⟩
  conv=>whnf
  refine⟨i+1,by omega,Weak.gen [some 0,some 1] rfl ⟨boxK rfl rfl,⟨_,rfl,rfl,rfl,rfl,rfl,fun a b ha hb=>?_⟩,trivial⟩ ⟨⟨_,rfl,rfl,rfl⟩,.inl ⟨_,_,rfl,rfl,fun _ _ _ _=>rfl⟩,⟨_,rfl,rfl⟩,⟨_,rfl,rfl,rfl⟩,⟨_,rfl,rfl⟩,trivial⟩,by omega⟩
  exact regApp (t:=fun k=>nql n (G k)) ha hb (fun _=>regE rfl rfl) (.inl ⟨_,_,rfl,rfl,fun _ _ _ _=>rfl⟩)
 ·have h:=of_decide_eq_false h
  have e:i+1=n:=by omega
  have f0:=f0 e
  conv=>whnf
  refine⟨_,z0,?_⟩
  conv=>whnf
  refine⟨_,o1,?_⟩
  conv=>whnf
  refine⟨Int.le_refl _,by omega,?_⟩
  conv=>whnf
  refine⟨by omega,?_⟩
  conv=>whnf
  refine⟨_,c0,?_⟩
  conv=>whnf
  refine .inr ⟨rfl,?_⟩
  conv=>whnf
  refine⟨by show i+1≤16777216;omega,fun a b ha hb=>?_,?_⟩
  ·match a,b,ha,hb with
   | 0,0,_,_=>exact⟨rfl,fun h=>by cases h⟩
  conv=>whnf
  refine .inl ⟨1,_,_,_,_,f0,rfl,rfl,fun _ a b ha hb=>app_rows a b ha hb,fun _ a b ha hb=>app_rows a b ha hb,rfl,rfl,rfl,⟨.tmp 35,.tail _ (.head _),rfl⟩,rfl,rfl,?_⟩
  conv=>whnf
  exact⟨rfl,Sub.refl _⟩
end Mx
end Go.Proofs.YtkmbnldginonbaaGreat
/- What is read as data, in abstract words; the last step of a law's row. -/
namespace Go.Proofs.YtkmbnldginonbaaGreat
open Go.ChangeShapes Go.WideShapes Go.ChangeAt Go.RowKit
theorem lawOwn:ownKnob Tryz.prog.godebug=none:=by kernel_rfl
theorem lawLaid:laidOutB Tryz.prog=true:=by kernel_rfl
section
variable {H:Type} {enc:TypeId × Value->H} {P:Program}
theorem post_below {f : Func} {s : ChangeSpec} {apart fresh handsOn again : Bool} {W W' : World} {args : Array Value} {v : Value} {ds gs : List (DataW H)} {before pa pv : List MemPlace}
  (hW:DataW.Whole enc P f.params.toList s.vars apart W args.toList ds gs before)
  (hres:∀(b:Nat) (sp:Nat->Bool) (hd:Bool),DataW.TrodAll enc P W' b sp hd f.resultTypes.toList (v.resultList f.resultTypes.size) (s.fn H (ds++gs)).results [])
  (hargs:∀ sp:Nat->Bool,(∀ p∈before,sp p.block=true)->DataW.TrodAll enc P W' 0 sp true f.params.toList args.toList (s.fn H (ds++gs)).args pa)
  (hvars:∀ sp:Nat->Bool,(∀ p∈before,sp p.block=true)->DataW.TrodVars enc P W' sp s.vars (s.fn H (ds++gs)).vars pv)
  (hps:before=pa++pv) (hb:Below W.heap.size W W')
  (hok:∀(j:Nat) (t:TypeId) (r:Value),f.resultTypes[j]? = some t->(v.resultList f.resultTypes.size)[j]? = some r->Value.okWide P W' .any 0 t r) :
  s.post enc P f apart fresh handsOn again W args v W':=by
 have hlt:∀ p∈before,p.block<W.heap.size:=fun p hp=>hW.lt p hp
 have hold:∀ p∈before,(fun b=>decide (b<W.heap.size)) p.block=true:=fun p hp=>by simpa using hlt p hp
 refine⟨ds,gs,before,[],pa,pv,hW,hres _ _ _,hargs _ hold,hvars _ hold,World.keptBut_mono (fun p hp=>⟨hp,?_⟩) (hb.frame (·∈before)),fun _=>?_⟩
 ·rw[hps,List.mem_append]at hp
  exact Or.inr hp
 ·obtain⟨_,_,_,_,_,hz,hn⟩:=hW
  refine⟨hok,_,_,([]++pa)++pv,⟨[]++pa,pv,trodAll_append (hargs _ (fun _ _=>rfl)) (hres _ _ _),hvars _ (fun _ _=>rfl),rfl,?_,?_⟩,?_⟩
  ·intro b off hp
   have hin:MemPlace.cell b off∈before:=by rw[hps];simpa using hp
   rw[hb.frozen (hlt _ hin)]
   exact hz b off hin
  ·intro ha
   have:=hn ha
   rw[hps]at this
   simpa using this
  ·intro p hp _
   rw[hps]
   simpa using hp
theorem Below.trodS {t : TypeId} (hl : laidOutB P = true) (hr : P.readableRec t = true) (hrow : t < P.types.size) {W W' : World} {sp : Nat → Bool} {v : Value} {d : DataW H} {ps : List MemPlace}
  (h:DataW.Trod enc P W 0 (fun _=>true) true t v d ps) (hb:Below W.heap.size W W') (hlt:∀ x∈ps,x.block<W.heap.size) (hs:∀ x∈ps,sp x.block=true) :
  DataW.Trod enc P W' 0 sp true t v d ps :=
 WideElems.Trod_stays hl hr hrow h (fun x hx=>hb.same (hlt x hx)) hs
end
section
variable {H:Type} {enc:TypeId × Value->H} {P:Program} {w:World} {sp:Nat->Bool} {held:Bool}
theorem cell_int {t fuel:Nat} {k:IntKind} {cs:List Value} {x:DataW H × List MemPlace} (ht:P.underlying t=some (.int k)) (h:DataW.trod enc P w 0 sp held fuel t cs=some x):∃ n,cs=[.int k n]/\(Lit.int k n).wf=true:=by
 obtain⟨n,h1,_,h2⟩:=DataW.trod_int ht h
 exact⟨n,h1,h2⟩
theorem okWide_slice {r:Reach} {b0 t e:Nat} {v:Value} (ht:P.underlying t=some (.slice e)) (hval:Value.okWide P w r b0 t v):v.cells.toList=[v]:=by
 cases v with
 | agg cs=>simp[Value.okWide,ht,Cell.okWide,Cell.ok]at hval
 | _=>rfl
end
section
variable {H:Type} {enc:TypeId × Value->H} {w:World} {sp:Nat->Bool} {held:Bool}
end
theorem law_call {r:Bool} {f:FuncId} {al:List V} (h:FnOK Tryz.prog r f al (.c (.bool true))) {w:World} {vs:List Value} (hv:VRels (fun _=>False) w [] al vs):Calls Tryz.prog f vs.toArray w fun e w'=>e = .returned (.bool true)/\Below w.heap.size w w' :=
 (h.2 (fun _=>False) w vs (fun b hb=>hb.elim) (fun _ b o d hb=>hb.elim) hv).mono fun _ _ ⟨v,he,hv,hb⟩=>⟨by rw[he,show v = .bool true from hv],hb⟩
end Go.Proofs.YtkmbnldginonbaaGreat
/- Lists opened: of digits, of large integers, of fractions; what the bulk of their data bounds. -/
namespace Go.Proofs.YtkmbnldginonbaaGreat
open Go.ChangeShapes Go.WideShapes Go.ChangeAt Go.RowKit
section
variable {H:Type} {enc:TypeId × Value->H} {P:Program} {w:World} {sp:Nat->Bool} {held:Bool}
theorem bulk_one (d:DataW H):1≤Rows.uptoBulk d:=by
 cases d with
 | lit l=>cases l <;> simp[Rows.uptoBulk]
 | nil=>simp[Rows.uptoBulk]
 | ptr d=>simp[Rows.uptoBulk]
 | slice elems spare=>simp[Rows.uptoBulk]
 | agg parts=>simp[Rows.uptoBulk]
 | iface t d=>simp[Rows.uptoBulk]
 | map entries=>simp[Rows.uptoBulk]
 | held h=>simp[Rows.uptoBulk]
theorem bulk_part {d:DataW H} {l:List (DataW H)} (h:d∈l):Rows.uptoBulk d≤Rows.uptoBulkAll l:=by
 induction l with
 | nil=>cases h
 | cons x r ih =>
  simp only[Rows.uptoBulkAll]
  cases List.mem_cons.1 h with
  | inl e=>subst e;omega
  | inr e=>have:=ih e;omega
theorem bulk_len (l:List (DataW H)):l.length≤Rows.uptoBulkAll l:=by
 induction l with
 | nil=>simp[Rows.uptoBulkAll]
 | cons x r ih=>have:=bulk_one x;simp only[Rows.uptoBulkAll,List.length_cons];omega
theorem free_addr {a:Addr} {sz:Nat} {cs:List Value} (h0:0<sz) (h:w.cells? 0 (a.add (0*sz)) sz=some cs):∃ b o,a=⟨b,o,none⟩/\b<w.heap.size:=by
 obtain⟨b,o,spt⟩:=a
 have hs:spt=none/\b<w.heap.size:=by
  obtain⟨_,h2,h3⟩:=World.cells?_some h
  have h4:=h3 0 h0
  rw[Nat.zero_mul,Addr.add,if_pos rfl,Addr.add,if_pos rfl,List.getElem?_eq_getElem (by omega)]at h4
  unfold World.cell? at h4
  split at h4
  ·rename_i hh
   refine⟨?_,(Array.getElem?_eq_some_iff.1 hh).1⟩
   split at h4
   ·cases h4
   ·rename_i hs;simpa using hs
  ·cases h4
 exact⟨b,o,by rw[hs.1],hs.2⟩
theorem crels_get {D : Nat → Prop} {ρ : List Loc} : ∀ {l : List Cell} {vs : List Value}, CRels D w ρ l vs → ∀ j, j < l.length → ∃ u, vs[j]? = some u ∧ CRel D w ρ (l.getD j .any) u
 | [],_,_,j,hj=>absurd hj (Nat.not_lt_zero j)
 | _ :: _,[],h,_,_=>h.elim
 | x :: l,v :: vs,h,j,hj=>by
  cases j with
  | zero=>exact⟨v,rfl,h.1⟩
  | succ j=>exact crels_get h.2 j (by simpa using hj)
theorem cell_list {α : Type} [Inhabited α] {t e sz fuel : Nat} {cs : List Value} {x : DataW H × List MemPlace} {G : α → List Cell} {Q : α → DataW H → Prop} (ht : P.underlying t = some (.slice e)) (hk : P.cellsOf e = sz) (h0 : 0 < sz) (hG : ∀ a, (G a).length = sz)
  (one:∀(n:Nat) (cs':List Value) (y:DataW H × List MemPlace),DataW.trod enc P w 0 sp held n e cs'=some y->∃ a:α,CRels (fun _=>False) w [] (G a) cs'/\Q a y.1)
  (h:DataW.trod enc P w 0 sp held fuel t cs=some x) :
  ∃(v:Value) (n:Nat) (f:Nat->α),cs=[v]/\CRel (fun _=>False) w [] (.row sz n fun i j=>(G (f i)).getD j .any) v/\n≤Rows.uptoBulk x.1/\∀ i,i<n->∃ d,Q (f i) d/\Rows.uptoBulk d≤Rows.uptoBulk x.1:=by
 rcases DataW.trod_slice ht h with⟨rfl,rfl⟩ | ⟨a,len,cap,elems,rest,n,_,rfl,hx,_,hl,hm,hlen,hel,_⟩
 ·exact⟨_,0,fun _=>default,rfl,⟨none,0,rfl,Nat.le_refl _,fun h=>absurd h (Nat.lt_irrefl 0)⟩,Nat.zero_le _,fun i hi=>absurd hi (Nat.not_lt_zero i)⟩
 ·have get:∀ i (hi:i<len),∃ b:α,(∃ cs',w.cells? 0 (a.add (i*sz)) sz=some cs'/\CRels (fun _=>False) w [] (G b) cs')/\Q b (elems[i]'(by omega)).1:=by
   intro i hi
   have:=hel i hi
   rw[hk,List.getElem?_eq_getElem (by omega),Option.bind_eq_some_iff]at this
   obtain⟨cs',h1,h2⟩:=this
   obtain⟨b,h3,h4⟩:=one n cs' _ h2
   exact⟨b,⟨cs',h1,h3⟩,h4⟩
  have hbulk:elems.length≤Rows.uptoBulk x.1/\∀ i (hi:i<len),Rows.uptoBulk (elems[i]'(by omega)).1≤Rows.uptoBulk x.1:=by
   rw[hx]
   simp only[Rows.uptoBulk]
   refine⟨?_,fun i hi=>?_⟩
   ·have:=bulk_len (elems.map (·.1))
    simp only[List.length_map]at this
    omega
   ·have:=bulk_part (l:=elems.map (·.1)) (d:=(elems[i]'(by omega)).1) (List.mem_map_of_mem (List.getElem_mem _))
    omega
  obtain⟨f,hf⟩:∃ f:Nat->α,∀ i (hi:i<len),(∃ cs',w.cells? 0 (a.add (i*sz)) sz=some cs'/\CRels (fun _=>False) w [] (G (f i)) cs')/\Q (f i) (elems[i]'(by omega)).1 :=
   ⟨fun i=>if h:i<len then(get i h).choose else default,fun i hi=>by
    simp only[dif_pos hi]
    exact(get i hi).choose_spec⟩
  refine⟨_,len,f,rfl,⟨_,cap,rfl,hl,fun hn=>?_⟩,by omega,fun i hi=>⟨_,(hf i hi).2,hbulk.2 i hi⟩⟩
  obtain⟨cs0,c1,_⟩:=(hf 0 hn).1
  obtain⟨b,o,rfl,hb⟩:=free_addr h0 c1
  refine⟨b,o,rfl,hb,id,fun i j hi hj=>?_⟩
  obtain⟨cs',c1,c2⟩:=(hf i hi).1
  obtain⟨_,h2,h3⟩:=World.cells?_some c1
  have h4:=h3 j hj
  obtain⟨u,hu,hr⟩:=crels_get c2 j (by rw[hG];exact hj)
  rw[add_plain,add_plain,hu]at h4
  exact⟨u,by rw[show o+(i*sz+j)=o+i*sz+j by omega];exact h4,hr⟩
theorem cell_mag {t e fuel:Nat} {cs:List Value} {x:DataW H × List MemPlace} (ht:P.underlying t=some (.slice e)) (hk:P.cellsOf e=1) (he:P.underlying e=some (.int .u32)) (h:DataW.trod enc P w 0 sp held fuel t cs=some x):∃(v:Value) (l:List Nat),cs=[v]/\CRel (fun _=>False) w [] (dsC l) v/\Dg.ok l/\l.length≤Rows.uptoBulk x.1:=by
 obtain⟨v,n,f,h1,h2,h3,h4⟩:=cell_list (G:=fun a:Nat=>[Cell.int .u32 a]) (Q:=fun a _=>a<4294967296) ht hk (by decide) (fun _=>rfl) (fun n cs' y hy=>by
  obtain⟨k,e1,hw⟩:=cell_int he hy
  have hw:0≤k/\k<4294967296:=by
   simp[Lit.wf]at hw
   have h1:(IntKind.u32.min:Int)=0:=by decide
   have h2:(IntKind.u32.max:Int)=4294967295:=by decide
   omega
  refine⟨k.toNat,?_,by omega⟩
  subst e1
  exact⟨by show Value.int .u32 k = .int .u32 (k.toNat:Int);rw[Int.toNat_of_nonneg hw.1],trivial⟩) h
 refine⟨v,(List.range n).map f,h1,?_,fun d hd=>?_,by simpa using h3⟩
 ·refine subRowG (by simp) (fun i j hi hj=>?_) (fun _=>False) w v h2
  have hi:i<n:=by simpa using hi
  obtain rfl:=Nat.lt_one_iff.1 hj
  simp[List.getD,hi]
 ·obtain⟨i,hi,rfl⟩:=List.mem_map.1 hd
  obtain⟨_,h5,_⟩:=h4 i (List.mem_range.1 hi)
  exact h5
instance:Inhabited RawZ:=⟨⟨false,[]⟩⟩
instance:Inhabited RawR:=⟨⟨default,default⟩⟩
end
section
variable {H:Type} {enc:TypeId × Value->H} {w:World} {sp:Nat->Bool} {held:Bool}
theorem cBool:Tryz.prog.cellsOf 4=1:=by kernel_rfl
theorem cMag:Tryz.prog.cellsOf 34=1:=by kernel_rfl
theorem cU32:Tryz.prog.cellsOf 119=1:=by kernel_rfl
theorem cBig:Tryz.prog.cellsOf 36=2:=by kernel_rfl
theorem cRat:Tryz.prog.cellsOf 38=4:=by kernel_rfl
set_option maxRecDepth 100000 in
theorem one_int {n:Nat} {cs:List Value} {y:DataW H × List MemPlace} (h:DataW.trod enc Tryz.prog w 0 sp held n 36 cs=some y):∃ a:RawZ,CRels (fun _=>False) w [] (zr a) cs/\Dg.ok a.ds/\a.ds.length≤Rows.uptoBulk y.1:=by
 obtain⟨xs,m,_,rfl,hl,hlen,hf⟩:=DataW.trod_struct Tryz.underlying36 h
 match xs,hlen with
 | [y0,y1],_ =>
  have h0:DataW.trod enc Tryz.prog w 0 sp held m 4 ((cs.drop 0).take (Tryz.prog.cellsOf 4))=some y0:=by simpa using hf 0 _ rfl
  have h1:DataW.trod enc Tryz.prog w 0 sp held m 34 ((cs.drop 1).take (Tryz.prog.cellsOf 34))=some y1:=by simpa using hf 1 _ rfl
  rw[cBool]at h0
  rw[cMag]at h1
  rw[cBig]at hl
  obtain⟨s,e0,_⟩:=DataW.trod_bool Tryz.underlying4 h0
  obtain⟨v,l,e1,hv,ho,hb⟩:=cell_mag Tryz.underlying34 cU32 Tryz.underlying119 h1
  match cs,hl,e0,e1 with
  | [x0,x1],_,e0,e1 =>
   simp at e0 e1
   subst e0 e1
   refine⟨⟨s,l⟩,⟨rfl,hv,trivial⟩,ho,?_⟩
   show l.length≤_
   simp only[List.map,Rows.uptoBulk,Rows.uptoBulkAll]
   omega
set_option maxRecDepth 100000 in
theorem one_rat {n:Nat} {cs:List Value} {y:DataW H × List MemPlace} (h:DataW.trod enc Tryz.prog w 0 sp held n 38 cs=some y):∃ a:RawR,CRels (fun _=>False) w [] (rr a) cs/\Rf.dgq a:=by
 obtain⟨xs,m,_,rfl,hl,hlen,hf⟩:=DataW.trod_struct Tryz.underlying38 h
 match xs,hlen with
 | [y0,y1],_ =>
  have h0:DataW.trod enc Tryz.prog w 0 sp held m 36 ((cs.drop 0).take (Tryz.prog.cellsOf 36))=some y0:=by simpa using hf 0 _ rfl
  have h1:DataW.trod enc Tryz.prog w 0 sp held m 36 ((cs.drop 2).take (Tryz.prog.cellsOf 36))=some y1:=by simpa using hf 1 _ rfl
  rw[cBig]at h0 h1
  rw[cRat]at hl
  obtain⟨a0,c0,d0,_⟩:=one_int h0
  obtain⟨a1,c1,d1,_⟩:=one_int h1
  match cs,hl,c0,c1 with
  | [x0,x1,x2,x3],_,c0,c1 =>
   exact⟨⟨a0,a1⟩,⟨c0.1,c0.2.1,c1.1,c1.2.1,trivial⟩,d0,d1⟩
end
end Go.Proofs.YtkmbnldginonbaaGreat
/- Fields and elements, opened. -/
namespace Go.Proofs.YtkmbnldginonbaaGreat
open Go.ChangeShapes Go.WideShapes Go.ChangeAt Go.RowKit
section
variable {H:Type} {enc:TypeId × Value->H} {w:World} {sp:Nat->Bool} {held:Bool}
end
end Go.Proofs.YtkmbnldginonbaaGreat
/- The law CharpolyNewton: its call, under what its argument reads as. -/
namespace Go.Proofs.YtkmbnldginonbaaGreat
open Go.ChangeShapes Go.WideShapes Go.ChangeAt Go.RowKit
section
variable {H:Type} {enc:TypeId × Value->H} {w:World} {sp:Nat->Bool} {held:Bool}
theorem slice_len {t e fuel:Nat} {cs:List Value} {x:DataW H × List MemPlace} {v:Value} {sz n:Nat} {f:Nat->Nat->Cell} (ht:Tryz.prog.underlying t=some (.slice e)) (h:DataW.trod enc Tryz.prog w 0 sp held fuel t cs=some x) (hc:cs=[v]) (hv:CRel (fun _=>False) w [] (.row sz n f) v):n≤9223372036854775807:=by
 obtain⟨A,c,rfl,_,_⟩:=hv
 rcases DataW.trod_slice ht h with⟨e1,_⟩ | ⟨a,len,cap,elems,rest,m,_,e1,_,_,hl,hm,_⟩
 ·rw[hc]at e1
  injection e1 with e2 _
  injection e2 with _ e3 _
  omega
 ·rw[hc]at e1
  injection e1 with e2 _
  injection e2 with _ e3 _
  have:cap≤2^63-1:=hm
  omega
set_option maxRecDepth 100000 in
theorem open_list {r:Reach} {b0 t:Nat} {v:Value} {d:DataW H} {ps:List MemPlace} (ht:Tryz.prog.underlying t=some (.slice 38)) (hval:Value.okWide Tryz.prog w r b0 t v) (hd:DataW.Trod enc Tryz.prog w 0 sp held t v d ps):∃(n:Nat) (q:Nat->RawR),n≤9223372036854775807/\VRel (fun _=>False) w [] (.c (ql n q)) v/\∀ j,j<n->Rf.dgq (q j):=by
 obtain⟨fuel,hf⟩:=hd
 obtain⟨u,n,f,h1,h2,h3,h4⟩:=cell_list (G:=rr) (Q:=fun a _=>Rf.dgq a) ht cRat (by decide) (fun _=>rfl) (fun n cs' y hy=>one_rat hy) hf
 have h5:=slice_len ht hf h1 h2
 rw[okWide_slice ht hval]at h1
 cases h1
 exact⟨n,f,h5,h2,fun j hj=>(h4 j hj).elim fun _ h=>h.1⟩
end
end Go.Proofs.YtkmbnldginonbaaGreat
/- The law CharpolyCompanions: its call, under what its argument reads as. -/
namespace Go.Proofs.YtkmbnldginonbaaGreat
open Go.ChangeShapes Go.WideShapes Go.ChangeAt Go.RowKit
namespace Mx
open Rf
open Classical in
theorem co_list {N:Nat} {q:Nat->RawR} (hN:N≤100) (hs:shq N q) (hd:∀ i,dgq (q i)) (hf:∀ i,(q i).Fit 1) (hz:∀ i,N≤i->(q i).val=0):FnOK Tryz.prog true 4 [.c (ql N q)] (.c (.bool true)):=by
 have hLIM:LIM=1099511627776:=rfl
 have s0:FnOK Tryz.prog true 15 [.c (ql N q)] (.c (.bool true)):=short11_ok (by omega) ⟨fun _=>hs,fun _=>rfl⟩
 obtain⟨F,hF⟩:∃ F:Nat->Rat,(fun i=>(q i).val)=F:=⟨_,rfl⟩
 have hFi:∀ i,(q i).val=F i:=fun i=>congrFun hF i
 have lF:∀ i,qlen (F i)≤1:=fun i=>by
  rw[← hFi]
  exact(hf i).qlen (by decide)
 have hfin:Q.Fin N F:=fun i hi=>by
  rw[← hFi]
  exact hz i hi
 have hx:Q.qx N (fun i=>(q i).val)=F:=by
  rw[hF]
  exact Q.qx_self hfin
 have hK:∀ i,i<N->(q i).Fit KD:=fun i _=>(hf i).mono (by decide)
 have hw0:∀ i,i<N->wq (q i)/\zlen (q i).num.val≤65535/\zlen (q i).den.val≤65535:=fun i hi=>by
  have a:=(hf i).zn
  have b:=(hf i).zd
  have c:=hs i hi
  exact⟨⟨⟨⟨(hd i).1,by omega⟩,⟨(hd i).2,by omega⟩⟩,by omega,by omega⟩,by omega,by omega⟩
 have d0:=degree6_ok (n:=N) (q:=q) (v:=F) (by omega) (fun i _=>hFi i) (fun i hi=>(hw0 i hi).1) fun i _=>Nat.le_trans (lF i) (by decide)
 by_cases hb:Q.tq F N≤1∨65<Q.tq F N
 ·exact co_bad hN s0 (companion_bad (by omega) hF rfl hb hK) d0.weak hb
 ·obtain⟨n,hn⟩:∃ n,Q.tq F N=n+1:=⟨Q.tq F N-1,by omega⟩
  have hn1:1≤n:=by omega
  have hn64:n≤64:=by omega
  rw[hn]at d0
  have h0:F n≠0:=Q.tq_top hn
  obtain⟨c,hc⟩:∃ c:Nat->Rat,∀ i,c i=F i / F n:=⟨_,fun _=>rfl⟩
  obtain⟨w,hw⟩:∃ w:Nat->Rat,∀ i,w i = -(F i / F n):=⟨_,fun _=>rfl⟩
  have lc:∀ i,qlen (c i)≤2:=fun i=>by
   rw[hc]
   exact q_div (lF i) (lF n) (by decide)
  have wc:∀ i,w i = -c i:=fun i=>by rw[hw,hc]
  have lw:∀ i,qlen (w i)≤2:=fun i=>by
   rw[wc,q_neg]
   exact lc i
  have c1:c n=1:=by rw[hc,Rat.div_def,Rat.mul_inv_cancel _ h0]
  have c0:∀ m,n<m->c m=0:=fun m hm=>by
   rw[hc,show F m=0 from by
    rcases Nat.lt_or_ge m N with h | h
    ·exact Q.tq_behind (n:=N) (k:=m) (by omega) h
    ·exact hfin m h,Rat.div_def,Rat.zero_mul]
  have k0:=companion_ok (w:=w) (L:=1) (by omega) hF hn hn1 hn64 hK (by decide) (by omega) (fun i _=>lF i) h0 fun i _=>hw i
  have r0:=(rcompanion_ok (w:=w) (by omega) hx hn hn1 hn64 hw0 (fun i=>Nat.le_trans (lF i) (by decide)) hw).weak (r:=true)
  have lG:∀ i j,i<n->j<n->qlen (cpn n w i j)≤524286:=fun i j hi hj=>Nat.le_trans (cpn_bq lw i j hi hj) (by decide)
  have m0:=(sameMat_n hn64 hn64 lG).weak (r:=true)
  by_cases h6:6<n
  ·exact co_far hN hn1 hn64 h6 s0 k0 d0.weak r0 m0
  ·have o0:=(monic6_ok (M:=c) (by omega) hx hn hw0 (fun i=>Nat.le_trans (lF i) (by decide)) hc).weak (r:=true)
   have e0:=(sameRats_n (n:=n+1) (v:=c) (by omega) fun i _=>Nat.le_trans (lc i) (by decide)).weak (r:=true)
   exact co_near hN hn1 (by omega) s0 k0 d0.weak r0 m0 (cpn_charpoly hn1 (by omega) wc lw c1 c0) (cpn_minpoly hn1 (by omega) wc lw lc c1 c0) o0 e0
open Classical in
theorem co_ok {N:Nat} {q:Nat->RawR} (hl:N≤9223372036854775807) (dp:∀ i,i<N->dgq (q i)):FnOK Tryz.prog true 4 [.c (ql N q)] (.c (.bool true)):=by
 by_cases hN:N≤100
 ·by_cases hs:shq N q
  ·obtain⟨q',hq'⟩:∃ q':Nat->RawR,∀ i,q' i=if i<N then q i else ofR 0:=⟨_,fun _=>rfl⟩
   have e1:∀ i,i<N->q' i=q i:=fun i hi=>by rw[hq',if_pos hi]
   have e2:∀ i,N≤i->q' i=ofR 0:=fun i hi=>by rw[hq',if_neg (by omega)]
   have f0:(ofR (0:Rat)).Fit 1:=ofR_fit q_zero
   have hd:∀ i,dgq (q' i):=fun i=>by
    rcases Nat.lt_or_ge i N with h | h
    ·rw[e1 i h]
     exact dp i h
    ·rw[e2 i h]
     exact⟨f0.num,f0.den⟩
   have hf:∀ i,(q' i).Fit 1:=fun i=>by
    rcases Nat.lt_or_ge i N with h | h
    ·rw[e1 i h]
     exact⟨(dp i h).1,(dp i h).2,(hs i h).1,(hs i h).2⟩
    ·rw[e2 i h]
     exact f0
   have k:=co_list (q:=q') hN (fun i hi=>by rw[e1 i hi];exact hs i hi) hd hf fun i hi=>by rw[e2 i hi,ofR_val]
   refine arg_ok k fun D' w vs g=>?_
   match vs,g with
   | [a],⟨g1,_⟩=>exact⟨subRowG rfl (fun i j hi _=>congrArg (fun z=>(rr z).getD j .any) (e1 i hi).symm) D' w a g1,trivial⟩
  ·exact co_big hN (short11_ok hl ⟨fun h=>absurd h (by decide),fun h=>absurd h hs⟩)
 ·exact co_long (by omega)
end Mx
section
set_option maxRecDepth 100000 in
theorem walk_CharpolyCompanions {H : Type} {enc : TypeId × Value → H} {W : World} {base : Nat} {v0 : Value} {d0 : DataW H} {p0 : List MemPlace}
  (u0:Value.okWide Tryz.prog W .any base 27 v0) (h0:DataW.Trod enc Tryz.prog W 0 (fun _=>true) true 27 v0 d0 p0) :
  Calls Tryz.prog 4 #[v0] W fun e w'=>e = .returned (.bool true)/\Below W.heap.size W w':=by
 obtain⟨N,q,hl,g0,dp⟩:=open_list Tryz.underlying27 u0 h0
 exact law_call (vs:=[v0]) (Mx.co_ok hl dp) ⟨g0,trivial⟩
end
end Go.Proofs.YtkmbnldginonbaaGreat
