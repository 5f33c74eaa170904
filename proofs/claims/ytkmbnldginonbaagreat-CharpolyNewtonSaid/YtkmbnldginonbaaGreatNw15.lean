/- charpoly.hessenberg at 5 rows. -/
import Derived.Test.YtkmbnldginonbaaGreatNw12
namespace Go.Proofs.YtkmbnldginonbaaGreat
open Go.RowKit
namespace Mx
set_option maxHeartbeats 64000000 in
set_option maxRecDepth 100000 in
theorem hess_5 (M:Nat->Nat->Rat) {L:Nat} (hM:Bq 5 L M) (h1:1≤L) (hL:16*KB 5 L+16≤LIM):FnT Tryz.prog true 40 1 ([gG 5 idn,gq 5 (M 0),gq 5 (M 1),gq 5 (M 2),gq 5 (M 3),gq 5 (M 4)].map gb) [.c (.gs 0 0)] (.c .any) ([gG 5 idn,gq 5 (hsn 5 M 0),gq 5 (hsn 5 M 1),gq 5 (hsn 5 M 2),gq 5 (hsn 5 M 3),gq 5 (hsn 5 M 4)].map gb):=by
 have hK:1≤KB 5 L:=KB_pos h1
 refine fnt_okS (E:=E1m) E1m_ok Tryz.func40 rfl (by kernel_rfl) ?_
 refine sq ?_
 conv=>whnf
 refine⟨(fun m:Nat=>gst [(0,.c (.gs 0 0)),(2,.c (.int .i64 ((m:Nat):Int)))] [gG 5 idn,gq 5 (hs 5 M m 0),gq 5 (hs 5 M m 1),gq 5 (hs 5 M m 2),gq 5 (hs 5 M m 3),gq 5 (hs 5 M m 4)]) 1,Weak.genT [some 0,some 1,some 2,some 3,some 4,some 5] rfl rfl ⟨_,rfl,rfl,by decide⟩ ⟨gk5 rfl,rs rfl,rs rfl,rs rfl,rs rfl,rs rfl,trivial⟩ ⟨⟨_,rfl,rfl,rfl⟩,⟨_,rfl,rfl⟩,trivial⟩,?_⟩
 refine swp_block (swp_loop (fun m:Nat=>gst [(0,.c (.gs 0 0)),(2,.c (.int .i64 ((m:Nat):Int)))] [gG 5 idn,gq 5 (hs 5 M m 0),gq 5 (hs 5 M m 1),gq 5 (hs 5 M m 2),gq 5 (hs 5 M m 3),gq 5 (hs 5 M m 4)]) (fun m=>6-m) (fun m=>1≤m/\m≤4) 1 (Weak.refl _) (by decide) fun m hm=>?_)
 rcases(show m=1∨m=2∨m=3∨m=4 by omega)with rfl | rfl | rfl | rfl
 ·-- the step 1
  refine sq ?_
  conv=>whnf
  repeat (refine⟨by first | decide | exact ixl rfl | exact rgl rfl,?_⟩;conv=>whnf)
  refine⟨gst [(0,.c (.gs 0 0)),(2,.c (.int .i64 ((1:Nat):Int)))] [gG 5 idn,gq 5 (hs 5 M 1 0),gq 5 (hs 5 M 1 1),gq 5 (hs 5 M 1 2),gq 5 (hs 5 M 1 3),gq 5 (hs 5 M 1 4)],Weak.genT [some 0,some 1,some 2,some 3,some 4,some 5] rfl rfl ⟨_,rfl,rfl,by decide⟩ ⟨gk5 rfl,rs rfl,rs rfl,rs rfl,rs rfl,rs rfl,trivial⟩ ⟨⟨_,rfl,rfl,rfl⟩,⟨_,rfl,rfl⟩,trivial⟩,?_⟩
  have hA:=hs_kb hM h1 (show 1+1≤5 by decide)
  have hE:=fun(hp:pv 5 (hs 5 M 1) 1<5) (t:Nat) (ht:1+t<5)=>el_kb hM h1 (show 1≤1 by decide) (show 1+1<5 by decide) hp ht
  refine swp_mid (fun _:Unit=>gst [(0,.c (.gs 0 0)),(2,.c (.int .i64 ((1:Nat):Int)))] [gG 5 idn,gq 5 (stp 5 1 (hs 5 M 1) 0),gq 5 (stp 5 1 (hs 5 M 1) 1),gq 5 (stp 5 1 (hs 5 M 1) 2),gq 5 (stp 5 1 (hs 5 M 1) 3),gq 5 (stp 5 1 (hs 5 M 1) 4)]) (fun _=>True) ?_ fun _ _=>?_
  rotate_left
  ·refine so ?_
   conv=>whnf
   repeat (refine⟨by first | decide | exact ixl rfl | exact rgl rfl,?_⟩;conv=>whnf)
   exact⟨2,by decide,Weak.genT [some 0,some 1,some 2,some 3,some 4,some 5] rfl rfl ⟨_,rfl,rfl,by decide⟩ ⟨gk5 rfl,rs rfl,rs rfl,rs rfl,rs rfl,rs rfl,trivial⟩ ⟨⟨_,rfl,rfl,rfl⟩,⟨_,rfl,rfl⟩,trivial⟩,by decide⟩
  refine swp_block ?_
  generalize hs 5 M 1=A at *
  have hpiv:=fun(hp:pv 5 A 1<5) (t:Nat)=>el_piv (show 1≤1 by decide) (show 1+1<5 by decide) hp t
  have nz:∀ a,a<5->FnOK Tryz.prog true 47 [.g (nq (A a 0))] (.c (.bool (decide (A a 0≠0)))):=fun a ha=>nz_ok (hA a 0 ha (by decide)) (by omega)
  obtain⟨p1,p2,-,-⟩:=pv_spec 5 A (show 1≤5 by decide)
  generalize hpv:pv 5 A 1=P at *
  refine sq ?_
  conv=>whnf
  refine⟨gst [(0,.c (.gs 0 0)),(2,.c (.int .i64 ((1:Nat):Int))),(3,.c (.int .i64 ((1:Nat):Int)))] [gG 5 idn,gq 5 (A 0),gq 5 (A 1),gq 5 (A 2),gq 5 (A 3),gq 5 (A 4)],Weak.genT [some 0,some 1,some 2,some 3,some 4,some 5] rfl rfl ⟨_,rfl,rfl,by decide⟩ ⟨gk5 rfl,rs rfl,rs rfl,rs rfl,rs rfl,rs rfl,trivial⟩ ⟨⟨_,rfl,rfl,rfl⟩,⟨_,rfl,rfl⟩,⟨_,rfl,rfl⟩,trivial⟩,?_⟩
  refine swp_mid (fun _:Unit=>gst [(0,.c (.gs 0 0)),(2,.c (.int .i64 ((1:Nat):Int))),(3,.c (.int .i64 ((P:Nat):Int)))] [gG 5 idn,gq 5 (A 0),gq 5 (A 1),gq 5 (A 2),gq 5 (A 3),gq 5 (A 4)]) (fun _=>True) ?_ fun _ _=>?_
  ·refine swp_block (swp_loop (fun a:Nat=>gst [(0,.c (.gs 0 0)),(2,.c (.int .i64 ((1:Nat):Int))),(3,.c (.int .i64 ((a:Nat):Int)))] [gG 5 idn,gq 5 (A 0),gq 5 (A 1),gq 5 (A 2),gq 5 (A 3),gq 5 (A 4)]) (fun a=>5-a) (fun a=>1≤a/\a≤5/\pvf A 0 (5-a) a=P) 1 (Weak.refl _) ⟨by decide,by decide,hpv⟩ fun a ha=>?_)
   obtain⟨a1,a2,a3⟩:=ha
   rcases(show a=1∨a=2∨a=3∨a=4∨a=5 by omega)with rfl | rfl | rfl | rfl | rfl
   ·refine so ?_
    conv=>whnf
    repeat (refine⟨by first | decide | exact ixl rfl | exact rgl rfl,?_⟩;conv=>whnf)
    refine⟨_,nz 1 (by decide),?_⟩
    conv=>whnf
    refine bcase (fun(h:(!decide (A 1 0≠0))=true)=>?_) fun(h:(!decide (A 1 0≠0))=false)=>?_
    ·have h0:A 1 0=0:=by simpa using h
     conv=>whnf
     repeat (refine⟨by first | decide | exact ixl rfl | exact rgl rfl,?_⟩;conv=>whnf)
     exact⟨2,by decide,Weak.genT [some 0,some 1,some 2,some 3,some 4,some 5] rfl rfl ⟨_,rfl,rfl,by decide⟩ ⟨gk5 rfl,rs rfl,rs rfl,rs rfl,rs rfl,rs rfl,trivial⟩ ⟨⟨_,rfl,rfl,rfl⟩,⟨_,rfl,rfl⟩,⟨_,rfl,rfl⟩,trivial⟩,by decide,by decide,by rw[← a3];exact(pvf_next h0).symm⟩
    ·have h0:A 1 0≠0:=by simpa using h
     conv=>whnf
     have eP:1=P:=by rw[← a3];exact(pvf_stop h0).symm
     exact⟨(),trivial,Weak.genT [some 0,some 1,some 2,some 3,some 4,some 5] rfl rfl ⟨_,rfl,rfl,by decide⟩ ⟨gk5 rfl,rs rfl,rs rfl,rs rfl,rs rfl,rs rfl,trivial⟩ ⟨⟨_,rfl,rfl,rfl⟩,⟨_,rfl,rfl⟩,⟨_,rfl,by rw[← eP]⟩,trivial⟩⟩
   ·refine so ?_
    conv=>whnf
    repeat (refine⟨by first | decide | exact ixl rfl | exact rgl rfl,?_⟩;conv=>whnf)
    refine⟨_,nz 2 (by decide),?_⟩
    conv=>whnf
    refine bcase (fun(h:(!decide (A 2 0≠0))=true)=>?_) fun(h:(!decide (A 2 0≠0))=false)=>?_
    ·have h0:A 2 0=0:=by simpa using h
     conv=>whnf
     repeat (refine⟨by first | decide | exact ixl rfl | exact rgl rfl,?_⟩;conv=>whnf)
     exact⟨3,by decide,Weak.genT [some 0,some 1,some 2,some 3,some 4,some 5] rfl rfl ⟨_,rfl,rfl,by decide⟩ ⟨gk5 rfl,rs rfl,rs rfl,rs rfl,rs rfl,rs rfl,trivial⟩ ⟨⟨_,rfl,rfl,rfl⟩,⟨_,rfl,rfl⟩,⟨_,rfl,rfl⟩,trivial⟩,by decide,by decide,by rw[← a3];exact(pvf_next h0).symm⟩
    ·have h0:A 2 0≠0:=by simpa using h
     conv=>whnf
     have eP:2=P:=by rw[← a3];exact(pvf_stop h0).symm
     exact⟨(),trivial,Weak.genT [some 0,some 1,some 2,some 3,some 4,some 5] rfl rfl ⟨_,rfl,rfl,by decide⟩ ⟨gk5 rfl,rs rfl,rs rfl,rs rfl,rs rfl,rs rfl,trivial⟩ ⟨⟨_,rfl,rfl,rfl⟩,⟨_,rfl,rfl⟩,⟨_,rfl,by rw[← eP]⟩,trivial⟩⟩
   ·refine so ?_
    conv=>whnf
    repeat (refine⟨by first | decide | exact ixl rfl | exact rgl rfl,?_⟩;conv=>whnf)
    refine⟨_,nz 3 (by decide),?_⟩
    conv=>whnf
    refine bcase (fun(h:(!decide (A 3 0≠0))=true)=>?_) fun(h:(!decide (A 3 0≠0))=false)=>?_
    ·have h0:A 3 0=0:=by simpa using h
     conv=>whnf
     repeat (refine⟨by first | decide | exact ixl rfl | exact rgl rfl,?_⟩;conv=>whnf)
     exact⟨4,by decide,Weak.genT [some 0,some 1,some 2,some 3,some 4,some 5] rfl rfl ⟨_,rfl,rfl,by decide⟩ ⟨gk5 rfl,rs rfl,rs rfl,rs rfl,rs rfl,rs rfl,trivial⟩ ⟨⟨_,rfl,rfl,rfl⟩,⟨_,rfl,rfl⟩,⟨_,rfl,rfl⟩,trivial⟩,by decide,by decide,by rw[← a3];exact(pvf_next h0).symm⟩
    ·have h0:A 3 0≠0:=by simpa using h
     conv=>whnf
     have eP:3=P:=by rw[← a3];exact(pvf_stop h0).symm
     exact⟨(),trivial,Weak.genT [some 0,some 1,some 2,some 3,some 4,some 5] rfl rfl ⟨_,rfl,rfl,by decide⟩ ⟨gk5 rfl,rs rfl,rs rfl,rs rfl,rs rfl,rs rfl,trivial⟩ ⟨⟨_,rfl,rfl,rfl⟩,⟨_,rfl,rfl⟩,⟨_,rfl,by rw[← eP]⟩,trivial⟩⟩
   ·refine so ?_
    conv=>whnf
    repeat (refine⟨by first | decide | exact ixl rfl | exact rgl rfl,?_⟩;conv=>whnf)
    refine⟨_,nz 4 (by decide),?_⟩
    conv=>whnf
    refine bcase (fun(h:(!decide (A 4 0≠0))=true)=>?_) fun(h:(!decide (A 4 0≠0))=false)=>?_
    ·have h0:A 4 0=0:=by simpa using h
     conv=>whnf
     repeat (refine⟨by first | decide | exact ixl rfl | exact rgl rfl,?_⟩;conv=>whnf)
     exact⟨5,by decide,Weak.genT [some 0,some 1,some 2,some 3,some 4,some 5] rfl rfl ⟨_,rfl,rfl,by decide⟩ ⟨gk5 rfl,rs rfl,rs rfl,rs rfl,rs rfl,rs rfl,trivial⟩ ⟨⟨_,rfl,rfl,rfl⟩,⟨_,rfl,rfl⟩,⟨_,rfl,rfl⟩,trivial⟩,by decide,by decide,by rw[← a3];exact(pvf_next h0).symm⟩
    ·have h0:A 4 0≠0:=by simpa using h
     conv=>whnf
     have eP:4=P:=by rw[← a3];exact(pvf_stop h0).symm
     exact⟨(),trivial,Weak.genT [some 0,some 1,some 2,some 3,some 4,some 5] rfl rfl ⟨_,rfl,rfl,by decide⟩ ⟨gk5 rfl,rs rfl,rs rfl,rs rfl,rs rfl,rs rfl,trivial⟩ ⟨⟨_,rfl,rfl,rfl⟩,⟨_,rfl,rfl⟩,⟨_,rfl,by rw[← eP]⟩,trivial⟩⟩
   ·refine so ?_
    conv=>whnf
    repeat (refine⟨by first | decide | exact ixl rfl | exact rgl rfl,?_⟩;conv=>whnf)
    have eP:5=P:=a3
    exact⟨(),trivial,Weak.genT [some 0,some 1,some 2,some 3,some 4,some 5] rfl rfl ⟨_,rfl,rfl,by decide⟩ ⟨gk5 rfl,rs rfl,rs rfl,rs rfl,rs rfl,rs rfl,trivial⟩ ⟨⟨_,rfl,rfl,rfl⟩,⟨_,rfl,rfl⟩,⟨_,rfl,by rw[← eP]⟩,trivial⟩⟩
  refine swp_mid2 (fun _:Unit=>gst [(0,.c (.gs 0 0)),(2,.c (.int .i64 ((1:Nat):Int)))] [gG 5 idn,gq 5 (xch (sw P 1) A 0),gq 5 (xch (sw P 1) A 1),gq 5 (xch (sw P 1) A 2),gq 5 (xch (sw P 1) A 3),gq 5 (xch (sw P 1) A 4)]) (fun _=>P<5) ?_ fun _ hP=>?_
  ·rcases(show P=1∨P=2∨P=3∨P=4∨P=5 by omega)with rfl | rfl | rfl | rfl | rfl
   ·refine so ?_
    conv=>whnf
    repeat (refine⟨by first | decide | exact ixl rfl | exact rgl rfl,?_⟩;conv=>whnf)
    refine so ?_
    conv=>whnf
    repeat (refine⟨by first | decide | exact ixl rfl | exact rgl rfl,?_⟩;conv=>whnf)
    exact⟨(),by decide,Weak.genT [some 0,some 1,some 2,some 3,some 4,some 5] rfl rfl ⟨_,rfl,rfl,by decide⟩ ⟨gk5 rfl,rk rfl fun x hx=>(xch_self A _ x),rk rfl fun x hx=>(xch_self A _ x),rk rfl fun x hx=>(xch_self A _ x),rk rfl fun x hx=>(xch_self A _ x),rk rfl fun x hx=>(xch_self A _ x),trivial⟩ ⟨⟨_,rfl,rfl,rfl⟩,⟨_,rfl,rfl⟩,trivial⟩⟩
   ·refine so ?_
    conv=>whnf
    repeat (refine⟨by first | decide | exact ixl rfl | exact rgl rfl,?_⟩;conv=>whnf)
    refine sq ?_
    conv=>whnf
    repeat (refine⟨by first | decide | exact ixl rfl | exact rgl rfl,?_⟩;conv=>whnf)
    refine⟨gst [(0,.c (.gs 0 0)),(2,.c (.int .i64 ((1:Nat):Int))),(3,.c (.int .i64 ((2:Nat):Int))),(41,.c (.bool true))] [gG 5 idn,gq 5 (A 0),gq 5 (A 1),gq 5 (A 2),gq 5 (A 3),gq 5 (A 4)],Weak.genT [some 0,some 1,some 2,some 3,some 4,some 5] rfl rfl ⟨_,rfl,rfl,by decide⟩ ⟨gk5 rfl,rs rfl,rs rfl,rs rfl,rs rfl,rs rfl,trivial⟩ ⟨⟨_,rfl,rfl,rfl⟩,⟨_,rfl,rfl⟩,⟨_,rfl,rfl⟩,⟨_,rfl,rfl⟩,trivial⟩,?_⟩
    refine swp_cond (b:=true) rfl (fun _=>?_) fun h=>absurd h (by decide)
    refine swp_goT E1m_ok (pre:=[_,_,_]) (post:=[]) rfl rfl (by kernel_rfl) ?_
    conv=>whnf
    refine⟨1,_,by decide,OpGoT.call0 (f:=92) (cs:=[]) rfl rfl live_all (exch_5_2_1 A) (lt_put (lt_put (lt_put (lt_asg (tl:=[(0,.c (.gs 0 0)),(2,.c (.int .i64 _)),(3,.c (.int .i64 _)),(41,.c (.bool true))]) ⟨rfl,rfl,rfl,rfl,trivial⟩) rfl) rfl) rfl),?_⟩
    conv=>whnf
    exact⟨(),by decide,Weak.genT [some 0,some 1,some 2,some 3,some 4,some 5] rfl rfl ⟨_,rfl,rfl,by decide⟩ ⟨gk5 rfl,rs rfl,rs rfl,rs rfl,rs rfl,rs rfl,trivial⟩ ⟨⟨_,rfl,rfl,rfl⟩,⟨_,rfl,rfl⟩,trivial⟩⟩
   ·refine so ?_
    conv=>whnf
    repeat (refine⟨by first | decide | exact ixl rfl | exact rgl rfl,?_⟩;conv=>whnf)
    refine sq ?_
    conv=>whnf
    repeat (refine⟨by first | decide | exact ixl rfl | exact rgl rfl,?_⟩;conv=>whnf)
    refine⟨gst [(0,.c (.gs 0 0)),(2,.c (.int .i64 ((1:Nat):Int))),(3,.c (.int .i64 ((3:Nat):Int))),(41,.c (.bool true))] [gG 5 idn,gq 5 (A 0),gq 5 (A 1),gq 5 (A 2),gq 5 (A 3),gq 5 (A 4)],Weak.genT [some 0,some 1,some 2,some 3,some 4,some 5] rfl rfl ⟨_,rfl,rfl,by decide⟩ ⟨gk5 rfl,rs rfl,rs rfl,rs rfl,rs rfl,rs rfl,trivial⟩ ⟨⟨_,rfl,rfl,rfl⟩,⟨_,rfl,rfl⟩,⟨_,rfl,rfl⟩,⟨_,rfl,rfl⟩,trivial⟩,?_⟩
    refine swp_cond (b:=true) rfl (fun _=>?_) fun h=>absurd h (by decide)
    refine swp_goT E1m_ok (pre:=[_,_,_]) (post:=[]) rfl rfl (by kernel_rfl) ?_
    conv=>whnf
    refine⟨1,_,by decide,OpGoT.call0 (f:=92) (cs:=[]) rfl rfl live_all (exch_5_3_1 A) (lt_put (lt_put (lt_put (lt_asg (tl:=[(0,.c (.gs 0 0)),(2,.c (.int .i64 _)),(3,.c (.int .i64 _)),(41,.c (.bool true))]) ⟨rfl,rfl,rfl,rfl,trivial⟩) rfl) rfl) rfl),?_⟩
    conv=>whnf
    exact⟨(),by decide,Weak.genT [some 0,some 1,some 2,some 3,some 4,some 5] rfl rfl ⟨_,rfl,rfl,by decide⟩ ⟨gk5 rfl,rs rfl,rs rfl,rs rfl,rs rfl,rs rfl,trivial⟩ ⟨⟨_,rfl,rfl,rfl⟩,⟨_,rfl,rfl⟩,trivial⟩⟩
   ·refine so ?_
    conv=>whnf
    repeat (refine⟨by first | decide | exact ixl rfl | exact rgl rfl,?_⟩;conv=>whnf)
    refine sq ?_
    conv=>whnf
    repeat (refine⟨by first | decide | exact ixl rfl | exact rgl rfl,?_⟩;conv=>whnf)
    refine⟨gst [(0,.c (.gs 0 0)),(2,.c (.int .i64 ((1:Nat):Int))),(3,.c (.int .i64 ((4:Nat):Int))),(41,.c (.bool true))] [gG 5 idn,gq 5 (A 0),gq 5 (A 1),gq 5 (A 2),gq 5 (A 3),gq 5 (A 4)],Weak.genT [some 0,some 1,some 2,some 3,some 4,some 5] rfl rfl ⟨_,rfl,rfl,by decide⟩ ⟨gk5 rfl,rs rfl,rs rfl,rs rfl,rs rfl,rs rfl,trivial⟩ ⟨⟨_,rfl,rfl,rfl⟩,⟨_,rfl,rfl⟩,⟨_,rfl,rfl⟩,⟨_,rfl,rfl⟩,trivial⟩,?_⟩
    refine swp_cond (b:=true) rfl (fun _=>?_) fun h=>absurd h (by decide)
    refine swp_goT E1m_ok (pre:=[_,_,_]) (post:=[]) rfl rfl (by kernel_rfl) ?_
    conv=>whnf
    refine⟨1,_,by decide,OpGoT.call0 (f:=92) (cs:=[]) rfl rfl live_all (exch_5_4_1 A) (lt_put (lt_put (lt_put (lt_asg (tl:=[(0,.c (.gs 0 0)),(2,.c (.int .i64 _)),(3,.c (.int .i64 _)),(41,.c (.bool true))]) ⟨rfl,rfl,rfl,rfl,trivial⟩) rfl) rfl) rfl),?_⟩
    conv=>whnf
    exact⟨(),by decide,Weak.genT [some 0,some 1,some 2,some 3,some 4,some 5] rfl rfl ⟨_,rfl,rfl,by decide⟩ ⟨gk5 rfl,rs rfl,rs rfl,rs rfl,rs rfl,rs rfl,trivial⟩ ⟨⟨_,rfl,rfl,rfl⟩,⟨_,rfl,rfl⟩,trivial⟩⟩
   ·refine so ?_
    conv=>whnf
    repeat (refine⟨by first | decide | exact ixl rfl | exact rgl rfl,?_⟩;conv=>whnf)
    exact⟨(),trivial,Weak.genT [some 0,some 1,some 2,some 3,some 4,some 5] rfl rfl ⟨_,rfl,rfl,by decide⟩ ⟨gk5 rfl,rk rfl fun x hx=>(stp_none hpv _ x),rk rfl fun x hx=>(stp_none hpv _ x),rk rfl fun x hx=>(stp_none hpv _ x),rk rfl fun x hx=>(stp_none hpv _ x),rk rfl fun x hx=>(stp_none hpv _ x),trivial⟩ ⟨⟨_,rfl,rfl,rfl⟩,⟨_,rfl,rfl⟩,trivial⟩⟩
  have hE:=hE hP
  have hpiv:=hpiv hP
  have hst:=fun a b=>stp_some hpv hP a b
  generalize stp 5 1 A=Z at *
  generalize xch (sw P 1) A=A1 at *
  refine sq ?_
  conv=>whnf
  repeat (refine⟨by first | decide | exact ixl rfl | exact rgl rfl,?_⟩;conv=>whnf)
  refine⟨(fun t:Nat=>gst [(0,.c (.gs 0 0)),(2,.c (.int .i64 ((1:Nat):Int))),(4,.c (.int .i64 ((2+t:Nat):Int)))] [gG 5 idn,gq 5 (el 1 A1 t 0),gq 5 (el 1 A1 t 1),gq 5 (el 1 A1 t 2),gq 5 (el 1 A1 t 3),gq 5 (el 1 A1 t 4)]) 0,Weak.genT [some 0,some 1,some 2,some 3,some 4,some 5] rfl rfl ⟨_,rfl,rfl,by decide⟩ ⟨gk5 rfl,rs rfl,rs rfl,rs rfl,rs rfl,rs rfl,trivial⟩ ⟨⟨_,rfl,rfl,rfl⟩,⟨_,rfl,rfl⟩,⟨_,rfl,rfl⟩,trivial⟩,?_⟩
  refine swp_block (swp_loop (fun t:Nat=>gst [(0,.c (.gs 0 0)),(2,.c (.int .i64 ((1:Nat):Int))),(4,.c (.int .i64 ((2+t:Nat):Int)))] [gG 5 idn,gq 5 (el 1 A1 t 0),gq 5 (el 1 A1 t 1),gq 5 (el 1 A1 t 2),gq 5 (el 1 A1 t 3),gq 5 (el 1 A1 t 4)]) (fun t=>5-t) (fun t=>t≤3) 0 (Weak.refl _) (by decide) fun t ht=>?_)
  rcases(show t=0∨t=1∨t=2∨t=3 by omega)with rfl | rfl | rfl | rfl
  ·have hB:=hE 0 (by decide)
   have hq:=hpiv 0
   refine sq ?_
   conv=>whnf
   repeat (refine⟨by first | decide | exact ixl rfl | exact rgl rfl,?_⟩;conv=>whnf)
   refine⟨gst [(0,.c (.gs 0 0)),(2,.c (.int .i64 ((1:Nat):Int))),(4,.c (.int .i64 ((2:Nat):Int)))] [gG 5 idn,gq 5 (el 1 A1 0 0),gq 5 (el 1 A1 0 1),gq 5 (el 1 A1 0 2),gq 5 (el 1 A1 0 3),gq 5 (el 1 A1 0 4)],Weak.genT [some 0,some 1,some 2,some 3,some 4,some 5] rfl rfl ⟨_,rfl,rfl,by decide⟩ ⟨gk5 rfl,rs rfl,rs rfl,rs rfl,rs rfl,rs rfl,trivial⟩ ⟨⟨_,rfl,rfl,rfl⟩,⟨_,rfl,rfl⟩,⟨_,rfl,rfl⟩,trivial⟩,?_⟩
   refine swp_mid (fun _:Unit=>gst [(0,.c (.gs 0 0)),(2,.c (.int .i64 ((1:Nat):Int))),(4,.c (.int .i64 ((2:Nat):Int)))] [gG 5 idn,gq 5 (el1 1 2 (el 1 A1 0) 0),gq 5 (el1 1 2 (el 1 A1 0) 1),gq 5 (el1 1 2 (el 1 A1 0) 2),gq 5 (el1 1 2 (el 1 A1 0) 3),gq 5 (el1 1 2 (el 1 A1 0) 4)]) (fun _=>True) ?_ fun _ _=>?_
   rotate_left
   ·refine so ?_
    conv=>whnf
    repeat (refine⟨by first | decide | exact ixl rfl | exact rgl rfl,?_⟩;conv=>whnf)
    exact⟨1,by decide,Weak.genT [some 0,some 1,some 2,some 3,some 4,some 5] rfl rfl ⟨_,rfl,rfl,by decide⟩ ⟨gk5 rfl,rs rfl,rs rfl,rs rfl,rs rfl,rs rfl,trivial⟩ ⟨⟨_,rfl,rfl,rfl⟩,⟨_,rfl,rfl⟩,⟨_,rfl,rfl⟩,trivial⟩,by decide⟩
   refine swp_block ?_
   generalize el 1 A1 0=B at *
   have hx:∀ a b,a<5->b<5->qlen (B a b)≤KB 5 L:=hB
   have nz:=nz_ok (x:=B 2 0) (hx 2 0 (by decide) (by decide)) (by omega)
   have kq:=qquo_n (hx 2 0 (by decide) (by decide)) (hx 1 0 (by decide) (by decide)) (by omega) hq rfl
   have hu:qlen (B 2 0 / B 1 0)≤2*KB 5 L:=Nat.le_trans (q_div (hx 2 0 (by decide) (by decide)) (hx 1 0 (by decide) (by decide)) (by omega)) (by omega)
   have hel:=fun(h0:¬ B 2 0=0) a b=>el1_some (m:=1) (i:=2) (A:=B) h0 rfl a b
   have hez:=fun(h0:B 2 0=0) a b=>el1_zero (m:=1) (i:=2) (A:=B) h0 a b
   change ∀(h0:¬ B 2 0=0) (a b:Nat),el1 1 2 B a b=ca (B 2 0 / B 1 0) 2 1 (ra (B 2 0 / B 1 0) 2 1 B) a b at hel
   generalize el1 1 2 B=Y at *
   generalize B 2 0 / B 1 0=u at *
   have m1:∀ j,j<5->FnOK Tryz.prog true 46 [.g (nq u),.g (nq (md1 u 2 1 B j 1 j))] (.g (nq (u*B 1 j))):=fun j hj=>qmul_n hu (by rw[md1_m u (by decide)];exact hx 1 j (by decide) hj) (by omega) (by rw[md1_m u (by decide)])
   have m2:∀ j,j<5->FnOK Tryz.prog true 50 [.g (nq (md1 u 2 1 B j 2 j)),.g (nq (u*B 1 j))] (.g (nq (B 2 j-u*B 1 j))):=fun j hj=>qsub_n (by rw[md1_old];exact hx 2 j (by decide) hj) (q_mul hu (hx 1 j (by decide) hj) (by omega)) (by omega) (by omega) (by rw[md1_old])
   have hR:=ra_kb (i:=2) hB hu (show 1<5 by decide) hK
   have w1:∀ j,j<5->FnOK Tryz.prog true 46 [.g (nq u),.g (nq (md2 u 2 1 (ra u 2 1 B) j j 2))] (.g (nq (u*ra u 2 1 B j 2))):=fun j hj=>qmul_n hu (by rw[md2_old];exact hR j 2 hj (by decide)) (by omega) (by rw[md2_old])
   have w2:∀ j,j<5->FnOK Tryz.prog true 93 [.g (nq (md2 u 2 1 (ra u 2 1 B) j j 1)),.g (nq (u*ra u 2 1 B j 2))] (.g (nq (ra u 2 1 B j 1+u*ra u 2 1 B j 2))):=fun j hj=>qadd_n (by rw[md2_old];exact hR j 1 hj (by decide)) (q_mul hu (hR j 2 hj (by decide)) (by omega)) (by omega) (by rw[md2_old])
   refine sq ?_
   conv=>whnf
   repeat (refine⟨by first | decide | exact ixl rfl | exact rgl rfl,?_⟩;conv=>whnf)
   refine⟨_,nz,?_⟩
   conv=>whnf
   refine bcase (fun(h:(!decide (B 2 0≠0))=true)=>?_) fun(h:(!decide (B 2 0≠0))=false)=>?_
   ·have h0:B 2 0=0:=by simpa using h
    conv=>whnf
    exact⟨(),trivial,Weak.genT [some 0,some 1,some 2,some 3,some 4,some 5] rfl rfl ⟨_,rfl,rfl,by decide⟩ ⟨gk5 rfl,rk rfl fun x hx=>(hez h0 _ x),rk rfl fun x hx=>(hez h0 _ x),rk rfl fun x hx=>(hez h0 _ x),rk rfl fun x hx=>(hez h0 _ x),rk rfl fun x hx=>(hez h0 _ x),trivial⟩ ⟨⟨_,rfl,rfl,rfl⟩,⟨_,rfl,rfl⟩,⟨_,rfl,rfl⟩,trivial⟩⟩
   have h0:¬ B 2 0=0:=by simpa using h
   conv=>whnf
   refine⟨gst [(0,.c (.gs 0 0)),(2,.c (.int .i64 ((1:Nat):Int))),(4,.c (.int .i64 ((2:Nat):Int)))] [gG 5 idn,gq 5 (B 0),gq 5 (B 1),gq 5 (B 2),gq 5 (B 3),gq 5 (B 4)],Weak.genT [some 0,some 1,some 2,some 3,some 4,some 5] rfl rfl ⟨_,rfl,rfl,by decide⟩ ⟨gk5 rfl,rs rfl,rs rfl,rs rfl,rs rfl,rs rfl,trivial⟩ ⟨⟨_,rfl,rfl,rfl⟩,⟨_,rfl,rfl⟩,⟨_,rfl,rfl⟩,trivial⟩,?_⟩
   have hel:=hel h0
   refine sq ?_
   conv=>whnf
   repeat (refine⟨by first | decide | exact ixl rfl | exact rgl rfl,?_⟩;conv=>whnf)
   refine⟨_,kq,?_⟩
   conv=>whnf
   refine⟨gst [(0,.c (.gs 0 0)),(2,.c (.int .i64 ((1:Nat):Int))),(4,.c (.int .i64 ((2:Nat):Int))),(5,.c (.p 6 0 4 0 0))] [gG 5 idn,gq 5 (B 0),gq 5 (B 1),gq 5 (B 2),gq 5 (B 3),gq 5 (B 4),⟨38,4,1,boxF (nq u)⟩],Weak.genT [some 0,some 1,some 2,some 3,some 4,some 5,some 26] rfl rfl ⟨_,rfl,rfl,by decide⟩ ⟨gk5 rfl,rs rfl,rs rfl,rs rfl,rs rfl,rs rfl,Rf.boxU rfl rfl rfl,trivial⟩ ⟨⟨_,rfl,rfl,rfl⟩,⟨_,rfl,rfl⟩,⟨_,rfl,rfl⟩,⟨_,rfl,rfl,rfl⟩,trivial⟩,?_⟩
   refine swp_mid (fun _:Unit=>gst [(0,.c (.gs 0 0)),(2,.c (.int .i64 ((1:Nat):Int))),(4,.c (.int .i64 ((2:Nat):Int))),(5,.c (.p 6 0 4 0 0))] [gG 5 idn,gq 5 (ra u 2 1 B 0),gq 5 (ra u 2 1 B 1),gq 5 (ra u 2 1 B 2),gq 5 (ra u 2 1 B 3),gq 5 (ra u 2 1 B 4),⟨38,4,1,boxF (nq u)⟩]) (fun _=>True) ?_ fun _ _=>?_
   ·refine sq ?_
    conv=>whnf
    repeat (refine⟨by first | decide | exact ixl rfl | exact rgl rfl,?_⟩;conv=>whnf)
    refine⟨(fun j:Nat=>gst [(0,.c (.gs 0 0)),(2,.c (.int .i64 ((1:Nat):Int))),(4,.c (.int .i64 ((2:Nat):Int))),(5,.c (.p 6 0 4 0 0)),(85,.c (.int .i64 5)),(86,.c (.int .i64 ((j:Nat):Int)))] [gG 5 idn,gq 5 (md1 u 2 1 B j 0),gq 5 (md1 u 2 1 B j 1),gq 5 (md1 u 2 1 B j 2),gq 5 (md1 u 2 1 B j 3),gq 5 (md1 u 2 1 B j 4),⟨38,4,1,boxF (nq u)⟩]) 0,Weak.genT [some 0,some 1,some 2,some 3,some 4,some 5,some 6] rfl rfl ⟨_,rfl,rfl,by decide⟩ ⟨gk5 rfl,rk rfl fun x hx=>(md1_zero u _ _ B _ x),rk rfl fun x hx=>(md1_zero u _ _ B _ x),rk rfl fun x hx=>(md1_zero u _ _ B _ x),rk rfl fun x hx=>(md1_zero u _ _ B _ x),rk rfl fun x hx=>(md1_zero u _ _ B _ x),Rf.boxK rfl rfl,trivial⟩ ⟨⟨_,rfl,rfl,rfl⟩,⟨_,rfl,rfl⟩,⟨_,rfl,rfl⟩,⟨_,rfl,rfl,rfl⟩,⟨_,rfl,rfl⟩,⟨_,rfl,rfl⟩,trivial⟩,?_⟩
    refine swp_block (swp_loop (fun j:Nat=>gst [(0,.c (.gs 0 0)),(2,.c (.int .i64 ((1:Nat):Int))),(4,.c (.int .i64 ((2:Nat):Int))),(5,.c (.p 6 0 4 0 0)),(85,.c (.int .i64 5)),(86,.c (.int .i64 ((j:Nat):Int)))] [gG 5 idn,gq 5 (md1 u 2 1 B j 0),gq 5 (md1 u 2 1 B j 1),gq 5 (md1 u 2 1 B j 2),gq 5 (md1 u 2 1 B j 3),gq 5 (md1 u 2 1 B j 4),⟨38,4,1,boxF (nq u)⟩]) (fun j=>5-j) (fun j=>j≤5) 0 (Weak.refl _) (by decide) fun j hj=>?_)
    have m1:=m1 j
    have m2:=m2 j
    have hj0:(0:Int)≤(j:Int):=by omega
    refine so ?_
    conv=>whnf
    refine bcase (fun(h:decide ((j:Int)<5)=true)=>?_) fun(h:decide ((j:Int)<5)=false)=>?_
    ·have h:=of_decide_eq_true h
     have m1:=m1 (by omega)
     have m2:=m2 (by omega)
     have hj1:(j:Int)<((5:Nat):Int):=by omega
     conv=>whnf
     repeat (refine⟨by first | exact hj0 | exact hj1 | decide | exact ixl rfl | exact rgl (by decide),?_⟩;conv=>whnf)
     refine⟨_,m1,?_⟩
     conv=>whnf
     repeat (refine⟨by first | exact hj0 | exact hj1 | decide | exact ixl rfl | exact rgl (by decide),?_⟩;conv=>whnf)
     refine⟨_,m2,?_⟩
     conv=>whnf
     repeat (refine⟨by first | exact hj0 | exact hj1 | decide | exact ixl rfl | exact rgl (by decide),?_⟩;conv=>whnf)
     refine⟨i64_range (by omega) (by omega),?_⟩
     conv=>whnf
     exact⟨j+1,by omega,Weak.genT [some 0,some 1,some 2,some 3,some 4,some 5,some 6] rfl rfl ⟨_,rfl,rfl,by decide⟩ ⟨gk5 rfl,rk rfl fun x hx=>(md1_keep u (by decide) B j x),rk rfl fun x hx=>(md1_keep u (by decide) B j x),ru rfl fun x=>(md1_step u 2 1 B j x),rk rfl fun x hx=>(md1_keep u (by decide) B j x),rk rfl fun x hx=>(md1_keep u (by decide) B j x),Rf.boxK rfl rfl,trivial⟩ ⟨⟨_,rfl,rfl,rfl⟩,⟨_,rfl,rfl⟩,⟨_,rfl,rfl⟩,⟨_,rfl,rfl,rfl⟩,⟨_,rfl,rfl⟩,⟨_,rfl,rfl⟩,trivial⟩,by omega⟩
    ·have h:=of_decide_eq_false h
     obtain rfl:j=5:=by omega
     conv=>whnf
     exact⟨(),trivial,Weak.genT [some 0,some 1,some 2,some 3,some 4,some 5,some 6] rfl rfl ⟨_,rfl,rfl,by decide⟩ ⟨gk5 rfl,rk rfl fun x hx=>(md1_all u _ _ B hx _),rk rfl fun x hx=>(md1_all u _ _ B hx _),rk rfl fun x hx=>(md1_all u _ _ B hx _),rk rfl fun x hx=>(md1_all u _ _ B hx _),rk rfl fun x hx=>(md1_all u _ _ B hx _),Rf.boxK rfl rfl,trivial⟩ ⟨⟨_,rfl,rfl,rfl⟩,⟨_,rfl,rfl⟩,⟨_,rfl,rfl⟩,⟨_,rfl,rfl,rfl⟩,trivial⟩⟩
   generalize ra u 2 1 B=D at *
   refine sq ?_
   conv=>whnf
   repeat (refine⟨by first | decide | exact ixl rfl | exact rgl rfl,?_⟩;conv=>whnf)
   refine⟨(fun j:Nat=>gst [(0,.c (.gs 0 0)),(2,.c (.int .i64 ((1:Nat):Int))),(4,.c (.int .i64 ((2:Nat):Int))),(5,.c (.p 6 0 4 0 0)),(114,.c (.int .i64 5)),(115,.c (.int .i64 ((j:Nat):Int)))] [gG 5 idn,gq 5 (md2 u 2 1 D j 0),gq 5 (md2 u 2 1 D j 1),gq 5 (md2 u 2 1 D j 2),gq 5 (md2 u 2 1 D j 3),gq 5 (md2 u 2 1 D j 4),⟨38,4,1,boxF (nq u)⟩]) 0,Weak.genT [some 0,some 1,some 2,some 3,some 4,some 5,some 6] rfl rfl ⟨_,rfl,rfl,by decide⟩ ⟨gk5 rfl,rk rfl fun x hx=>(md2_zero u _ _ D _ x),rk rfl fun x hx=>(md2_zero u _ _ D _ x),rk rfl fun x hx=>(md2_zero u _ _ D _ x),rk rfl fun x hx=>(md2_zero u _ _ D _ x),rk rfl fun x hx=>(md2_zero u _ _ D _ x),Rf.boxK rfl rfl,trivial⟩ ⟨⟨_,rfl,rfl,rfl⟩,⟨_,rfl,rfl⟩,⟨_,rfl,rfl⟩,⟨_,rfl,rfl,rfl⟩,⟨_,rfl,rfl⟩,⟨_,rfl,rfl⟩,trivial⟩,?_⟩
   refine swp_block (swp_loop (fun j:Nat=>gst [(0,.c (.gs 0 0)),(2,.c (.int .i64 ((1:Nat):Int))),(4,.c (.int .i64 ((2:Nat):Int))),(5,.c (.p 6 0 4 0 0)),(114,.c (.int .i64 5)),(115,.c (.int .i64 ((j:Nat):Int)))] [gG 5 idn,gq 5 (md2 u 2 1 D j 0),gq 5 (md2 u 2 1 D j 1),gq 5 (md2 u 2 1 D j 2),gq 5 (md2 u 2 1 D j 3),gq 5 (md2 u 2 1 D j 4),⟨38,4,1,boxF (nq u)⟩]) (fun j=>5-j) (fun j=>j≤5) 0 (Weak.refl _) (by decide) fun j hj=>?_)
   rcases(show j=0∨j=1∨j=2∨j=3∨j=4∨j=5 by omega)with rfl | rfl | rfl | rfl | rfl | rfl
   ·refine so ?_
    conv=>whnf
    repeat (refine⟨by first | decide | exact ixl rfl | exact rgl rfl,?_⟩;conv=>whnf)
    refine⟨_,w1 0 (by decide),?_⟩
    conv=>whnf
    repeat (refine⟨by first | decide | exact ixl rfl | exact rgl rfl,?_⟩;conv=>whnf)
    refine⟨_,w2 0 (by decide),?_⟩
    conv=>whnf
    repeat (refine⟨by first | decide | exact ixl rfl | exact rgl rfl,?_⟩;conv=>whnf)
    exact⟨1,by decide,Weak.genT [some 0,some 1,some 2,some 3,some 4,some 5,some 6] rfl rfl ⟨_,rfl,rfl,by decide⟩ ⟨gk5 rfl,ru rfl fun x=>(md2_step u 2 1 D 0 x),rk rfl fun x hx=>(md2_keep u (by decide) D x),rk rfl fun x hx=>(md2_keep u (by decide) D x),rk rfl fun x hx=>(md2_keep u (by decide) D x),rk rfl fun x hx=>(md2_keep u (by decide) D x),Rf.boxK rfl rfl,trivial⟩ ⟨⟨_,rfl,rfl,rfl⟩,⟨_,rfl,rfl⟩,⟨_,rfl,rfl⟩,⟨_,rfl,rfl,rfl⟩,⟨_,rfl,rfl⟩,⟨_,rfl,rfl⟩,trivial⟩,by decide⟩
   ·refine so ?_
    conv=>whnf
    repeat (refine⟨by first | decide | exact ixl rfl | exact rgl rfl,?_⟩;conv=>whnf)
    refine⟨_,w1 1 (by decide),?_⟩
    conv=>whnf
    repeat (refine⟨by first | decide | exact ixl rfl | exact rgl rfl,?_⟩;conv=>whnf)
    refine⟨_,w2 1 (by decide),?_⟩
    conv=>whnf
    repeat (refine⟨by first | decide | exact ixl rfl | exact rgl rfl,?_⟩;conv=>whnf)
    exact⟨2,by decide,Weak.genT [some 0,some 1,some 2,some 3,some 4,some 5,some 6] rfl rfl ⟨_,rfl,rfl,by decide⟩ ⟨gk5 rfl,rk rfl fun x hx=>(md2_keep u (by decide) D x),ru rfl fun x=>(md2_step u 2 1 D 1 x),rk rfl fun x hx=>(md2_keep u (by decide) D x),rk rfl fun x hx=>(md2_keep u (by decide) D x),rk rfl fun x hx=>(md2_keep u (by decide) D x),Rf.boxK rfl rfl,trivial⟩ ⟨⟨_,rfl,rfl,rfl⟩,⟨_,rfl,rfl⟩,⟨_,rfl,rfl⟩,⟨_,rfl,rfl,rfl⟩,⟨_,rfl,rfl⟩,⟨_,rfl,rfl⟩,trivial⟩,by decide⟩
   ·refine so ?_
    conv=>whnf
    repeat (refine⟨by first | decide | exact ixl rfl | exact rgl rfl,?_⟩;conv=>whnf)
    refine⟨_,w1 2 (by decide),?_⟩
    conv=>whnf
    repeat (refine⟨by first | decide | exact ixl rfl | exact rgl rfl,?_⟩;conv=>whnf)
    refine⟨_,w2 2 (by decide),?_⟩
    conv=>whnf
    repeat (refine⟨by first | decide | exact ixl rfl | exact rgl rfl,?_⟩;conv=>whnf)
    exact⟨3,by decide,Weak.genT [some 0,some 1,some 2,some 3,some 4,some 5,some 6] rfl rfl ⟨_,rfl,rfl,by decide⟩ ⟨gk5 rfl,rk rfl fun x hx=>(md2_keep u (by decide) D x),rk rfl fun x hx=>(md2_keep u (by decide) D x),ru rfl fun x=>(md2_step u 2 1 D 2 x),rk rfl fun x hx=>(md2_keep u (by decide) D x),rk rfl fun x hx=>(md2_keep u (by decide) D x),Rf.boxK rfl rfl,trivial⟩ ⟨⟨_,rfl,rfl,rfl⟩,⟨_,rfl,rfl⟩,⟨_,rfl,rfl⟩,⟨_,rfl,rfl,rfl⟩,⟨_,rfl,rfl⟩,⟨_,rfl,rfl⟩,trivial⟩,by decide⟩
   ·refine so ?_
    conv=>whnf
    repeat (refine⟨by first | decide | exact ixl rfl | exact rgl rfl,?_⟩;conv=>whnf)
    refine⟨_,w1 3 (by decide),?_⟩
    conv=>whnf
    repeat (refine⟨by first | decide | exact ixl rfl | exact rgl rfl,?_⟩;conv=>whnf)
    refine⟨_,w2 3 (by decide),?_⟩
    conv=>whnf
    repeat (refine⟨by first | decide | exact ixl rfl | exact rgl rfl,?_⟩;conv=>whnf)
    exact⟨4,by decide,Weak.genT [some 0,some 1,some 2,some 3,some 4,some 5,some 6] rfl rfl ⟨_,rfl,rfl,by decide⟩ ⟨gk5 rfl,rk rfl fun x hx=>(md2_keep u (by decide) D x),rk rfl fun x hx=>(md2_keep u (by decide) D x),rk rfl fun x hx=>(md2_keep u (by decide) D x),ru rfl fun x=>(md2_step u 2 1 D 3 x),rk rfl fun x hx=>(md2_keep u (by decide) D x),Rf.boxK rfl rfl,trivial⟩ ⟨⟨_,rfl,rfl,rfl⟩,⟨_,rfl,rfl⟩,⟨_,rfl,rfl⟩,⟨_,rfl,rfl,rfl⟩,⟨_,rfl,rfl⟩,⟨_,rfl,rfl⟩,trivial⟩,by decide⟩
   ·refine so ?_
    conv=>whnf
    repeat (refine⟨by first | decide | exact ixl rfl | exact rgl rfl,?_⟩;conv=>whnf)
    refine⟨_,w1 4 (by decide),?_⟩
    conv=>whnf
    repeat (refine⟨by first | decide | exact ixl rfl | exact rgl rfl,?_⟩;conv=>whnf)
    refine⟨_,w2 4 (by decide),?_⟩
    conv=>whnf
    repeat (refine⟨by first | decide | exact ixl rfl | exact rgl rfl,?_⟩;conv=>whnf)
    exact⟨5,by decide,Weak.genT [some 0,some 1,some 2,some 3,some 4,some 5,some 6] rfl rfl ⟨_,rfl,rfl,by decide⟩ ⟨gk5 rfl,rk rfl fun x hx=>(md2_keep u (by decide) D x),rk rfl fun x hx=>(md2_keep u (by decide) D x),rk rfl fun x hx=>(md2_keep u (by decide) D x),rk rfl fun x hx=>(md2_keep u (by decide) D x),ru rfl fun x=>(md2_step u 2 1 D 4 x),Rf.boxK rfl rfl,trivial⟩ ⟨⟨_,rfl,rfl,rfl⟩,⟨_,rfl,rfl⟩,⟨_,rfl,rfl⟩,⟨_,rfl,rfl,rfl⟩,⟨_,rfl,rfl⟩,⟨_,rfl,rfl⟩,trivial⟩,by decide⟩
   ·refine so ?_
    conv=>whnf
    exact⟨(),trivial,Weak.genT [some 0,some 1,some 2,some 3,some 4,some 5] rfl rfl ⟨_,rfl,rfl,by decide⟩ ⟨gk5 rfl,rk rfl fun x hx=>((hel _ x).trans (md2_all u _ _ D (by decide) x)),rk rfl fun x hx=>((hel _ x).trans (md2_all u _ _ D (by decide) x)),rk rfl fun x hx=>((hel _ x).trans (md2_all u _ _ D (by decide) x)),rk rfl fun x hx=>((hel _ x).trans (md2_all u _ _ D (by decide) x)),rk rfl fun x hx=>((hel _ x).trans (md2_all u _ _ D (by decide) x)),trivial⟩ ⟨⟨_,rfl,rfl,rfl⟩,⟨_,rfl,rfl⟩,⟨_,rfl,rfl⟩,trivial⟩⟩
  ·have hB:=hE 1 (by decide)
   have hq:=hpiv 1
   refine sq ?_
   conv=>whnf
   repeat (refine⟨by first | decide | exact ixl rfl | exact rgl rfl,?_⟩;conv=>whnf)
   refine⟨gst [(0,.c (.gs 0 0)),(2,.c (.int .i64 ((1:Nat):Int))),(4,.c (.int .i64 ((3:Nat):Int)))] [gG 5 idn,gq 5 (el 1 A1 1 0),gq 5 (el 1 A1 1 1),gq 5 (el 1 A1 1 2),gq 5 (el 1 A1 1 3),gq 5 (el 1 A1 1 4)],Weak.genT [some 0,some 1,some 2,some 3,some 4,some 5] rfl rfl ⟨_,rfl,rfl,by decide⟩ ⟨gk5 rfl,rs rfl,rs rfl,rs rfl,rs rfl,rs rfl,trivial⟩ ⟨⟨_,rfl,rfl,rfl⟩,⟨_,rfl,rfl⟩,⟨_,rfl,rfl⟩,trivial⟩,?_⟩
   refine swp_mid (fun _:Unit=>gst [(0,.c (.gs 0 0)),(2,.c (.int .i64 ((1:Nat):Int))),(4,.c (.int .i64 ((3:Nat):Int)))] [gG 5 idn,gq 5 (el1 1 3 (el 1 A1 1) 0),gq 5 (el1 1 3 (el 1 A1 1) 1),gq 5 (el1 1 3 (el 1 A1 1) 2),gq 5 (el1 1 3 (el 1 A1 1) 3),gq 5 (el1 1 3 (el 1 A1 1) 4)]) (fun _=>True) ?_ fun _ _=>?_
   rotate_left
   ·refine so ?_
    conv=>whnf
    repeat (refine⟨by first | decide | exact ixl rfl | exact rgl rfl,?_⟩;conv=>whnf)
    exact⟨2,by decide,Weak.genT [some 0,some 1,some 2,some 3,some 4,some 5] rfl rfl ⟨_,rfl,rfl,by decide⟩ ⟨gk5 rfl,rs rfl,rs rfl,rs rfl,rs rfl,rs rfl,trivial⟩ ⟨⟨_,rfl,rfl,rfl⟩,⟨_,rfl,rfl⟩,⟨_,rfl,rfl⟩,trivial⟩,by decide⟩
   refine swp_block ?_
   generalize el 1 A1 1=B at *
   have hx:∀ a b,a<5->b<5->qlen (B a b)≤KB 5 L:=hB
   have nz:=nz_ok (x:=B 3 0) (hx 3 0 (by decide) (by decide)) (by omega)
   have kq:=qquo_n (hx 3 0 (by decide) (by decide)) (hx 1 0 (by decide) (by decide)) (by omega) hq rfl
   have hu:qlen (B 3 0 / B 1 0)≤2*KB 5 L:=Nat.le_trans (q_div (hx 3 0 (by decide) (by decide)) (hx 1 0 (by decide) (by decide)) (by omega)) (by omega)
   have hel:=fun(h0:¬ B 3 0=0) a b=>el1_some (m:=1) (i:=3) (A:=B) h0 rfl a b
   have hez:=fun(h0:B 3 0=0) a b=>el1_zero (m:=1) (i:=3) (A:=B) h0 a b
   change ∀(h0:¬ B 3 0=0) (a b:Nat),el1 1 3 B a b=ca (B 3 0 / B 1 0) 3 1 (ra (B 3 0 / B 1 0) 3 1 B) a b at hel
   generalize el1 1 3 B=Y at *
   generalize B 3 0 / B 1 0=u at *
   have m1:∀ j,j<5->FnOK Tryz.prog true 46 [.g (nq u),.g (nq (md1 u 3 1 B j 1 j))] (.g (nq (u*B 1 j))):=fun j hj=>qmul_n hu (by rw[md1_m u (by decide)];exact hx 1 j (by decide) hj) (by omega) (by rw[md1_m u (by decide)])
   have m2:∀ j,j<5->FnOK Tryz.prog true 50 [.g (nq (md1 u 3 1 B j 3 j)),.g (nq (u*B 1 j))] (.g (nq (B 3 j-u*B 1 j))):=fun j hj=>qsub_n (by rw[md1_old];exact hx 3 j (by decide) hj) (q_mul hu (hx 1 j (by decide) hj) (by omega)) (by omega) (by omega) (by rw[md1_old])
   have hR:=ra_kb (i:=3) hB hu (show 1<5 by decide) hK
   have w1:∀ j,j<5->FnOK Tryz.prog true 46 [.g (nq u),.g (nq (md2 u 3 1 (ra u 3 1 B) j j 3))] (.g (nq (u*ra u 3 1 B j 3))):=fun j hj=>qmul_n hu (by rw[md2_old];exact hR j 3 hj (by decide)) (by omega) (by rw[md2_old])
   have w2:∀ j,j<5->FnOK Tryz.prog true 93 [.g (nq (md2 u 3 1 (ra u 3 1 B) j j 1)),.g (nq (u*ra u 3 1 B j 3))] (.g (nq (ra u 3 1 B j 1+u*ra u 3 1 B j 3))):=fun j hj=>qadd_n (by rw[md2_old];exact hR j 1 hj (by decide)) (q_mul hu (hR j 3 hj (by decide)) (by omega)) (by omega) (by rw[md2_old])
   refine sq ?_
   conv=>whnf
   repeat (refine⟨by first | decide | exact ixl rfl | exact rgl rfl,?_⟩;conv=>whnf)
   refine⟨_,nz,?_⟩
   conv=>whnf
   refine bcase (fun(h:(!decide (B 3 0≠0))=true)=>?_) fun(h:(!decide (B 3 0≠0))=false)=>?_
   ·have h0:B 3 0=0:=by simpa using h
    conv=>whnf
    exact⟨(),trivial,Weak.genT [some 0,some 1,some 2,some 3,some 4,some 5] rfl rfl ⟨_,rfl,rfl,by decide⟩ ⟨gk5 rfl,rk rfl fun x hx=>(hez h0 _ x),rk rfl fun x hx=>(hez h0 _ x),rk rfl fun x hx=>(hez h0 _ x),rk rfl fun x hx=>(hez h0 _ x),rk rfl fun x hx=>(hez h0 _ x),trivial⟩ ⟨⟨_,rfl,rfl,rfl⟩,⟨_,rfl,rfl⟩,⟨_,rfl,rfl⟩,trivial⟩⟩
   have h0:¬ B 3 0=0:=by simpa using h
   conv=>whnf
   refine⟨gst [(0,.c (.gs 0 0)),(2,.c (.int .i64 ((1:Nat):Int))),(4,.c (.int .i64 ((3:Nat):Int)))] [gG 5 idn,gq 5 (B 0),gq 5 (B 1),gq 5 (B 2),gq 5 (B 3),gq 5 (B 4)],Weak.genT [some 0,some 1,some 2,some 3,some 4,some 5] rfl rfl ⟨_,rfl,rfl,by decide⟩ ⟨gk5 rfl,rs rfl,rs rfl,rs rfl,rs rfl,rs rfl,trivial⟩ ⟨⟨_,rfl,rfl,rfl⟩,⟨_,rfl,rfl⟩,⟨_,rfl,rfl⟩,trivial⟩,?_⟩
   have hel:=hel h0
   refine sq ?_
   conv=>whnf
   repeat (refine⟨by first | decide | exact ixl rfl | exact rgl rfl,?_⟩;conv=>whnf)
   refine⟨_,kq,?_⟩
   conv=>whnf
   refine⟨gst [(0,.c (.gs 0 0)),(2,.c (.int .i64 ((1:Nat):Int))),(4,.c (.int .i64 ((3:Nat):Int))),(5,.c (.p 6 0 4 0 0))] [gG 5 idn,gq 5 (B 0),gq 5 (B 1),gq 5 (B 2),gq 5 (B 3),gq 5 (B 4),⟨38,4,1,boxF (nq u)⟩],Weak.genT [some 0,some 1,some 2,some 3,some 4,some 5,some 26] rfl rfl ⟨_,rfl,rfl,by decide⟩ ⟨gk5 rfl,rs rfl,rs rfl,rs rfl,rs rfl,rs rfl,Rf.boxU rfl rfl rfl,trivial⟩ ⟨⟨_,rfl,rfl,rfl⟩,⟨_,rfl,rfl⟩,⟨_,rfl,rfl⟩,⟨_,rfl,rfl,rfl⟩,trivial⟩,?_⟩
   refine swp_mid (fun _:Unit=>gst [(0,.c (.gs 0 0)),(2,.c (.int .i64 ((1:Nat):Int))),(4,.c (.int .i64 ((3:Nat):Int))),(5,.c (.p 6 0 4 0 0))] [gG 5 idn,gq 5 (ra u 3 1 B 0),gq 5 (ra u 3 1 B 1),gq 5 (ra u 3 1 B 2),gq 5 (ra u 3 1 B 3),gq 5 (ra u 3 1 B 4),⟨38,4,1,boxF (nq u)⟩]) (fun _=>True) ?_ fun _ _=>?_
   ·refine sq ?_
    conv=>whnf
    repeat (refine⟨by first | decide | exact ixl rfl | exact rgl rfl,?_⟩;conv=>whnf)
    refine⟨(fun j:Nat=>gst [(0,.c (.gs 0 0)),(2,.c (.int .i64 ((1:Nat):Int))),(4,.c (.int .i64 ((3:Nat):Int))),(5,.c (.p 6 0 4 0 0)),(85,.c (.int .i64 5)),(86,.c (.int .i64 ((j:Nat):Int)))] [gG 5 idn,gq 5 (md1 u 3 1 B j 0),gq 5 (md1 u 3 1 B j 1),gq 5 (md1 u 3 1 B j 2),gq 5 (md1 u 3 1 B j 3),gq 5 (md1 u 3 1 B j 4),⟨38,4,1,boxF (nq u)⟩]) 0,Weak.genT [some 0,some 1,some 2,some 3,some 4,some 5,some 6] rfl rfl ⟨_,rfl,rfl,by decide⟩ ⟨gk5 rfl,rk rfl fun x hx=>(md1_zero u _ _ B _ x),rk rfl fun x hx=>(md1_zero u _ _ B _ x),rk rfl fun x hx=>(md1_zero u _ _ B _ x),rk rfl fun x hx=>(md1_zero u _ _ B _ x),rk rfl fun x hx=>(md1_zero u _ _ B _ x),Rf.boxK rfl rfl,trivial⟩ ⟨⟨_,rfl,rfl,rfl⟩,⟨_,rfl,rfl⟩,⟨_,rfl,rfl⟩,⟨_,rfl,rfl,rfl⟩,⟨_,rfl,rfl⟩,⟨_,rfl,rfl⟩,trivial⟩,?_⟩
    refine swp_block (swp_loop (fun j:Nat=>gst [(0,.c (.gs 0 0)),(2,.c (.int .i64 ((1:Nat):Int))),(4,.c (.int .i64 ((3:Nat):Int))),(5,.c (.p 6 0 4 0 0)),(85,.c (.int .i64 5)),(86,.c (.int .i64 ((j:Nat):Int)))] [gG 5 idn,gq 5 (md1 u 3 1 B j 0),gq 5 (md1 u 3 1 B j 1),gq 5 (md1 u 3 1 B j 2),gq 5 (md1 u 3 1 B j 3),gq 5 (md1 u 3 1 B j 4),⟨38,4,1,boxF (nq u)⟩]) (fun j=>5-j) (fun j=>j≤5) 0 (Weak.refl _) (by decide) fun j hj=>?_)
    have m1:=m1 j
    have m2:=m2 j
    have hj0:(0:Int)≤(j:Int):=by omega
    refine so ?_
    conv=>whnf
    refine bcase (fun(h:decide ((j:Int)<5)=true)=>?_) fun(h:decide ((j:Int)<5)=false)=>?_
    ·have h:=of_decide_eq_true h
     have m1:=m1 (by omega)
     have m2:=m2 (by omega)
     have hj1:(j:Int)<((5:Nat):Int):=by omega
     conv=>whnf
     repeat (refine⟨by first | exact hj0 | exact hj1 | decide | exact ixl rfl | exact rgl (by decide),?_⟩;conv=>whnf)
     refine⟨_,m1,?_⟩
     conv=>whnf
     repeat (refine⟨by first | exact hj0 | exact hj1 | decide | exact ixl rfl | exact rgl (by decide),?_⟩;conv=>whnf)
     refine⟨_,m2,?_⟩
     conv=>whnf
     repeat (refine⟨by first | exact hj0 | exact hj1 | decide | exact ixl rfl | exact rgl (by decide),?_⟩;conv=>whnf)
     refine⟨i64_range (by omega) (by omega),?_⟩
     conv=>whnf
     exact⟨j+1,by omega,Weak.genT [some 0,some 1,some 2,some 3,some 4,some 5,some 6] rfl rfl ⟨_,rfl,rfl,by decide⟩ ⟨gk5 rfl,rk rfl fun x hx=>(md1_keep u (by decide) B j x),rk rfl fun x hx=>(md1_keep u (by decide) B j x),rk rfl fun x hx=>(md1_keep u (by decide) B j x),ru rfl fun x=>(md1_step u 3 1 B j x),rk rfl fun x hx=>(md1_keep u (by decide) B j x),Rf.boxK rfl rfl,trivial⟩ ⟨⟨_,rfl,rfl,rfl⟩,⟨_,rfl,rfl⟩,⟨_,rfl,rfl⟩,⟨_,rfl,rfl,rfl⟩,⟨_,rfl,rfl⟩,⟨_,rfl,rfl⟩,trivial⟩,by omega⟩
    ·have h:=of_decide_eq_false h
     obtain rfl:j=5:=by omega
     conv=>whnf
     exact⟨(),trivial,Weak.genT [some 0,some 1,some 2,some 3,some 4,some 5,some 6] rfl rfl ⟨_,rfl,rfl,by decide⟩ ⟨gk5 rfl,rk rfl fun x hx=>(md1_all u _ _ B hx _),rk rfl fun x hx=>(md1_all u _ _ B hx _),rk rfl fun x hx=>(md1_all u _ _ B hx _),rk rfl fun x hx=>(md1_all u _ _ B hx _),rk rfl fun x hx=>(md1_all u _ _ B hx _),Rf.boxK rfl rfl,trivial⟩ ⟨⟨_,rfl,rfl,rfl⟩,⟨_,rfl,rfl⟩,⟨_,rfl,rfl⟩,⟨_,rfl,rfl,rfl⟩,trivial⟩⟩
   generalize ra u 3 1 B=D at *
   refine sq ?_
   conv=>whnf
   repeat (refine⟨by first | decide | exact ixl rfl | exact rgl rfl,?_⟩;conv=>whnf)
   refine⟨(fun j:Nat=>gst [(0,.c (.gs 0 0)),(2,.c (.int .i64 ((1:Nat):Int))),(4,.c (.int .i64 ((3:Nat):Int))),(5,.c (.p 6 0 4 0 0)),(114,.c (.int .i64 5)),(115,.c (.int .i64 ((j:Nat):Int)))] [gG 5 idn,gq 5 (md2 u 3 1 D j 0),gq 5 (md2 u 3 1 D j 1),gq 5 (md2 u 3 1 D j 2),gq 5 (md2 u 3 1 D j 3),gq 5 (md2 u 3 1 D j 4),⟨38,4,1,boxF (nq u)⟩]) 0,Weak.genT [some 0,some 1,some 2,some 3,some 4,some 5,some 6] rfl rfl ⟨_,rfl,rfl,by decide⟩ ⟨gk5 rfl,rk rfl fun x hx=>(md2_zero u _ _ D _ x),rk rfl fun x hx=>(md2_zero u _ _ D _ x),rk rfl fun x hx=>(md2_zero u _ _ D _ x),rk rfl fun x hx=>(md2_zero u _ _ D _ x),rk rfl fun x hx=>(md2_zero u _ _ D _ x),Rf.boxK rfl rfl,trivial⟩ ⟨⟨_,rfl,rfl,rfl⟩,⟨_,rfl,rfl⟩,⟨_,rfl,rfl⟩,⟨_,rfl,rfl,rfl⟩,⟨_,rfl,rfl⟩,⟨_,rfl,rfl⟩,trivial⟩,?_⟩
   refine swp_block (swp_loop (fun j:Nat=>gst [(0,.c (.gs 0 0)),(2,.c (.int .i64 ((1:Nat):Int))),(4,.c (.int .i64 ((3:Nat):Int))),(5,.c (.p 6 0 4 0 0)),(114,.c (.int .i64 5)),(115,.c (.int .i64 ((j:Nat):Int)))] [gG 5 idn,gq 5 (md2 u 3 1 D j 0),gq 5 (md2 u 3 1 D j 1),gq 5 (md2 u 3 1 D j 2),gq 5 (md2 u 3 1 D j 3),gq 5 (md2 u 3 1 D j 4),⟨38,4,1,boxF (nq u)⟩]) (fun j=>5-j) (fun j=>j≤5) 0 (Weak.refl _) (by decide) fun j hj=>?_)
   rcases(show j=0∨j=1∨j=2∨j=3∨j=4∨j=5 by omega)with rfl | rfl | rfl | rfl | rfl | rfl
   ·refine so ?_
    conv=>whnf
    repeat (refine⟨by first | decide | exact ixl rfl | exact rgl rfl,?_⟩;conv=>whnf)
    refine⟨_,w1 0 (by decide),?_⟩
    conv=>whnf
    repeat (refine⟨by first | decide | exact ixl rfl | exact rgl rfl,?_⟩;conv=>whnf)
    refine⟨_,w2 0 (by decide),?_⟩
    conv=>whnf
    repeat (refine⟨by first | decide | exact ixl rfl | exact rgl rfl,?_⟩;conv=>whnf)
    exact⟨1,by decide,Weak.genT [some 0,some 1,some 2,some 3,some 4,some 5,some 6] rfl rfl ⟨_,rfl,rfl,by decide⟩ ⟨gk5 rfl,ru rfl fun x=>(md2_step u 3 1 D 0 x),rk rfl fun x hx=>(md2_keep u (by decide) D x),rk rfl fun x hx=>(md2_keep u (by decide) D x),rk rfl fun x hx=>(md2_keep u (by decide) D x),rk rfl fun x hx=>(md2_keep u (by decide) D x),Rf.boxK rfl rfl,trivial⟩ ⟨⟨_,rfl,rfl,rfl⟩,⟨_,rfl,rfl⟩,⟨_,rfl,rfl⟩,⟨_,rfl,rfl,rfl⟩,⟨_,rfl,rfl⟩,⟨_,rfl,rfl⟩,trivial⟩,by decide⟩
   ·refine so ?_
    conv=>whnf
    repeat (refine⟨by first | decide | exact ixl rfl | exact rgl rfl,?_⟩;conv=>whnf)
    refine⟨_,w1 1 (by decide),?_⟩
    conv=>whnf
    repeat (refine⟨by first | decide | exact ixl rfl | exact rgl rfl,?_⟩;conv=>whnf)
    refine⟨_,w2 1 (by decide),?_⟩
    conv=>whnf
    repeat (refine⟨by first | decide | exact ixl rfl | exact rgl rfl,?_⟩;conv=>whnf)
    exact⟨2,by decide,Weak.genT [some 0,some 1,some 2,some 3,some 4,some 5,some 6] rfl rfl ⟨_,rfl,rfl,by decide⟩ ⟨gk5 rfl,rk rfl fun x hx=>(md2_keep u (by decide) D x),ru rfl fun x=>(md2_step u 3 1 D 1 x),rk rfl fun x hx=>(md2_keep u (by decide) D x),rk rfl fun x hx=>(md2_keep u (by decide) D x),rk rfl fun x hx=>(md2_keep u (by decide) D x),Rf.boxK rfl rfl,trivial⟩ ⟨⟨_,rfl,rfl,rfl⟩,⟨_,rfl,rfl⟩,⟨_,rfl,rfl⟩,⟨_,rfl,rfl,rfl⟩,⟨_,rfl,rfl⟩,⟨_,rfl,rfl⟩,trivial⟩,by decide⟩
   ·refine so ?_
    conv=>whnf
    repeat (refine⟨by first | decide | exact ixl rfl | exact rgl rfl,?_⟩;conv=>whnf)
    refine⟨_,w1 2 (by decide),?_⟩
    conv=>whnf
    repeat (refine⟨by first | decide | exact ixl rfl | exact rgl rfl,?_⟩;conv=>whnf)
    refine⟨_,w2 2 (by decide),?_⟩
    conv=>whnf
    repeat (refine⟨by first | decide | exact ixl rfl | exact rgl rfl,?_⟩;conv=>whnf)
    exact⟨3,by decide,Weak.genT [some 0,some 1,some 2,some 3,some 4,some 5,some 6] rfl rfl ⟨_,rfl,rfl,by decide⟩ ⟨gk5 rfl,rk rfl fun x hx=>(md2_keep u (by decide) D x),rk rfl fun x hx=>(md2_keep u (by decide) D x),ru rfl fun x=>(md2_step u 3 1 D 2 x),rk rfl fun x hx=>(md2_keep u (by decide) D x),rk rfl fun x hx=>(md2_keep u (by decide) D x),Rf.boxK rfl rfl,trivial⟩ ⟨⟨_,rfl,rfl,rfl⟩,⟨_,rfl,rfl⟩,⟨_,rfl,rfl⟩,⟨_,rfl,rfl,rfl⟩,⟨_,rfl,rfl⟩,⟨_,rfl,rfl⟩,trivial⟩,by decide⟩
   ·refine so ?_
    conv=>whnf
    repeat (refine⟨by first | decide | exact ixl rfl | exact rgl rfl,?_⟩;conv=>whnf)
    refine⟨_,w1 3 (by decide),?_⟩
    conv=>whnf
    repeat (refine⟨by first | decide | exact ixl rfl | exact rgl rfl,?_⟩;conv=>whnf)
    refine⟨_,w2 3 (by decide),?_⟩
    conv=>whnf
    repeat (refine⟨by first | decide | exact ixl rfl | exact rgl rfl,?_⟩;conv=>whnf)
    exact⟨4,by decide,Weak.genT [some 0,some 1,some 2,some 3,some 4,some 5,some 6] rfl rfl ⟨_,rfl,rfl,by decide⟩ ⟨gk5 rfl,rk rfl fun x hx=>(md2_keep u (by decide) D x),rk rfl fun x hx=>(md2_keep u (by decide) D x),rk rfl fun x hx=>(md2_keep u (by decide) D x),ru rfl fun x=>(md2_step u 3 1 D 3 x),rk rfl fun x hx=>(md2_keep u (by decide) D x),Rf.boxK rfl rfl,trivial⟩ ⟨⟨_,rfl,rfl,rfl⟩,⟨_,rfl,rfl⟩,⟨_,rfl,rfl⟩,⟨_,rfl,rfl,rfl⟩,⟨_,rfl,rfl⟩,⟨_,rfl,rfl⟩,trivial⟩,by decide⟩
   ·refine so ?_
    conv=>whnf
    repeat (refine⟨by first | decide | exact ixl rfl | exact rgl rfl,?_⟩;conv=>whnf)
    refine⟨_,w1 4 (by decide),?_⟩
    conv=>whnf
    repeat (refine⟨by first | decide | exact ixl rfl | exact rgl rfl,?_⟩;conv=>whnf)
    refine⟨_,w2 4 (by decide),?_⟩
    conv=>whnf
    repeat (refine⟨by first | decide | exact ixl rfl | exact rgl rfl,?_⟩;conv=>whnf)
    exact⟨5,by decide,Weak.genT [some 0,some 1,some 2,some 3,some 4,some 5,some 6] rfl rfl ⟨_,rfl,rfl,by decide⟩ ⟨gk5 rfl,rk rfl fun x hx=>(md2_keep u (by decide) D x),rk rfl fun x hx=>(md2_keep u (by decide) D x),rk rfl fun x hx=>(md2_keep u (by decide) D x),rk rfl fun x hx=>(md2_keep u (by decide) D x),ru rfl fun x=>(md2_step u 3 1 D 4 x),Rf.boxK rfl rfl,trivial⟩ ⟨⟨_,rfl,rfl,rfl⟩,⟨_,rfl,rfl⟩,⟨_,rfl,rfl⟩,⟨_,rfl,rfl,rfl⟩,⟨_,rfl,rfl⟩,⟨_,rfl,rfl⟩,trivial⟩,by decide⟩
   ·refine so ?_
    conv=>whnf
    exact⟨(),trivial,Weak.genT [some 0,some 1,some 2,some 3,some 4,some 5] rfl rfl ⟨_,rfl,rfl,by decide⟩ ⟨gk5 rfl,rk rfl fun x hx=>((hel _ x).trans (md2_all u _ _ D (by decide) x)),rk rfl fun x hx=>((hel _ x).trans (md2_all u _ _ D (by decide) x)),rk rfl fun x hx=>((hel _ x).trans (md2_all u _ _ D (by decide) x)),rk rfl fun x hx=>((hel _ x).trans (md2_all u _ _ D (by decide) x)),rk rfl fun x hx=>((hel _ x).trans (md2_all u _ _ D (by decide) x)),trivial⟩ ⟨⟨_,rfl,rfl,rfl⟩,⟨_,rfl,rfl⟩,⟨_,rfl,rfl⟩,trivial⟩⟩
  ·have hB:=hE 2 (by decide)
   have hq:=hpiv 2
   refine sq ?_
   conv=>whnf
   repeat (refine⟨by first | decide | exact ixl rfl | exact rgl rfl,?_⟩;conv=>whnf)
   refine⟨gst [(0,.c (.gs 0 0)),(2,.c (.int .i64 ((1:Nat):Int))),(4,.c (.int .i64 ((4:Nat):Int)))] [gG 5 idn,gq 5 (el 1 A1 2 0),gq 5 (el 1 A1 2 1),gq 5 (el 1 A1 2 2),gq 5 (el 1 A1 2 3),gq 5 (el 1 A1 2 4)],Weak.genT [some 0,some 1,some 2,some 3,some 4,some 5] rfl rfl ⟨_,rfl,rfl,by decide⟩ ⟨gk5 rfl,rs rfl,rs rfl,rs rfl,rs rfl,rs rfl,trivial⟩ ⟨⟨_,rfl,rfl,rfl⟩,⟨_,rfl,rfl⟩,⟨_,rfl,rfl⟩,trivial⟩,?_⟩
   refine swp_mid (fun _:Unit=>gst [(0,.c (.gs 0 0)),(2,.c (.int .i64 ((1:Nat):Int))),(4,.c (.int .i64 ((4:Nat):Int)))] [gG 5 idn,gq 5 (el1 1 4 (el 1 A1 2) 0),gq 5 (el1 1 4 (el 1 A1 2) 1),gq 5 (el1 1 4 (el 1 A1 2) 2),gq 5 (el1 1 4 (el 1 A1 2) 3),gq 5 (el1 1 4 (el 1 A1 2) 4)]) (fun _=>True) ?_ fun _ _=>?_
   rotate_left
   ·refine so ?_
    conv=>whnf
    repeat (refine⟨by first | decide | exact ixl rfl | exact rgl rfl,?_⟩;conv=>whnf)
    exact⟨3,by decide,Weak.genT [some 0,some 1,some 2,some 3,some 4,some 5] rfl rfl ⟨_,rfl,rfl,by decide⟩ ⟨gk5 rfl,rs rfl,rs rfl,rs rfl,rs rfl,rs rfl,trivial⟩ ⟨⟨_,rfl,rfl,rfl⟩,⟨_,rfl,rfl⟩,⟨_,rfl,rfl⟩,trivial⟩,by decide⟩
   refine swp_block ?_
   generalize el 1 A1 2=B at *
   have hx:∀ a b,a<5->b<5->qlen (B a b)≤KB 5 L:=hB
   have nz:=nz_ok (x:=B 4 0) (hx 4 0 (by decide) (by decide)) (by omega)
   have kq:=qquo_n (hx 4 0 (by decide) (by decide)) (hx 1 0 (by decide) (by decide)) (by omega) hq rfl
   have hu:qlen (B 4 0 / B 1 0)≤2*KB 5 L:=Nat.le_trans (q_div (hx 4 0 (by decide) (by decide)) (hx 1 0 (by decide) (by decide)) (by omega)) (by omega)
   have hel:=fun(h0:¬ B 4 0=0) a b=>el1_some (m:=1) (i:=4) (A:=B) h0 rfl a b
   have hez:=fun(h0:B 4 0=0) a b=>el1_zero (m:=1) (i:=4) (A:=B) h0 a b
   change ∀(h0:¬ B 4 0=0) (a b:Nat),el1 1 4 B a b=ca (B 4 0 / B 1 0) 4 1 (ra (B 4 0 / B 1 0) 4 1 B) a b at hel
   generalize el1 1 4 B=Y at *
   generalize B 4 0 / B 1 0=u at *
   have m1:∀ j,j<5->FnOK Tryz.prog true 46 [.g (nq u),.g (nq (md1 u 4 1 B j 1 j))] (.g (nq (u*B 1 j))):=fun j hj=>qmul_n hu (by rw[md1_m u (by decide)];exact hx 1 j (by decide) hj) (by omega) (by rw[md1_m u (by decide)])
   have m2:∀ j,j<5->FnOK Tryz.prog true 50 [.g (nq (md1 u 4 1 B j 4 j)),.g (nq (u*B 1 j))] (.g (nq (B 4 j-u*B 1 j))):=fun j hj=>qsub_n (by rw[md1_old];exact hx 4 j (by decide) hj) (q_mul hu (hx 1 j (by decide) hj) (by omega)) (by omega) (by omega) (by rw[md1_old])
   have hR:=ra_kb (i:=4) hB hu (show 1<5 by decide) hK
   have w1:∀ j,j<5->FnOK Tryz.prog true 46 [.g (nq u),.g (nq (md2 u 4 1 (ra u 4 1 B) j j 4))] (.g (nq (u*ra u 4 1 B j 4))):=fun j hj=>qmul_n hu (by rw[md2_old];exact hR j 4 hj (by decide)) (by omega) (by rw[md2_old])
   have w2:∀ j,j<5->FnOK Tryz.prog true 93 [.g (nq (md2 u 4 1 (ra u 4 1 B) j j 1)),.g (nq (u*ra u 4 1 B j 4))] (.g (nq (ra u 4 1 B j 1+u*ra u 4 1 B j 4))):=fun j hj=>qadd_n (by rw[md2_old];exact hR j 1 hj (by decide)) (q_mul hu (hR j 4 hj (by decide)) (by omega)) (by omega) (by rw[md2_old])
   refine sq ?_
   conv=>whnf
   repeat (refine⟨by first | decide | exact ixl rfl | exact rgl rfl,?_⟩;conv=>whnf)
   refine⟨_,nz,?_⟩
   conv=>whnf
   refine bcase (fun(h:(!decide (B 4 0≠0))=true)=>?_) fun(h:(!decide (B 4 0≠0))=false)=>?_
   ·have h0:B 4 0=0:=by simpa using h
    conv=>whnf
    exact⟨(),trivial,Weak.genT [some 0,some 1,some 2,some 3,some 4,some 5] rfl rfl ⟨_,rfl,rfl,by decide⟩ ⟨gk5 rfl,rk rfl fun x hx=>(hez h0 _ x),rk rfl fun x hx=>(hez h0 _ x),rk rfl fun x hx=>(hez h0 _ x),rk rfl fun x hx=>(hez h0 _ x),rk rfl fun x hx=>(hez h0 _ x),trivial⟩ ⟨⟨_,rfl,rfl,rfl⟩,⟨_,rfl,rfl⟩,⟨_,rfl,rfl⟩,trivial⟩⟩
   have h0:¬ B 4 0=0:=by simpa using h
   conv=>whnf
   refine⟨gst [(0,.c (.gs 0 0)),(2,.c (.int .i64 ((1:Nat):Int))),(4,.c (.int .i64 ((4:Nat):Int)))] [gG 5 idn,gq 5 (B 0),gq 5 (B 1),gq 5 (B 2),gq 5 (B 3),gq 5 (B 4)],Weak.genT [some 0,some 1,some 2,some 3,some 4,some 5] rfl rfl ⟨_,rfl,rfl,by decide⟩ ⟨gk5 rfl,rs rfl,rs rfl,rs rfl,rs rfl,rs rfl,trivial⟩ ⟨⟨_,rfl,rfl,rfl⟩,⟨_,rfl,rfl⟩,⟨_,rfl,rfl⟩,trivial⟩,?_⟩
   have hel:=hel h0
   refine sq ?_
   conv=>whnf
   repeat (refine⟨by first | decide | exact ixl rfl | exact rgl rfl,?_⟩;conv=>whnf)
   refine⟨_,kq,?_⟩
   conv=>whnf
   refine⟨gst [(0,.c (.gs 0 0)),(2,.c (.int .i64 ((1:Nat):Int))),(4,.c (.int .i64 ((4:Nat):Int))),(5,.c (.p 6 0 4 0 0))] [gG 5 idn,gq 5 (B 0),gq 5 (B 1),gq 5 (B 2),gq 5 (B 3),gq 5 (B 4),⟨38,4,1,boxF (nq u)⟩],Weak.genT [some 0,some 1,some 2,some 3,some 4,some 5,some 26] rfl rfl ⟨_,rfl,rfl,by decide⟩ ⟨gk5 rfl,rs rfl,rs rfl,rs rfl,rs rfl,rs rfl,Rf.boxU rfl rfl rfl,trivial⟩ ⟨⟨_,rfl,rfl,rfl⟩,⟨_,rfl,rfl⟩,⟨_,rfl,rfl⟩,⟨_,rfl,rfl,rfl⟩,trivial⟩,?_⟩
   refine swp_mid (fun _:Unit=>gst [(0,.c (.gs 0 0)),(2,.c (.int .i64 ((1:Nat):Int))),(4,.c (.int .i64 ((4:Nat):Int))),(5,.c (.p 6 0 4 0 0))] [gG 5 idn,gq 5 (ra u 4 1 B 0),gq 5 (ra u 4 1 B 1),gq 5 (ra u 4 1 B 2),gq 5 (ra u 4 1 B 3),gq 5 (ra u 4 1 B 4),⟨38,4,1,boxF (nq u)⟩]) (fun _=>True) ?_ fun _ _=>?_
   ·refine sq ?_
    conv=>whnf
    repeat (refine⟨by first | decide | exact ixl rfl | exact rgl rfl,?_⟩;conv=>whnf)
    refine⟨(fun j:Nat=>gst [(0,.c (.gs 0 0)),(2,.c (.int .i64 ((1:Nat):Int))),(4,.c (.int .i64 ((4:Nat):Int))),(5,.c (.p 6 0 4 0 0)),(85,.c (.int .i64 5)),(86,.c (.int .i64 ((j:Nat):Int)))] [gG 5 idn,gq 5 (md1 u 4 1 B j 0),gq 5 (md1 u 4 1 B j 1),gq 5 (md1 u 4 1 B j 2),gq 5 (md1 u 4 1 B j 3),gq 5 (md1 u 4 1 B j 4),⟨38,4,1,boxF (nq u)⟩]) 0,Weak.genT [some 0,some 1,some 2,some 3,some 4,some 5,some 6] rfl rfl ⟨_,rfl,rfl,by decide⟩ ⟨gk5 rfl,rk rfl fun x hx=>(md1_zero u _ _ B _ x),rk rfl fun x hx=>(md1_zero u _ _ B _ x),rk rfl fun x hx=>(md1_zero u _ _ B _ x),rk rfl fun x hx=>(md1_zero u _ _ B _ x),rk rfl fun x hx=>(md1_zero u _ _ B _ x),Rf.boxK rfl rfl,trivial⟩ ⟨⟨_,rfl,rfl,rfl⟩,⟨_,rfl,rfl⟩,⟨_,rfl,rfl⟩,⟨_,rfl,rfl,rfl⟩,⟨_,rfl,rfl⟩,⟨_,rfl,rfl⟩,trivial⟩,?_⟩
    refine swp_block (swp_loop (fun j:Nat=>gst [(0,.c (.gs 0 0)),(2,.c (.int .i64 ((1:Nat):Int))),(4,.c (.int .i64 ((4:Nat):Int))),(5,.c (.p 6 0 4 0 0)),(85,.c (.int .i64 5)),(86,.c (.int .i64 ((j:Nat):Int)))] [gG 5 idn,gq 5 (md1 u 4 1 B j 0),gq 5 (md1 u 4 1 B j 1),gq 5 (md1 u 4 1 B j 2),gq 5 (md1 u 4 1 B j 3),gq 5 (md1 u 4 1 B j 4),⟨38,4,1,boxF (nq u)⟩]) (fun j=>5-j) (fun j=>j≤5) 0 (Weak.refl _) (by decide) fun j hj=>?_)
    have m1:=m1 j
    have m2:=m2 j
    have hj0:(0:Int)≤(j:Int):=by omega
    refine so ?_
    conv=>whnf
    refine bcase (fun(h:decide ((j:Int)<5)=true)=>?_) fun(h:decide ((j:Int)<5)=false)=>?_
    ·have h:=of_decide_eq_true h
     have m1:=m1 (by omega)
     have m2:=m2 (by omega)
     have hj1:(j:Int)<((5:Nat):Int):=by omega
     conv=>whnf
     repeat (refine⟨by first | exact hj0 | exact hj1 | decide | exact ixl rfl | exact rgl (by decide),?_⟩;conv=>whnf)
     refine⟨_,m1,?_⟩
     conv=>whnf
     repeat (refine⟨by first | exact hj0 | exact hj1 | decide | exact ixl rfl | exact rgl (by decide),?_⟩;conv=>whnf)
     refine⟨_,m2,?_⟩
     conv=>whnf
     repeat (refine⟨by first | exact hj0 | exact hj1 | decide | exact ixl rfl | exact rgl (by decide),?_⟩;conv=>whnf)
     refine⟨i64_range (by omega) (by omega),?_⟩
     conv=>whnf
     exact⟨j+1,by omega,Weak.genT [some 0,some 1,some 2,some 3,some 4,some 5,some 6] rfl rfl ⟨_,rfl,rfl,by decide⟩ ⟨gk5 rfl,rk rfl fun x hx=>(md1_keep u (by decide) B j x),rk rfl fun x hx=>(md1_keep u (by decide) B j x),rk rfl fun x hx=>(md1_keep u (by decide) B j x),rk rfl fun x hx=>(md1_keep u (by decide) B j x),ru rfl fun x=>(md1_step u 4 1 B j x),Rf.boxK rfl rfl,trivial⟩ ⟨⟨_,rfl,rfl,rfl⟩,⟨_,rfl,rfl⟩,⟨_,rfl,rfl⟩,⟨_,rfl,rfl,rfl⟩,⟨_,rfl,rfl⟩,⟨_,rfl,rfl⟩,trivial⟩,by omega⟩
    ·have h:=of_decide_eq_false h
     obtain rfl:j=5:=by omega
     conv=>whnf
     exact⟨(),trivial,Weak.genT [some 0,some 1,some 2,some 3,some 4,some 5,some 6] rfl rfl ⟨_,rfl,rfl,by decide⟩ ⟨gk5 rfl,rk rfl fun x hx=>(md1_all u _ _ B hx _),rk rfl fun x hx=>(md1_all u _ _ B hx _),rk rfl fun x hx=>(md1_all u _ _ B hx _),rk rfl fun x hx=>(md1_all u _ _ B hx _),rk rfl fun x hx=>(md1_all u _ _ B hx _),Rf.boxK rfl rfl,trivial⟩ ⟨⟨_,rfl,rfl,rfl⟩,⟨_,rfl,rfl⟩,⟨_,rfl,rfl⟩,⟨_,rfl,rfl,rfl⟩,trivial⟩⟩
   generalize ra u 4 1 B=D at *
   refine sq ?_
   conv=>whnf
   repeat (refine⟨by first | decide | exact ixl rfl | exact rgl rfl,?_⟩;conv=>whnf)
   refine⟨(fun j:Nat=>gst [(0,.c (.gs 0 0)),(2,.c (.int .i64 ((1:Nat):Int))),(4,.c (.int .i64 ((4:Nat):Int))),(5,.c (.p 6 0 4 0 0)),(114,.c (.int .i64 5)),(115,.c (.int .i64 ((j:Nat):Int)))] [gG 5 idn,gq 5 (md2 u 4 1 D j 0),gq 5 (md2 u 4 1 D j 1),gq 5 (md2 u 4 1 D j 2),gq 5 (md2 u 4 1 D j 3),gq 5 (md2 u 4 1 D j 4),⟨38,4,1,boxF (nq u)⟩]) 0,Weak.genT [some 0,some 1,some 2,some 3,some 4,some 5,some 6] rfl rfl ⟨_,rfl,rfl,by decide⟩ ⟨gk5 rfl,rk rfl fun x hx=>(md2_zero u _ _ D _ x),rk rfl fun x hx=>(md2_zero u _ _ D _ x),rk rfl fun x hx=>(md2_zero u _ _ D _ x),rk rfl fun x hx=>(md2_zero u _ _ D _ x),rk rfl fun x hx=>(md2_zero u _ _ D _ x),Rf.boxK rfl rfl,trivial⟩ ⟨⟨_,rfl,rfl,rfl⟩,⟨_,rfl,rfl⟩,⟨_,rfl,rfl⟩,⟨_,rfl,rfl,rfl⟩,⟨_,rfl,rfl⟩,⟨_,rfl,rfl⟩,trivial⟩,?_⟩
   refine swp_block (swp_loop (fun j:Nat=>gst [(0,.c (.gs 0 0)),(2,.c (.int .i64 ((1:Nat):Int))),(4,.c (.int .i64 ((4:Nat):Int))),(5,.c (.p 6 0 4 0 0)),(114,.c (.int .i64 5)),(115,.c (.int .i64 ((j:Nat):Int)))] [gG 5 idn,gq 5 (md2 u 4 1 D j 0),gq 5 (md2 u 4 1 D j 1),gq 5 (md2 u 4 1 D j 2),gq 5 (md2 u 4 1 D j 3),gq 5 (md2 u 4 1 D j 4),⟨38,4,1,boxF (nq u)⟩]) (fun j=>5-j) (fun j=>j≤5) 0 (Weak.refl _) (by decide) fun j hj=>?_)
   rcases(show j=0∨j=1∨j=2∨j=3∨j=4∨j=5 by omega)with rfl | rfl | rfl | rfl | rfl | rfl
   ·refine so ?_
    conv=>whnf
    repeat (refine⟨by first | decide | exact ixl rfl | exact rgl rfl,?_⟩;conv=>whnf)
    refine⟨_,w1 0 (by decide),?_⟩
    conv=>whnf
    repeat (refine⟨by first | decide | exact ixl rfl | exact rgl rfl,?_⟩;conv=>whnf)
    refine⟨_,w2 0 (by decide),?_⟩
    conv=>whnf
    repeat (refine⟨by first | decide | exact ixl rfl | exact rgl rfl,?_⟩;conv=>whnf)
    exact⟨1,by decide,Weak.genT [some 0,some 1,some 2,some 3,some 4,some 5,some 6] rfl rfl ⟨_,rfl,rfl,by decide⟩ ⟨gk5 rfl,ru rfl fun x=>(md2_step u 4 1 D 0 x),rk rfl fun x hx=>(md2_keep u (by decide) D x),rk rfl fun x hx=>(md2_keep u (by decide) D x),rk rfl fun x hx=>(md2_keep u (by decide) D x),rk rfl fun x hx=>(md2_keep u (by decide) D x),Rf.boxK rfl rfl,trivial⟩ ⟨⟨_,rfl,rfl,rfl⟩,⟨_,rfl,rfl⟩,⟨_,rfl,rfl⟩,⟨_,rfl,rfl,rfl⟩,⟨_,rfl,rfl⟩,⟨_,rfl,rfl⟩,trivial⟩,by decide⟩
   ·refine so ?_
    conv=>whnf
    repeat (refine⟨by first | decide | exact ixl rfl | exact rgl rfl,?_⟩;conv=>whnf)
    refine⟨_,w1 1 (by decide),?_⟩
    conv=>whnf
    repeat (refine⟨by first | decide | exact ixl rfl | exact rgl rfl,?_⟩;conv=>whnf)
    refine⟨_,w2 1 (by decide),?_⟩
    conv=>whnf
    repeat (refine⟨by first | decide | exact ixl rfl | exact rgl rfl,?_⟩;conv=>whnf)
    exact⟨2,by decide,Weak.genT [some 0,some 1,some 2,some 3,some 4,some 5,some 6] rfl rfl ⟨_,rfl,rfl,by decide⟩ ⟨gk5 rfl,rk rfl fun x hx=>(md2_keep u (by decide) D x),ru rfl fun x=>(md2_step u 4 1 D 1 x),rk rfl fun x hx=>(md2_keep u (by decide) D x),rk rfl fun x hx=>(md2_keep u (by decide) D x),rk rfl fun x hx=>(md2_keep u (by decide) D x),Rf.boxK rfl rfl,trivial⟩ ⟨⟨_,rfl,rfl,rfl⟩,⟨_,rfl,rfl⟩,⟨_,rfl,rfl⟩,⟨_,rfl,rfl,rfl⟩,⟨_,rfl,rfl⟩,⟨_,rfl,rfl⟩,trivial⟩,by decide⟩
   ·refine so ?_
    conv=>whnf
    repeat (refine⟨by first | decide | exact ixl rfl | exact rgl rfl,?_⟩;conv=>whnf)
    refine⟨_,w1 2 (by decide),?_⟩
    conv=>whnf
    repeat (refine⟨by first | decide | exact ixl rfl | exact rgl rfl,?_⟩;conv=>whnf)
    refine⟨_,w2 2 (by decide),?_⟩
    conv=>whnf
    repeat (refine⟨by first | decide | exact ixl rfl | exact rgl rfl,?_⟩;conv=>whnf)
    exact⟨3,by decide,Weak.genT [some 0,some 1,some 2,some 3,some 4,some 5,some 6] rfl rfl ⟨_,rfl,rfl,by decide⟩ ⟨gk5 rfl,rk rfl fun x hx=>(md2_keep u (by decide) D x),rk rfl fun x hx=>(md2_keep u (by decide) D x),ru rfl fun x=>(md2_step u 4 1 D 2 x),rk rfl fun x hx=>(md2_keep u (by decide) D x),rk rfl fun x hx=>(md2_keep u (by decide) D x),Rf.boxK rfl rfl,trivial⟩ ⟨⟨_,rfl,rfl,rfl⟩,⟨_,rfl,rfl⟩,⟨_,rfl,rfl⟩,⟨_,rfl,rfl,rfl⟩,⟨_,rfl,rfl⟩,⟨_,rfl,rfl⟩,trivial⟩,by decide⟩
   ·refine so ?_
    conv=>whnf
    repeat (refine⟨by first | decide | exact ixl rfl | exact rgl rfl,?_⟩;conv=>whnf)
    refine⟨_,w1 3 (by decide),?_⟩
    conv=>whnf
    repeat (refine⟨by first | decide | exact ixl rfl | exact rgl rfl,?_⟩;conv=>whnf)
    refine⟨_,w2 3 (by decide),?_⟩
    conv=>whnf
    repeat (refine⟨by first | decide | exact ixl rfl | exact rgl rfl,?_⟩;conv=>whnf)
    exact⟨4,by decide,Weak.genT [some 0,some 1,some 2,some 3,some 4,some 5,some 6] rfl rfl ⟨_,rfl,rfl,by decide⟩ ⟨gk5 rfl,rk rfl fun x hx=>(md2_keep u (by decide) D x),rk rfl fun x hx=>(md2_keep u (by decide) D x),rk rfl fun x hx=>(md2_keep u (by decide) D x),ru rfl fun x=>(md2_step u 4 1 D 3 x),rk rfl fun x hx=>(md2_keep u (by decide) D x),Rf.boxK rfl rfl,trivial⟩ ⟨⟨_,rfl,rfl,rfl⟩,⟨_,rfl,rfl⟩,⟨_,rfl,rfl⟩,⟨_,rfl,rfl,rfl⟩,⟨_,rfl,rfl⟩,⟨_,rfl,rfl⟩,trivial⟩,by decide⟩
   ·refine so ?_
    conv=>whnf
    repeat (refine⟨by first | decide | exact ixl rfl | exact rgl rfl,?_⟩;conv=>whnf)
    refine⟨_,w1 4 (by decide),?_⟩
    conv=>whnf
    repeat (refine⟨by first | decide | exact ixl rfl | exact rgl rfl,?_⟩;conv=>whnf)
    refine⟨_,w2 4 (by decide),?_⟩
    conv=>whnf
    repeat (refine⟨by first | decide | exact ixl rfl | exact rgl rfl,?_⟩;conv=>whnf)
    exact⟨5,by decide,Weak.genT [some 0,some 1,some 2,some 3,some 4,some 5,some 6] rfl rfl ⟨_,rfl,rfl,by decide⟩ ⟨gk5 rfl,rk rfl fun x hx=>(md2_keep u (by decide) D x),rk rfl fun x hx=>(md2_keep u (by decide) D x),rk rfl fun x hx=>(md2_keep u (by decide) D x),rk rfl fun x hx=>(md2_keep u (by decide) D x),ru rfl fun x=>(md2_step u 4 1 D 4 x),Rf.boxK rfl rfl,trivial⟩ ⟨⟨_,rfl,rfl,rfl⟩,⟨_,rfl,rfl⟩,⟨_,rfl,rfl⟩,⟨_,rfl,rfl,rfl⟩,⟨_,rfl,rfl⟩,⟨_,rfl,rfl⟩,trivial⟩,by decide⟩
   ·refine so ?_
    conv=>whnf
    exact⟨(),trivial,Weak.genT [some 0,some 1,some 2,some 3,some 4,some 5] rfl rfl ⟨_,rfl,rfl,by decide⟩ ⟨gk5 rfl,rk rfl fun x hx=>((hel _ x).trans (md2_all u _ _ D (by decide) x)),rk rfl fun x hx=>((hel _ x).trans (md2_all u _ _ D (by decide) x)),rk rfl fun x hx=>((hel _ x).trans (md2_all u _ _ D (by decide) x)),rk rfl fun x hx=>((hel _ x).trans (md2_all u _ _ D (by decide) x)),rk rfl fun x hx=>((hel _ x).trans (md2_all u _ _ D (by decide) x)),trivial⟩ ⟨⟨_,rfl,rfl,rfl⟩,⟨_,rfl,rfl⟩,⟨_,rfl,rfl⟩,trivial⟩⟩
  ·refine so ?_
   conv=>whnf
   repeat (refine⟨by first | decide | exact ixl rfl | exact rgl rfl,?_⟩;conv=>whnf)
   exact⟨(),trivial,Weak.genT [some 0,some 1,some 2,some 3,some 4,some 5] rfl rfl ⟨_,rfl,rfl,by decide⟩ ⟨gk5 rfl,rk rfl fun x hx=>(hst _ x),rk rfl fun x hx=>(hst _ x),rk rfl fun x hx=>(hst _ x),rk rfl fun x hx=>(hst _ x),rk rfl fun x hx=>(hst _ x),trivial⟩ ⟨⟨_,rfl,rfl,rfl⟩,⟨_,rfl,rfl⟩,trivial⟩⟩
 ·-- the step 2
  refine sq ?_
  conv=>whnf
  repeat (refine⟨by first | decide | exact ixl rfl | exact rgl rfl,?_⟩;conv=>whnf)
  refine⟨gst [(0,.c (.gs 0 0)),(2,.c (.int .i64 ((2:Nat):Int)))] [gG 5 idn,gq 5 (hs 5 M 2 0),gq 5 (hs 5 M 2 1),gq 5 (hs 5 M 2 2),gq 5 (hs 5 M 2 3),gq 5 (hs 5 M 2 4)],Weak.genT [some 0,some 1,some 2,some 3,some 4,some 5] rfl rfl ⟨_,rfl,rfl,by decide⟩ ⟨gk5 rfl,rs rfl,rs rfl,rs rfl,rs rfl,rs rfl,trivial⟩ ⟨⟨_,rfl,rfl,rfl⟩,⟨_,rfl,rfl⟩,trivial⟩,?_⟩
  have hA:=hs_kb hM h1 (show 2+1≤5 by decide)
  have hE:=fun(hp:pv 5 (hs 5 M 2) 2<5) (t:Nat) (ht:2+t<5)=>el_kb hM h1 (show 1≤2 by decide) (show 2+1<5 by decide) hp ht
  refine swp_mid (fun _:Unit=>gst [(0,.c (.gs 0 0)),(2,.c (.int .i64 ((2:Nat):Int)))] [gG 5 idn,gq 5 (stp 5 2 (hs 5 M 2) 0),gq 5 (stp 5 2 (hs 5 M 2) 1),gq 5 (stp 5 2 (hs 5 M 2) 2),gq 5 (stp 5 2 (hs 5 M 2) 3),gq 5 (stp 5 2 (hs 5 M 2) 4)]) (fun _=>True) ?_ fun _ _=>?_
  rotate_left
  ·refine so ?_
   conv=>whnf
   repeat (refine⟨by first | decide | exact ixl rfl | exact rgl rfl,?_⟩;conv=>whnf)
   exact⟨3,by decide,Weak.genT [some 0,some 1,some 2,some 3,some 4,some 5] rfl rfl ⟨_,rfl,rfl,by decide⟩ ⟨gk5 rfl,rs rfl,rs rfl,rs rfl,rs rfl,rs rfl,trivial⟩ ⟨⟨_,rfl,rfl,rfl⟩,⟨_,rfl,rfl⟩,trivial⟩,by decide⟩
  refine swp_block ?_
  generalize hs 5 M 2=A at *
  have hpiv:=fun(hp:pv 5 A 2<5) (t:Nat)=>el_piv (show 1≤2 by decide) (show 2+1<5 by decide) hp t
  have nz:∀ a,a<5->FnOK Tryz.prog true 47 [.g (nq (A a 1))] (.c (.bool (decide (A a 1≠0)))):=fun a ha=>nz_ok (hA a 1 ha (by decide)) (by omega)
  obtain⟨p1,p2,-,-⟩:=pv_spec 5 A (show 2≤5 by decide)
  generalize hpv:pv 5 A 2=P at *
  refine sq ?_
  conv=>whnf
  refine⟨gst [(0,.c (.gs 0 0)),(2,.c (.int .i64 ((2:Nat):Int))),(3,.c (.int .i64 ((2:Nat):Int)))] [gG 5 idn,gq 5 (A 0),gq 5 (A 1),gq 5 (A 2),gq 5 (A 3),gq 5 (A 4)],Weak.genT [some 0,some 1,some 2,some 3,some 4,some 5] rfl rfl ⟨_,rfl,rfl,by decide⟩ ⟨gk5 rfl,rs rfl,rs rfl,rs rfl,rs rfl,rs rfl,trivial⟩ ⟨⟨_,rfl,rfl,rfl⟩,⟨_,rfl,rfl⟩,⟨_,rfl,rfl⟩,trivial⟩,?_⟩
  refine swp_mid (fun _:Unit=>gst [(0,.c (.gs 0 0)),(2,.c (.int .i64 ((2:Nat):Int))),(3,.c (.int .i64 ((P:Nat):Int)))] [gG 5 idn,gq 5 (A 0),gq 5 (A 1),gq 5 (A 2),gq 5 (A 3),gq 5 (A 4)]) (fun _=>True) ?_ fun _ _=>?_
  ·refine swp_block (swp_loop (fun a:Nat=>gst [(0,.c (.gs 0 0)),(2,.c (.int .i64 ((2:Nat):Int))),(3,.c (.int .i64 ((a:Nat):Int)))] [gG 5 idn,gq 5 (A 0),gq 5 (A 1),gq 5 (A 2),gq 5 (A 3),gq 5 (A 4)]) (fun a=>5-a) (fun a=>2≤a/\a≤5/\pvf A 1 (5-a) a=P) 2 (Weak.refl _) ⟨by decide,by decide,hpv⟩ fun a ha=>?_)
   obtain⟨a1,a2,a3⟩:=ha
   rcases(show a=2∨a=3∨a=4∨a=5 by omega)with rfl | rfl | rfl | rfl
   ·refine so ?_
    conv=>whnf
    repeat (refine⟨by first | decide | exact ixl rfl | exact rgl rfl,?_⟩;conv=>whnf)
    refine⟨_,nz 2 (by decide),?_⟩
    conv=>whnf
    refine bcase (fun(h:(!decide (A 2 1≠0))=true)=>?_) fun(h:(!decide (A 2 1≠0))=false)=>?_
    ·have h0:A 2 1=0:=by simpa using h
     conv=>whnf
     repeat (refine⟨by first | decide | exact ixl rfl | exact rgl rfl,?_⟩;conv=>whnf)
     exact⟨3,by decide,Weak.genT [some 0,some 1,some 2,some 3,some 4,some 5] rfl rfl ⟨_,rfl,rfl,by decide⟩ ⟨gk5 rfl,rs rfl,rs rfl,rs rfl,rs rfl,rs rfl,trivial⟩ ⟨⟨_,rfl,rfl,rfl⟩,⟨_,rfl,rfl⟩,⟨_,rfl,rfl⟩,trivial⟩,by decide,by decide,by rw[← a3];exact(pvf_next h0).symm⟩
    ·have h0:A 2 1≠0:=by simpa using h
     conv=>whnf
     have eP:2=P:=by rw[← a3];exact(pvf_stop h0).symm
     exact⟨(),trivial,Weak.genT [some 0,some 1,some 2,some 3,some 4,some 5] rfl rfl ⟨_,rfl,rfl,by decide⟩ ⟨gk5 rfl,rs rfl,rs rfl,rs rfl,rs rfl,rs rfl,trivial⟩ ⟨⟨_,rfl,rfl,rfl⟩,⟨_,rfl,rfl⟩,⟨_,rfl,by rw[← eP]⟩,trivial⟩⟩
   ·refine so ?_
    conv=>whnf
    repeat (refine⟨by first | decide | exact ixl rfl | exact rgl rfl,?_⟩;conv=>whnf)
    refine⟨_,nz 3 (by decide),?_⟩
    conv=>whnf
    refine bcase (fun(h:(!decide (A 3 1≠0))=true)=>?_) fun(h:(!decide (A 3 1≠0))=false)=>?_
    ·have h0:A 3 1=0:=by simpa using h
     conv=>whnf
     repeat (refine⟨by first | decide | exact ixl rfl | exact rgl rfl,?_⟩;conv=>whnf)
     exact⟨4,by decide,Weak.genT [some 0,some 1,some 2,some 3,some 4,some 5] rfl rfl ⟨_,rfl,rfl,by decide⟩ ⟨gk5 rfl,rs rfl,rs rfl,rs rfl,rs rfl,rs rfl,trivial⟩ ⟨⟨_,rfl,rfl,rfl⟩,⟨_,rfl,rfl⟩,⟨_,rfl,rfl⟩,trivial⟩,by decide,by decide,by rw[← a3];exact(pvf_next h0).symm⟩
    ·have h0:A 3 1≠0:=by simpa using h
     conv=>whnf
     have eP:3=P:=by rw[← a3];exact(pvf_stop h0).symm
     exact⟨(),trivial,Weak.genT [some 0,some 1,some 2,some 3,some 4,some 5] rfl rfl ⟨_,rfl,rfl,by decide⟩ ⟨gk5 rfl,rs rfl,rs rfl,rs rfl,rs rfl,rs rfl,trivial⟩ ⟨⟨_,rfl,rfl,rfl⟩,⟨_,rfl,rfl⟩,⟨_,rfl,by rw[← eP]⟩,trivial⟩⟩
   ·refine so ?_
    conv=>whnf
    repeat (refine⟨by first | decide | exact ixl rfl | exact rgl rfl,?_⟩;conv=>whnf)
    refine⟨_,nz 4 (by decide),?_⟩
    conv=>whnf
    refine bcase (fun(h:(!decide (A 4 1≠0))=true)=>?_) fun(h:(!decide (A 4 1≠0))=false)=>?_
    ·have h0:A 4 1=0:=by simpa using h
     conv=>whnf
     repeat (refine⟨by first | decide | exact ixl rfl | exact rgl rfl,?_⟩;conv=>whnf)
     exact⟨5,by decide,Weak.genT [some 0,some 1,some 2,some 3,some 4,some 5] rfl rfl ⟨_,rfl,rfl,by decide⟩ ⟨gk5 rfl,rs rfl,rs rfl,rs rfl,rs rfl,rs rfl,trivial⟩ ⟨⟨_,rfl,rfl,rfl⟩,⟨_,rfl,rfl⟩,⟨_,rfl,rfl⟩,trivial⟩,by decide,by decide,by rw[← a3];exact(pvf_next h0).symm⟩
    ·have h0:A 4 1≠0:=by simpa using h
     conv=>whnf
     have eP:4=P:=by rw[← a3];exact(pvf_stop h0).symm
     exact⟨(),trivial,Weak.genT [some 0,some 1,some 2,some 3,some 4,some 5] rfl rfl ⟨_,rfl,rfl,by decide⟩ ⟨gk5 rfl,rs rfl,rs rfl,rs rfl,rs rfl,rs rfl,trivial⟩ ⟨⟨_,rfl,rfl,rfl⟩,⟨_,rfl,rfl⟩,⟨_,rfl,by rw[← eP]⟩,trivial⟩⟩
   ·refine so ?_
    conv=>whnf
    repeat (refine⟨by first | decide | exact ixl rfl | exact rgl rfl,?_⟩;conv=>whnf)
    have eP:5=P:=a3
    exact⟨(),trivial,Weak.genT [some 0,some 1,some 2,some 3,some 4,some 5] rfl rfl ⟨_,rfl,rfl,by decide⟩ ⟨gk5 rfl,rs rfl,rs rfl,rs rfl,rs rfl,rs rfl,trivial⟩ ⟨⟨_,rfl,rfl,rfl⟩,⟨_,rfl,rfl⟩,⟨_,rfl,by rw[← eP]⟩,trivial⟩⟩
  refine swp_mid2 (fun _:Unit=>gst [(0,.c (.gs 0 0)),(2,.c (.int .i64 ((2:Nat):Int)))] [gG 5 idn,gq 5 (xch (sw P 2) A 0),gq 5 (xch (sw P 2) A 1),gq 5 (xch (sw P 2) A 2),gq 5 (xch (sw P 2) A 3),gq 5 (xch (sw P 2) A 4)]) (fun _=>P<5) ?_ fun _ hP=>?_
  ·rcases(show P=2∨P=3∨P=4∨P=5 by omega)with rfl | rfl | rfl | rfl
   ·refine so ?_
    conv=>whnf
    repeat (refine⟨by first | decide | exact ixl rfl | exact rgl rfl,?_⟩;conv=>whnf)
    refine so ?_
    conv=>whnf
    repeat (refine⟨by first | decide | exact ixl rfl | exact rgl rfl,?_⟩;conv=>whnf)
    exact⟨(),by decide,Weak.genT [some 0,some 1,some 2,some 3,some 4,some 5] rfl rfl ⟨_,rfl,rfl,by decide⟩ ⟨gk5 rfl,rk rfl fun x hx=>(xch_self A _ x),rk rfl fun x hx=>(xch_self A _ x),rk rfl fun x hx=>(xch_self A _ x),rk rfl fun x hx=>(xch_self A _ x),rk rfl fun x hx=>(xch_self A _ x),trivial⟩ ⟨⟨_,rfl,rfl,rfl⟩,⟨_,rfl,rfl⟩,trivial⟩⟩
   ·refine so ?_
    conv=>whnf
    repeat (refine⟨by first | decide | exact ixl rfl | exact rgl rfl,?_⟩;conv=>whnf)
    refine sq ?_
    conv=>whnf
    repeat (refine⟨by first | decide | exact ixl rfl | exact rgl rfl,?_⟩;conv=>whnf)
    refine⟨gst [(0,.c (.gs 0 0)),(2,.c (.int .i64 ((2:Nat):Int))),(3,.c (.int .i64 ((3:Nat):Int))),(41,.c (.bool true))] [gG 5 idn,gq 5 (A 0),gq 5 (A 1),gq 5 (A 2),gq 5 (A 3),gq 5 (A 4)],Weak.genT [some 0,some 1,some 2,some 3,some 4,some 5] rfl rfl ⟨_,rfl,rfl,by decide⟩ ⟨gk5 rfl,rs rfl,rs rfl,rs rfl,rs rfl,rs rfl,trivial⟩ ⟨⟨_,rfl,rfl,rfl⟩,⟨_,rfl,rfl⟩,⟨_,rfl,rfl⟩,⟨_,rfl,rfl⟩,trivial⟩,?_⟩
    refine swp_cond (b:=true) rfl (fun _=>?_) fun h=>absurd h (by decide)
    refine swp_goT E1m_ok (pre:=[_,_,_]) (post:=[]) rfl rfl (by kernel_rfl) ?_
    conv=>whnf
    refine⟨1,_,by decide,OpGoT.call0 (f:=92) (cs:=[]) rfl rfl live_all (exch_5_3_2 A) (lt_put (lt_put (lt_put (lt_asg (tl:=[(0,.c (.gs 0 0)),(2,.c (.int .i64 _)),(3,.c (.int .i64 _)),(41,.c (.bool true))]) ⟨rfl,rfl,rfl,rfl,trivial⟩) rfl) rfl) rfl),?_⟩
    conv=>whnf
    exact⟨(),by decide,Weak.genT [some 0,some 1,some 2,some 3,some 4,some 5] rfl rfl ⟨_,rfl,rfl,by decide⟩ ⟨gk5 rfl,rs rfl,rs rfl,rs rfl,rs rfl,rs rfl,trivial⟩ ⟨⟨_,rfl,rfl,rfl⟩,⟨_,rfl,rfl⟩,trivial⟩⟩
   ·refine so ?_
    conv=>whnf
    repeat (refine⟨by first | decide | exact ixl rfl | exact rgl rfl,?_⟩;conv=>whnf)
    refine sq ?_
    conv=>whnf
    repeat (refine⟨by first | decide | exact ixl rfl | exact rgl rfl,?_⟩;conv=>whnf)
    refine⟨gst [(0,.c (.gs 0 0)),(2,.c (.int .i64 ((2:Nat):Int))),(3,.c (.int .i64 ((4:Nat):Int))),(41,.c (.bool true))] [gG 5 idn,gq 5 (A 0),gq 5 (A 1),gq 5 (A 2),gq 5 (A 3),gq 5 (A 4)],Weak.genT [some 0,some 1,some 2,some 3,some 4,some 5] rfl rfl ⟨_,rfl,rfl,by decide⟩ ⟨gk5 rfl,rs rfl,rs rfl,rs rfl,rs rfl,rs rfl,trivial⟩ ⟨⟨_,rfl,rfl,rfl⟩,⟨_,rfl,rfl⟩,⟨_,rfl,rfl⟩,⟨_,rfl,rfl⟩,trivial⟩,?_⟩
    refine swp_cond (b:=true) rfl (fun _=>?_) fun h=>absurd h (by decide)
    refine swp_goT E1m_ok (pre:=[_,_,_]) (post:=[]) rfl rfl (by kernel_rfl) ?_
    conv=>whnf
    refine⟨1,_,by decide,OpGoT.call0 (f:=92) (cs:=[]) rfl rfl live_all (exch_5_4_2 A) (lt_put (lt_put (lt_put (lt_asg (tl:=[(0,.c (.gs 0 0)),(2,.c (.int .i64 _)),(3,.c (.int .i64 _)),(41,.c (.bool true))]) ⟨rfl,rfl,rfl,rfl,trivial⟩) rfl) rfl) rfl),?_⟩
    conv=>whnf
    exact⟨(),by decide,Weak.genT [some 0,some 1,some 2,some 3,some 4,some 5] rfl rfl ⟨_,rfl,rfl,by decide⟩ ⟨gk5 rfl,rs rfl,rs rfl,rs rfl,rs rfl,rs rfl,trivial⟩ ⟨⟨_,rfl,rfl,rfl⟩,⟨_,rfl,rfl⟩,trivial⟩⟩
   ·refine so ?_
    conv=>whnf
    repeat (refine⟨by first | decide | exact ixl rfl | exact rgl rfl,?_⟩;conv=>whnf)
    exact⟨(),trivial,Weak.genT [some 0,some 1,some 2,some 3,some 4,some 5] rfl rfl ⟨_,rfl,rfl,by decide⟩ ⟨gk5 rfl,rk rfl fun x hx=>(stp_none hpv _ x),rk rfl fun x hx=>(stp_none hpv _ x),rk rfl fun x hx=>(stp_none hpv _ x),rk rfl fun x hx=>(stp_none hpv _ x),rk rfl fun x hx=>(stp_none hpv _ x),trivial⟩ ⟨⟨_,rfl,rfl,rfl⟩,⟨_,rfl,rfl⟩,trivial⟩⟩
  have hE:=hE hP
  have hpiv:=hpiv hP
  have hst:=fun a b=>stp_some hpv hP a b
  generalize stp 5 2 A=Z at *
  generalize xch (sw P 2) A=A1 at *
  refine sq ?_
  conv=>whnf
  repeat (refine⟨by first | decide | exact ixl rfl | exact rgl rfl,?_⟩;conv=>whnf)
  refine⟨(fun t:Nat=>gst [(0,.c (.gs 0 0)),(2,.c (.int .i64 ((2:Nat):Int))),(4,.c (.int .i64 ((3+t:Nat):Int)))] [gG 5 idn,gq 5 (el 2 A1 t 0),gq 5 (el 2 A1 t 1),gq 5 (el 2 A1 t 2),gq 5 (el 2 A1 t 3),gq 5 (el 2 A1 t 4)]) 0,Weak.genT [some 0,some 1,some 2,some 3,some 4,some 5] rfl rfl ⟨_,rfl,rfl,by decide⟩ ⟨gk5 rfl,rs rfl,rs rfl,rs rfl,rs rfl,rs rfl,trivial⟩ ⟨⟨_,rfl,rfl,rfl⟩,⟨_,rfl,rfl⟩,⟨_,rfl,rfl⟩,trivial⟩,?_⟩
  refine swp_block (swp_loop (fun t:Nat=>gst [(0,.c (.gs 0 0)),(2,.c (.int .i64 ((2:Nat):Int))),(4,.c (.int .i64 ((3+t:Nat):Int)))] [gG 5 idn,gq 5 (el 2 A1 t 0),gq 5 (el 2 A1 t 1),gq 5 (el 2 A1 t 2),gq 5 (el 2 A1 t 3),gq 5 (el 2 A1 t 4)]) (fun t=>5-t) (fun t=>t≤2) 0 (Weak.refl _) (by decide) fun t ht=>?_)
  rcases(show t=0∨t=1∨t=2 by omega)with rfl | rfl | rfl
  ·have hB:=hE 0 (by decide)
   have hq:=hpiv 0
   refine sq ?_
   conv=>whnf
   repeat (refine⟨by first | decide | exact ixl rfl | exact rgl rfl,?_⟩;conv=>whnf)
   refine⟨gst [(0,.c (.gs 0 0)),(2,.c (.int .i64 ((2:Nat):Int))),(4,.c (.int .i64 ((3:Nat):Int)))] [gG 5 idn,gq 5 (el 2 A1 0 0),gq 5 (el 2 A1 0 1),gq 5 (el 2 A1 0 2),gq 5 (el 2 A1 0 3),gq 5 (el 2 A1 0 4)],Weak.genT [some 0,some 1,some 2,some 3,some 4,some 5] rfl rfl ⟨_,rfl,rfl,by decide⟩ ⟨gk5 rfl,rs rfl,rs rfl,rs rfl,rs rfl,rs rfl,trivial⟩ ⟨⟨_,rfl,rfl,rfl⟩,⟨_,rfl,rfl⟩,⟨_,rfl,rfl⟩,trivial⟩,?_⟩
   refine swp_mid (fun _:Unit=>gst [(0,.c (.gs 0 0)),(2,.c (.int .i64 ((2:Nat):Int))),(4,.c (.int .i64 ((3:Nat):Int)))] [gG 5 idn,gq 5 (el1 2 3 (el 2 A1 0) 0),gq 5 (el1 2 3 (el 2 A1 0) 1),gq 5 (el1 2 3 (el 2 A1 0) 2),gq 5 (el1 2 3 (el 2 A1 0) 3),gq 5 (el1 2 3 (el 2 A1 0) 4)]) (fun _=>True) ?_ fun _ _=>?_
   rotate_left
   ·refine so ?_
    conv=>whnf
    repeat (refine⟨by first | decide | exact ixl rfl | exact rgl rfl,?_⟩;conv=>whnf)
    exact⟨1,by decide,Weak.genT [some 0,some 1,some 2,some 3,some 4,some 5] rfl rfl ⟨_,rfl,rfl,by decide⟩ ⟨gk5 rfl,rs rfl,rs rfl,rs rfl,rs rfl,rs rfl,trivial⟩ ⟨⟨_,rfl,rfl,rfl⟩,⟨_,rfl,rfl⟩,⟨_,rfl,rfl⟩,trivial⟩,by decide⟩
   refine swp_block ?_
   generalize el 2 A1 0=B at *
   have hx:∀ a b,a<5->b<5->qlen (B a b)≤KB 5 L:=hB
   have nz:=nz_ok (x:=B 3 1) (hx 3 1 (by decide) (by decide)) (by omega)
   have kq:=qquo_n (hx 3 1 (by decide) (by decide)) (hx 2 1 (by decide) (by decide)) (by omega) hq rfl
   have hu:qlen (B 3 1 / B 2 1)≤2*KB 5 L:=Nat.le_trans (q_div (hx 3 1 (by decide) (by decide)) (hx 2 1 (by decide) (by decide)) (by omega)) (by omega)
   have hel:=fun(h0:¬ B 3 1=0) a b=>el1_some (m:=2) (i:=3) (A:=B) h0 rfl a b
   have hez:=fun(h0:B 3 1=0) a b=>el1_zero (m:=2) (i:=3) (A:=B) h0 a b
   change ∀(h0:¬ B 3 1=0) (a b:Nat),el1 2 3 B a b=ca (B 3 1 / B 2 1) 3 2 (ra (B 3 1 / B 2 1) 3 2 B) a b at hel
   generalize el1 2 3 B=Y at *
   generalize B 3 1 / B 2 1=u at *
   have m1:∀ j,j<5->FnOK Tryz.prog true 46 [.g (nq u),.g (nq (md1 u 3 2 B j 2 j))] (.g (nq (u*B 2 j))):=fun j hj=>qmul_n hu (by rw[md1_m u (by decide)];exact hx 2 j (by decide) hj) (by omega) (by rw[md1_m u (by decide)])
   have m2:∀ j,j<5->FnOK Tryz.prog true 50 [.g (nq (md1 u 3 2 B j 3 j)),.g (nq (u*B 2 j))] (.g (nq (B 3 j-u*B 2 j))):=fun j hj=>qsub_n (by rw[md1_old];exact hx 3 j (by decide) hj) (q_mul hu (hx 2 j (by decide) hj) (by omega)) (by omega) (by omega) (by rw[md1_old])
   have hR:=ra_kb (i:=3) hB hu (show 2<5 by decide) hK
   have w1:∀ j,j<5->FnOK Tryz.prog true 46 [.g (nq u),.g (nq (md2 u 3 2 (ra u 3 2 B) j j 3))] (.g (nq (u*ra u 3 2 B j 3))):=fun j hj=>qmul_n hu (by rw[md2_old];exact hR j 3 hj (by decide)) (by omega) (by rw[md2_old])
   have w2:∀ j,j<5->FnOK Tryz.prog true 93 [.g (nq (md2 u 3 2 (ra u 3 2 B) j j 2)),.g (nq (u*ra u 3 2 B j 3))] (.g (nq (ra u 3 2 B j 2+u*ra u 3 2 B j 3))):=fun j hj=>qadd_n (by rw[md2_old];exact hR j 2 hj (by decide)) (q_mul hu (hR j 3 hj (by decide)) (by omega)) (by omega) (by rw[md2_old])
   refine sq ?_
   conv=>whnf
   repeat (refine⟨by first | decide | exact ixl rfl | exact rgl rfl,?_⟩;conv=>whnf)
   refine⟨_,nz,?_⟩
   conv=>whnf
   refine bcase (fun(h:(!decide (B 3 1≠0))=true)=>?_) fun(h:(!decide (B 3 1≠0))=false)=>?_
   ·have h0:B 3 1=0:=by simpa using h
    conv=>whnf
    exact⟨(),trivial,Weak.genT [some 0,some 1,some 2,some 3,some 4,some 5] rfl rfl ⟨_,rfl,rfl,by decide⟩ ⟨gk5 rfl,rk rfl fun x hx=>(hez h0 _ x),rk rfl fun x hx=>(hez h0 _ x),rk rfl fun x hx=>(hez h0 _ x),rk rfl fun x hx=>(hez h0 _ x),rk rfl fun x hx=>(hez h0 _ x),trivial⟩ ⟨⟨_,rfl,rfl,rfl⟩,⟨_,rfl,rfl⟩,⟨_,rfl,rfl⟩,trivial⟩⟩
   have h0:¬ B 3 1=0:=by simpa using h
   conv=>whnf
   refine⟨gst [(0,.c (.gs 0 0)),(2,.c (.int .i64 ((2:Nat):Int))),(4,.c (.int .i64 ((3:Nat):Int)))] [gG 5 idn,gq 5 (B 0),gq 5 (B 1),gq 5 (B 2),gq 5 (B 3),gq 5 (B 4)],Weak.genT [some 0,some 1,some 2,some 3,some 4,some 5] rfl rfl ⟨_,rfl,rfl,by decide⟩ ⟨gk5 rfl,rs rfl,rs rfl,rs rfl,rs rfl,rs rfl,trivial⟩ ⟨⟨_,rfl,rfl,rfl⟩,⟨_,rfl,rfl⟩,⟨_,rfl,rfl⟩,trivial⟩,?_⟩
   have hel:=hel h0
   refine sq ?_
   conv=>whnf
   repeat (refine⟨by first | decide | exact ixl rfl | exact rgl rfl,?_⟩;conv=>whnf)
   refine⟨_,kq,?_⟩
   conv=>whnf
   refine⟨gst [(0,.c (.gs 0 0)),(2,.c (.int .i64 ((2:Nat):Int))),(4,.c (.int .i64 ((3:Nat):Int))),(5,.c (.p 6 0 4 0 0))] [gG 5 idn,gq 5 (B 0),gq 5 (B 1),gq 5 (B 2),gq 5 (B 3),gq 5 (B 4),⟨38,4,1,boxF (nq u)⟩],Weak.genT [some 0,some 1,some 2,some 3,some 4,some 5,some 26] rfl rfl ⟨_,rfl,rfl,by decide⟩ ⟨gk5 rfl,rs rfl,rs rfl,rs rfl,rs rfl,rs rfl,Rf.boxU rfl rfl rfl,trivial⟩ ⟨⟨_,rfl,rfl,rfl⟩,⟨_,rfl,rfl⟩,⟨_,rfl,rfl⟩,⟨_,rfl,rfl,rfl⟩,trivial⟩,?_⟩
   refine swp_mid (fun _:Unit=>gst [(0,.c (.gs 0 0)),(2,.c (.int .i64 ((2:Nat):Int))),(4,.c (.int .i64 ((3:Nat):Int))),(5,.c (.p 6 0 4 0 0))] [gG 5 idn,gq 5 (ra u 3 2 B 0),gq 5 (ra u 3 2 B 1),gq 5 (ra u 3 2 B 2),gq 5 (ra u 3 2 B 3),gq 5 (ra u 3 2 B 4),⟨38,4,1,boxF (nq u)⟩]) (fun _=>True) ?_ fun _ _=>?_
   ·refine sq ?_
    conv=>whnf
    repeat (refine⟨by first | decide | exact ixl rfl | exact rgl rfl,?_⟩;conv=>whnf)
    refine⟨(fun j:Nat=>gst [(0,.c (.gs 0 0)),(2,.c (.int .i64 ((2:Nat):Int))),(4,.c (.int .i64 ((3:Nat):Int))),(5,.c (.p 6 0 4 0 0)),(85,.c (.int .i64 5)),(86,.c (.int .i64 ((j:Nat):Int)))] [gG 5 idn,gq 5 (md1 u 3 2 B j 0),gq 5 (md1 u 3 2 B j 1),gq 5 (md1 u 3 2 B j 2),gq 5 (md1 u 3 2 B j 3),gq 5 (md1 u 3 2 B j 4),⟨38,4,1,boxF (nq u)⟩]) 0,Weak.genT [some 0,some 1,some 2,some 3,some 4,some 5,some 6] rfl rfl ⟨_,rfl,rfl,by decide⟩ ⟨gk5 rfl,rk rfl fun x hx=>(md1_zero u _ _ B _ x),rk rfl fun x hx=>(md1_zero u _ _ B _ x),rk rfl fun x hx=>(md1_zero u _ _ B _ x),rk rfl fun x hx=>(md1_zero u _ _ B _ x),rk rfl fun x hx=>(md1_zero u _ _ B _ x),Rf.boxK rfl rfl,trivial⟩ ⟨⟨_,rfl,rfl,rfl⟩,⟨_,rfl,rfl⟩,⟨_,rfl,rfl⟩,⟨_,rfl,rfl,rfl⟩,⟨_,rfl,rfl⟩,⟨_,rfl,rfl⟩,trivial⟩,?_⟩
    refine swp_block (swp_loop (fun j:Nat=>gst [(0,.c (.gs 0 0)),(2,.c (.int .i64 ((2:Nat):Int))),(4,.c (.int .i64 ((3:Nat):Int))),(5,.c (.p 6 0 4 0 0)),(85,.c (.int .i64 5)),(86,.c (.int .i64 ((j:Nat):Int)))] [gG 5 idn,gq 5 (md1 u 3 2 B j 0),gq 5 (md1 u 3 2 B j 1),gq 5 (md1 u 3 2 B j 2),gq 5 (md1 u 3 2 B j 3),gq 5 (md1 u 3 2 B j 4),⟨38,4,1,boxF (nq u)⟩]) (fun j=>5-j) (fun j=>j≤5) 0 (Weak.refl _) (by decide) fun j hj=>?_)
    have m1:=m1 j
    have m2:=m2 j
    have hj0:(0:Int)≤(j:Int):=by omega
    refine so ?_
    conv=>whnf
    refine bcase (fun(h:decide ((j:Int)<5)=true)=>?_) fun(h:decide ((j:Int)<5)=false)=>?_
    ·have h:=of_decide_eq_true h
     have m1:=m1 (by omega)
     have m2:=m2 (by omega)
     have hj1:(j:Int)<((5:Nat):Int):=by omega
     conv=>whnf
     repeat (refine⟨by first | exact hj0 | exact hj1 | decide | exact ixl rfl | exact rgl (by decide),?_⟩;conv=>whnf)
     refine⟨_,m1,?_⟩
     conv=>whnf
     repeat (refine⟨by first | exact hj0 | exact hj1 | decide | exact ixl rfl | exact rgl (by decide),?_⟩;conv=>whnf)
     refine⟨_,m2,?_⟩
     conv=>whnf
     repeat (refine⟨by first | exact hj0 | exact hj1 | decide | exact ixl rfl | exact rgl (by decide),?_⟩;conv=>whnf)
     refine⟨i64_range (by omega) (by omega),?_⟩
     conv=>whnf
     exact⟨j+1,by omega,Weak.genT [some 0,some 1,some 2,some 3,some 4,some 5,some 6] rfl rfl ⟨_,rfl,rfl,by decide⟩ ⟨gk5 rfl,rk rfl fun x hx=>(md1_keep u (by decide) B j x),rk rfl fun x hx=>(md1_keep u (by decide) B j x),rk rfl fun x hx=>(md1_keep u (by decide) B j x),ru rfl fun x=>(md1_step u 3 2 B j x),rk rfl fun x hx=>(md1_keep u (by decide) B j x),Rf.boxK rfl rfl,trivial⟩ ⟨⟨_,rfl,rfl,rfl⟩,⟨_,rfl,rfl⟩,⟨_,rfl,rfl⟩,⟨_,rfl,rfl,rfl⟩,⟨_,rfl,rfl⟩,⟨_,rfl,rfl⟩,trivial⟩,by omega⟩
    ·have h:=of_decide_eq_false h
     obtain rfl:j=5:=by omega
     conv=>whnf
     exact⟨(),trivial,Weak.genT [some 0,some 1,some 2,some 3,some 4,some 5,some 6] rfl rfl ⟨_,rfl,rfl,by decide⟩ ⟨gk5 rfl,rk rfl fun x hx=>(md1_all u _ _ B hx _),rk rfl fun x hx=>(md1_all u _ _ B hx _),rk rfl fun x hx=>(md1_all u _ _ B hx _),rk rfl fun x hx=>(md1_all u _ _ B hx _),rk rfl fun x hx=>(md1_all u _ _ B hx _),Rf.boxK rfl rfl,trivial⟩ ⟨⟨_,rfl,rfl,rfl⟩,⟨_,rfl,rfl⟩,⟨_,rfl,rfl⟩,⟨_,rfl,rfl,rfl⟩,trivial⟩⟩
   generalize ra u 3 2 B=D at *
   refine sq ?_
   conv=>whnf
   repeat (refine⟨by first | decide | exact ixl rfl | exact rgl rfl,?_⟩;conv=>whnf)
   refine⟨(fun j:Nat=>gst [(0,.c (.gs 0 0)),(2,.c (.int .i64 ((2:Nat):Int))),(4,.c (.int .i64 ((3:Nat):Int))),(5,.c (.p 6 0 4 0 0)),(114,.c (.int .i64 5)),(115,.c (.int .i64 ((j:Nat):Int)))] [gG 5 idn,gq 5 (md2 u 3 2 D j 0),gq 5 (md2 u 3 2 D j 1),gq 5 (md2 u 3 2 D j 2),gq 5 (md2 u 3 2 D j 3),gq 5 (md2 u 3 2 D j 4),⟨38,4,1,boxF (nq u)⟩]) 0,Weak.genT [some 0,some 1,some 2,some 3,some 4,some 5,some 6] rfl rfl ⟨_,rfl,rfl,by decide⟩ ⟨gk5 rfl,rk rfl fun x hx=>(md2_zero u _ _ D _ x),rk rfl fun x hx=>(md2_zero u _ _ D _ x),rk rfl fun x hx=>(md2_zero u _ _ D _ x),rk rfl fun x hx=>(md2_zero u _ _ D _ x),rk rfl fun x hx=>(md2_zero u _ _ D _ x),Rf.boxK rfl rfl,trivial⟩ ⟨⟨_,rfl,rfl,rfl⟩,⟨_,rfl,rfl⟩,⟨_,rfl,rfl⟩,⟨_,rfl,rfl,rfl⟩,⟨_,rfl,rfl⟩,⟨_,rfl,rfl⟩,trivial⟩,?_⟩
   refine swp_block (swp_loop (fun j:Nat=>gst [(0,.c (.gs 0 0)),(2,.c (.int .i64 ((2:Nat):Int))),(4,.c (.int .i64 ((3:Nat):Int))),(5,.c (.p 6 0 4 0 0)),(114,.c (.int .i64 5)),(115,.c (.int .i64 ((j:Nat):Int)))] [gG 5 idn,gq 5 (md2 u 3 2 D j 0),gq 5 (md2 u 3 2 D j 1),gq 5 (md2 u 3 2 D j 2),gq 5 (md2 u 3 2 D j 3),gq 5 (md2 u 3 2 D j 4),⟨38,4,1,boxF (nq u)⟩]) (fun j=>5-j) (fun j=>j≤5) 0 (Weak.refl _) (by decide) fun j hj=>?_)
   rcases(show j=0∨j=1∨j=2∨j=3∨j=4∨j=5 by omega)with rfl | rfl | rfl | rfl | rfl | rfl
   ·refine so ?_
    conv=>whnf
    repeat (refine⟨by first | decide | exact ixl rfl | exact rgl rfl,?_⟩;conv=>whnf)
    refine⟨_,w1 0 (by decide),?_⟩
    conv=>whnf
    repeat (refine⟨by first | decide | exact ixl rfl | exact rgl rfl,?_⟩;conv=>whnf)
    refine⟨_,w2 0 (by decide),?_⟩
    conv=>whnf
    repeat (refine⟨by first | decide | exact ixl rfl | exact rgl rfl,?_⟩;conv=>whnf)
    exact⟨1,by decide,Weak.genT [some 0,some 1,some 2,some 3,some 4,some 5,some 6] rfl rfl ⟨_,rfl,rfl,by decide⟩ ⟨gk5 rfl,ru rfl fun x=>(md2_step u 3 2 D 0 x),rk rfl fun x hx=>(md2_keep u (by decide) D x),rk rfl fun x hx=>(md2_keep u (by decide) D x),rk rfl fun x hx=>(md2_keep u (by decide) D x),rk rfl fun x hx=>(md2_keep u (by decide) D x),Rf.boxK rfl rfl,trivial⟩ ⟨⟨_,rfl,rfl,rfl⟩,⟨_,rfl,rfl⟩,⟨_,rfl,rfl⟩,⟨_,rfl,rfl,rfl⟩,⟨_,rfl,rfl⟩,⟨_,rfl,rfl⟩,trivial⟩,by decide⟩
   ·refine so ?_
    conv=>whnf
    repeat (refine⟨by first | decide | exact ixl rfl | exact rgl rfl,?_⟩;conv=>whnf)
    refine⟨_,w1 1 (by decide),?_⟩
    conv=>whnf
    repeat (refine⟨by first | decide | exact ixl rfl | exact rgl rfl,?_⟩;conv=>whnf)
    refine⟨_,w2 1 (by decide),?_⟩
    conv=>whnf
    repeat (refine⟨by first | decide | exact ixl rfl | exact rgl rfl,?_⟩;conv=>whnf)
    exact⟨2,by decide,Weak.genT [some 0,some 1,some 2,some 3,some 4,some 5,some 6] rfl rfl ⟨_,rfl,rfl,by decide⟩ ⟨gk5 rfl,rk rfl fun x hx=>(md2_keep u (by decide) D x),ru rfl fun x=>(md2_step u 3 2 D 1 x),rk rfl fun x hx=>(md2_keep u (by decide) D x),rk rfl fun x hx=>(md2_keep u (by decide) D x),rk rfl fun x hx=>(md2_keep u (by decide) D x),Rf.boxK rfl rfl,trivial⟩ ⟨⟨_,rfl,rfl,rfl⟩,⟨_,rfl,rfl⟩,⟨_,rfl,rfl⟩,⟨_,rfl,rfl,rfl⟩,⟨_,rfl,rfl⟩,⟨_,rfl,rfl⟩,trivial⟩,by decide⟩
   ·refine so ?_
    conv=>whnf
    repeat (refine⟨by first | decide | exact ixl rfl | exact rgl rfl,?_⟩;conv=>whnf)
    refine⟨_,w1 2 (by decide),?_⟩
    conv=>whnf
    repeat (refine⟨by first | decide | exact ixl rfl | exact rgl rfl,?_⟩;conv=>whnf)
    refine⟨_,w2 2 (by decide),?_⟩
    conv=>whnf
    repeat (refine⟨by first | decide | exact ixl rfl | exact rgl rfl,?_⟩;conv=>whnf)
    exact⟨3,by decide,Weak.genT [some 0,some 1,some 2,some 3,some 4,some 5,some 6] rfl rfl ⟨_,rfl,rfl,by decide⟩ ⟨gk5 rfl,rk rfl fun x hx=>(md2_keep u (by decide) D x),rk rfl fun x hx=>(md2_keep u (by decide) D x),ru rfl fun x=>(md2_step u 3 2 D 2 x),rk rfl fun x hx=>(md2_keep u (by decide) D x),rk rfl fun x hx=>(md2_keep u (by decide) D x),Rf.boxK rfl rfl,trivial⟩ ⟨⟨_,rfl,rfl,rfl⟩,⟨_,rfl,rfl⟩,⟨_,rfl,rfl⟩,⟨_,rfl,rfl,rfl⟩,⟨_,rfl,rfl⟩,⟨_,rfl,rfl⟩,trivial⟩,by decide⟩
   ·refine so ?_
    conv=>whnf
    repeat (refine⟨by first | decide | exact ixl rfl | exact rgl rfl,?_⟩;conv=>whnf)
    refine⟨_,w1 3 (by decide),?_⟩
    conv=>whnf
    repeat (refine⟨by first | decide | exact ixl rfl | exact rgl rfl,?_⟩;conv=>whnf)
    refine⟨_,w2 3 (by decide),?_⟩
    conv=>whnf
    repeat (refine⟨by first | decide | exact ixl rfl | exact rgl rfl,?_⟩;conv=>whnf)
    exact⟨4,by decide,Weak.genT [some 0,some 1,some 2,some 3,some 4,some 5,some 6] rfl rfl ⟨_,rfl,rfl,by decide⟩ ⟨gk5 rfl,rk rfl fun x hx=>(md2_keep u (by decide) D x),rk rfl fun x hx=>(md2_keep u (by decide) D x),rk rfl fun x hx=>(md2_keep u (by decide) D x),ru rfl fun x=>(md2_step u 3 2 D 3 x),rk rfl fun x hx=>(md2_keep u (by decide) D x),Rf.boxK rfl rfl,trivial⟩ ⟨⟨_,rfl,rfl,rfl⟩,⟨_,rfl,rfl⟩,⟨_,rfl,rfl⟩,⟨_,rfl,rfl,rfl⟩,⟨_,rfl,rfl⟩,⟨_,rfl,rfl⟩,trivial⟩,by decide⟩
   ·refine so ?_
    conv=>whnf
    repeat (refine⟨by first | decide | exact ixl rfl | exact rgl rfl,?_⟩;conv=>whnf)
    refine⟨_,w1 4 (by decide),?_⟩
    conv=>whnf
    repeat (refine⟨by first | decide | exact ixl rfl | exact rgl rfl,?_⟩;conv=>whnf)
    refine⟨_,w2 4 (by decide),?_⟩
    conv=>whnf
    repeat (refine⟨by first | decide | exact ixl rfl | exact rgl rfl,?_⟩;conv=>whnf)
    exact⟨5,by decide,Weak.genT [some 0,some 1,some 2,some 3,some 4,some 5,some 6] rfl rfl ⟨_,rfl,rfl,by decide⟩ ⟨gk5 rfl,rk rfl fun x hx=>(md2_keep u (by decide) D x),rk rfl fun x hx=>(md2_keep u (by decide) D x),rk rfl fun x hx=>(md2_keep u (by decide) D x),rk rfl fun x hx=>(md2_keep u (by decide) D x),ru rfl fun x=>(md2_step u 3 2 D 4 x),Rf.boxK rfl rfl,trivial⟩ ⟨⟨_,rfl,rfl,rfl⟩,⟨_,rfl,rfl⟩,⟨_,rfl,rfl⟩,⟨_,rfl,rfl,rfl⟩,⟨_,rfl,rfl⟩,⟨_,rfl,rfl⟩,trivial⟩,by decide⟩
   ·refine so ?_
    conv=>whnf
    exact⟨(),trivial,Weak.genT [some 0,some 1,some 2,some 3,some 4,some 5] rfl rfl ⟨_,rfl,rfl,by decide⟩ ⟨gk5 rfl,rk rfl fun x hx=>((hel _ x).trans (md2_all u _ _ D (by decide) x)),rk rfl fun x hx=>((hel _ x).trans (md2_all u _ _ D (by decide) x)),rk rfl fun x hx=>((hel _ x).trans (md2_all u _ _ D (by decide) x)),rk rfl fun x hx=>((hel _ x).trans (md2_all u _ _ D (by decide) x)),rk rfl fun x hx=>((hel _ x).trans (md2_all u _ _ D (by decide) x)),trivial⟩ ⟨⟨_,rfl,rfl,rfl⟩,⟨_,rfl,rfl⟩,⟨_,rfl,rfl⟩,trivial⟩⟩
  ·have hB:=hE 1 (by decide)
   have hq:=hpiv 1
   refine sq ?_
   conv=>whnf
   repeat (refine⟨by first | decide | exact ixl rfl | exact rgl rfl,?_⟩;conv=>whnf)
   refine⟨gst [(0,.c (.gs 0 0)),(2,.c (.int .i64 ((2:Nat):Int))),(4,.c (.int .i64 ((4:Nat):Int)))] [gG 5 idn,gq 5 (el 2 A1 1 0),gq 5 (el 2 A1 1 1),gq 5 (el 2 A1 1 2),gq 5 (el 2 A1 1 3),gq 5 (el 2 A1 1 4)],Weak.genT [some 0,some 1,some 2,some 3,some 4,some 5] rfl rfl ⟨_,rfl,rfl,by decide⟩ ⟨gk5 rfl,rs rfl,rs rfl,rs rfl,rs rfl,rs rfl,trivial⟩ ⟨⟨_,rfl,rfl,rfl⟩,⟨_,rfl,rfl⟩,⟨_,rfl,rfl⟩,trivial⟩,?_⟩
   refine swp_mid (fun _:Unit=>gst [(0,.c (.gs 0 0)),(2,.c (.int .i64 ((2:Nat):Int))),(4,.c (.int .i64 ((4:Nat):Int)))] [gG 5 idn,gq 5 (el1 2 4 (el 2 A1 1) 0),gq 5 (el1 2 4 (el 2 A1 1) 1),gq 5 (el1 2 4 (el 2 A1 1) 2),gq 5 (el1 2 4 (el 2 A1 1) 3),gq 5 (el1 2 4 (el 2 A1 1) 4)]) (fun _=>True) ?_ fun _ _=>?_
   rotate_left
   ·refine so ?_
    conv=>whnf
    repeat (refine⟨by first | decide | exact ixl rfl | exact rgl rfl,?_⟩;conv=>whnf)
    exact⟨2,by decide,Weak.genT [some 0,some 1,some 2,some 3,some 4,some 5] rfl rfl ⟨_,rfl,rfl,by decide⟩ ⟨gk5 rfl,rs rfl,rs rfl,rs rfl,rs rfl,rs rfl,trivial⟩ ⟨⟨_,rfl,rfl,rfl⟩,⟨_,rfl,rfl⟩,⟨_,rfl,rfl⟩,trivial⟩,by decide⟩
   refine swp_block ?_
   generalize el 2 A1 1=B at *
   have hx:∀ a b,a<5->b<5->qlen (B a b)≤KB 5 L:=hB
   have nz:=nz_ok (x:=B 4 1) (hx 4 1 (by decide) (by decide)) (by omega)
   have kq:=qquo_n (hx 4 1 (by decide) (by decide)) (hx 2 1 (by decide) (by decide)) (by omega) hq rfl
   have hu:qlen (B 4 1 / B 2 1)≤2*KB 5 L:=Nat.le_trans (q_div (hx 4 1 (by decide) (by decide)) (hx 2 1 (by decide) (by decide)) (by omega)) (by omega)
   have hel:=fun(h0:¬ B 4 1=0) a b=>el1_some (m:=2) (i:=4) (A:=B) h0 rfl a b
   have hez:=fun(h0:B 4 1=0) a b=>el1_zero (m:=2) (i:=4) (A:=B) h0 a b
   change ∀(h0:¬ B 4 1=0) (a b:Nat),el1 2 4 B a b=ca (B 4 1 / B 2 1) 4 2 (ra (B 4 1 / B 2 1) 4 2 B) a b at hel
   generalize el1 2 4 B=Y at *
   generalize B 4 1 / B 2 1=u at *
   have m1:∀ j,j<5->FnOK Tryz.prog true 46 [.g (nq u),.g (nq (md1 u 4 2 B j 2 j))] (.g (nq (u*B 2 j))):=fun j hj=>qmul_n hu (by rw[md1_m u (by decide)];exact hx 2 j (by decide) hj) (by omega) (by rw[md1_m u (by decide)])
   have m2:∀ j,j<5->FnOK Tryz.prog true 50 [.g (nq (md1 u 4 2 B j 4 j)),.g (nq (u*B 2 j))] (.g (nq (B 4 j-u*B 2 j))):=fun j hj=>qsub_n (by rw[md1_old];exact hx 4 j (by decide) hj) (q_mul hu (hx 2 j (by decide) hj) (by omega)) (by omega) (by omega) (by rw[md1_old])
   have hR:=ra_kb (i:=4) hB hu (show 2<5 by decide) hK
   have w1:∀ j,j<5->FnOK Tryz.prog true 46 [.g (nq u),.g (nq (md2 u 4 2 (ra u 4 2 B) j j 4))] (.g (nq (u*ra u 4 2 B j 4))):=fun j hj=>qmul_n hu (by rw[md2_old];exact hR j 4 hj (by decide)) (by omega) (by rw[md2_old])
   have w2:∀ j,j<5->FnOK Tryz.prog true 93 [.g (nq (md2 u 4 2 (ra u 4 2 B) j j 2)),.g (nq (u*ra u 4 2 B j 4))] (.g (nq (ra u 4 2 B j 2+u*ra u 4 2 B j 4))):=fun j hj=>qadd_n (by rw[md2_old];exact hR j 2 hj (by decide)) (q_mul hu (hR j 4 hj (by decide)) (by omega)) (by omega) (by rw[md2_old])
   refine sq ?_
   conv=>whnf
   repeat (refine⟨by first | decide | exact ixl rfl | exact rgl rfl,?_⟩;conv=>whnf)
   refine⟨_,nz,?_⟩
   conv=>whnf
   refine bcase (fun(h:(!decide (B 4 1≠0))=true)=>?_) fun(h:(!decide (B 4 1≠0))=false)=>?_
   ·have h0:B 4 1=0:=by simpa using h
    conv=>whnf
    exact⟨(),trivial,Weak.genT [some 0,some 1,some 2,some 3,some 4,some 5] rfl rfl ⟨_,rfl,rfl,by decide⟩ ⟨gk5 rfl,rk rfl fun x hx=>(hez h0 _ x),rk rfl fun x hx=>(hez h0 _ x),rk rfl fun x hx=>(hez h0 _ x),rk rfl fun x hx=>(hez h0 _ x),rk rfl fun x hx=>(hez h0 _ x),trivial⟩ ⟨⟨_,rfl,rfl,rfl⟩,⟨_,rfl,rfl⟩,⟨_,rfl,rfl⟩,trivial⟩⟩
   have h0:¬ B 4 1=0:=by simpa using h
   conv=>whnf
   refine⟨gst [(0,.c (.gs 0 0)),(2,.c (.int .i64 ((2:Nat):Int))),(4,.c (.int .i64 ((4:Nat):Int)))] [gG 5 idn,gq 5 (B 0),gq 5 (B 1),gq 5 (B 2),gq 5 (B 3),gq 5 (B 4)],Weak.genT [some 0,some 1,some 2,some 3,some 4,some 5] rfl rfl ⟨_,rfl,rfl,by decide⟩ ⟨gk5 rfl,rs rfl,rs rfl,rs rfl,rs rfl,rs rfl,trivial⟩ ⟨⟨_,rfl,rfl,rfl⟩,⟨_,rfl,rfl⟩,⟨_,rfl,rfl⟩,trivial⟩,?_⟩
   have hel:=hel h0
   refine sq ?_
   conv=>whnf
   repeat (refine⟨by first | decide | exact ixl rfl | exact rgl rfl,?_⟩;conv=>whnf)
   refine⟨_,kq,?_⟩
   conv=>whnf
   refine⟨gst [(0,.c (.gs 0 0)),(2,.c (.int .i64 ((2:Nat):Int))),(4,.c (.int .i64 ((4:Nat):Int))),(5,.c (.p 6 0 4 0 0))] [gG 5 idn,gq 5 (B 0),gq 5 (B 1),gq 5 (B 2),gq 5 (B 3),gq 5 (B 4),⟨38,4,1,boxF (nq u)⟩],Weak.genT [some 0,some 1,some 2,some 3,some 4,some 5,some 26] rfl rfl ⟨_,rfl,rfl,by decide⟩ ⟨gk5 rfl,rs rfl,rs rfl,rs rfl,rs rfl,rs rfl,Rf.boxU rfl rfl rfl,trivial⟩ ⟨⟨_,rfl,rfl,rfl⟩,⟨_,rfl,rfl⟩,⟨_,rfl,rfl⟩,⟨_,rfl,rfl,rfl⟩,trivial⟩,?_⟩
   refine swp_mid (fun _:Unit=>gst [(0,.c (.gs 0 0)),(2,.c (.int .i64 ((2:Nat):Int))),(4,.c (.int .i64 ((4:Nat):Int))),(5,.c (.p 6 0 4 0 0))] [gG 5 idn,gq 5 (ra u 4 2 B 0),gq 5 (ra u 4 2 B 1),gq 5 (ra u 4 2 B 2),gq 5 (ra u 4 2 B 3),gq 5 (ra u 4 2 B 4),⟨38,4,1,boxF (nq u)⟩]) (fun _=>True) ?_ fun _ _=>?_
   ·refine sq ?_
    conv=>whnf
    repeat (refine⟨by first | decide | exact ixl rfl | exact rgl rfl,?_⟩;conv=>whnf)
    refine⟨(fun j:Nat=>gst [(0,.c (.gs 0 0)),(2,.c (.int .i64 ((2:Nat):Int))),(4,.c (.int .i64 ((4:Nat):Int))),(5,.c (.p 6 0 4 0 0)),(85,.c (.int .i64 5)),(86,.c (.int .i64 ((j:Nat):Int)))] [gG 5 idn,gq 5 (md1 u 4 2 B j 0),gq 5 (md1 u 4 2 B j 1),gq 5 (md1 u 4 2 B j 2),gq 5 (md1 u 4 2 B j 3),gq 5 (md1 u 4 2 B j 4),⟨38,4,1,boxF (nq u)⟩]) 0,Weak.genT [some 0,some 1,some 2,some 3,some 4,some 5,some 6] rfl rfl ⟨_,rfl,rfl,by decide⟩ ⟨gk5 rfl,rk rfl fun x hx=>(md1_zero u _ _ B _ x),rk rfl fun x hx=>(md1_zero u _ _ B _ x),rk rfl fun x hx=>(md1_zero u _ _ B _ x),rk rfl fun x hx=>(md1_zero u _ _ B _ x),rk rfl fun x hx=>(md1_zero u _ _ B _ x),Rf.boxK rfl rfl,trivial⟩ ⟨⟨_,rfl,rfl,rfl⟩,⟨_,rfl,rfl⟩,⟨_,rfl,rfl⟩,⟨_,rfl,rfl,rfl⟩,⟨_,rfl,rfl⟩,⟨_,rfl,rfl⟩,trivial⟩,?_⟩
    refine swp_block (swp_loop (fun j:Nat=>gst [(0,.c (.gs 0 0)),(2,.c (.int .i64 ((2:Nat):Int))),(4,.c (.int .i64 ((4:Nat):Int))),(5,.c (.p 6 0 4 0 0)),(85,.c (.int .i64 5)),(86,.c (.int .i64 ((j:Nat):Int)))] [gG 5 idn,gq 5 (md1 u 4 2 B j 0),gq 5 (md1 u 4 2 B j 1),gq 5 (md1 u 4 2 B j 2),gq 5 (md1 u 4 2 B j 3),gq 5 (md1 u 4 2 B j 4),⟨38,4,1,boxF (nq u)⟩]) (fun j=>5-j) (fun j=>j≤5) 0 (Weak.refl _) (by decide) fun j hj=>?_)
    have m1:=m1 j
    have m2:=m2 j
    have hj0:(0:Int)≤(j:Int):=by omega
    refine so ?_
    conv=>whnf
    refine bcase (fun(h:decide ((j:Int)<5)=true)=>?_) fun(h:decide ((j:Int)<5)=false)=>?_
    ·have h:=of_decide_eq_true h
     have m1:=m1 (by omega)
     have m2:=m2 (by omega)
     have hj1:(j:Int)<((5:Nat):Int):=by omega
     conv=>whnf
     repeat (refine⟨by first | exact hj0 | exact hj1 | decide | exact ixl rfl | exact rgl (by decide),?_⟩;conv=>whnf)
     refine⟨_,m1,?_⟩
     conv=>whnf
     repeat (refine⟨by first | exact hj0 | exact hj1 | decide | exact ixl rfl | exact rgl (by decide),?_⟩;conv=>whnf)
     refine⟨_,m2,?_⟩
     conv=>whnf
     repeat (refine⟨by first | exact hj0 | exact hj1 | decide | exact ixl rfl | exact rgl (by decide),?_⟩;conv=>whnf)
     refine⟨i64_range (by omega) (by omega),?_⟩
     conv=>whnf
     exact⟨j+1,by omega,Weak.genT [some 0,some 1,some 2,some 3,some 4,some 5,some 6] rfl rfl ⟨_,rfl,rfl,by decide⟩ ⟨gk5 rfl,rk rfl fun x hx=>(md1_keep u (by decide) B j x),rk rfl fun x hx=>(md1_keep u (by decide) B j x),rk rfl fun x hx=>(md1_keep u (by decide) B j x),rk rfl fun x hx=>(md1_keep u (by decide) B j x),ru rfl fun x=>(md1_step u 4 2 B j x),Rf.boxK rfl rfl,trivial⟩ ⟨⟨_,rfl,rfl,rfl⟩,⟨_,rfl,rfl⟩,⟨_,rfl,rfl⟩,⟨_,rfl,rfl,rfl⟩,⟨_,rfl,rfl⟩,⟨_,rfl,rfl⟩,trivial⟩,by omega⟩
    ·have h:=of_decide_eq_false h
     obtain rfl:j=5:=by omega
     conv=>whnf
     exact⟨(),trivial,Weak.genT [some 0,some 1,some 2,some 3,some 4,some 5,some 6] rfl rfl ⟨_,rfl,rfl,by decide⟩ ⟨gk5 rfl,rk rfl fun x hx=>(md1_all u _ _ B hx _),rk rfl fun x hx=>(md1_all u _ _ B hx _),rk rfl fun x hx=>(md1_all u _ _ B hx _),rk rfl fun x hx=>(md1_all u _ _ B hx _),rk rfl fun x hx=>(md1_all u _ _ B hx _),Rf.boxK rfl rfl,trivial⟩ ⟨⟨_,rfl,rfl,rfl⟩,⟨_,rfl,rfl⟩,⟨_,rfl,rfl⟩,⟨_,rfl,rfl,rfl⟩,trivial⟩⟩
   generalize ra u 4 2 B=D at *
   refine sq ?_
   conv=>whnf
   repeat (refine⟨by first | decide | exact ixl rfl | exact rgl rfl,?_⟩;conv=>whnf)
   refine⟨(fun j:Nat=>gst [(0,.c (.gs 0 0)),(2,.c (.int .i64 ((2:Nat):Int))),(4,.c (.int .i64 ((4:Nat):Int))),(5,.c (.p 6 0 4 0 0)),(114,.c (.int .i64 5)),(115,.c (.int .i64 ((j:Nat):Int)))] [gG 5 idn,gq 5 (md2 u 4 2 D j 0),gq 5 (md2 u 4 2 D j 1),gq 5 (md2 u 4 2 D j 2),gq 5 (md2 u 4 2 D j 3),gq 5 (md2 u 4 2 D j 4),⟨38,4,1,boxF (nq u)⟩]) 0,Weak.genT [some 0,some 1,some 2,some 3,some 4,some 5,some 6] rfl rfl ⟨_,rfl,rfl,by decide⟩ ⟨gk5 rfl,rk rfl fun x hx=>(md2_zero u _ _ D _ x),rk rfl fun x hx=>(md2_zero u _ _ D _ x),rk rfl fun x hx=>(md2_zero u _ _ D _ x),rk rfl fun x hx=>(md2_zero u _ _ D _ x),rk rfl fun x hx=>(md2_zero u _ _ D _ x),Rf.boxK rfl rfl,trivial⟩ ⟨⟨_,rfl,rfl,rfl⟩,⟨_,rfl,rfl⟩,⟨_,rfl,rfl⟩,⟨_,rfl,rfl,rfl⟩,⟨_,rfl,rfl⟩,⟨_,rfl,rfl⟩,trivial⟩,?_⟩
   refine swp_block (swp_loop (fun j:Nat=>gst [(0,.c (.gs 0 0)),(2,.c (.int .i64 ((2:Nat):Int))),(4,.c (.int .i64 ((4:Nat):Int))),(5,.c (.p 6 0 4 0 0)),(114,.c (.int .i64 5)),(115,.c (.int .i64 ((j:Nat):Int)))] [gG 5 idn,gq 5 (md2 u 4 2 D j 0),gq 5 (md2 u 4 2 D j 1),gq 5 (md2 u 4 2 D j 2),gq 5 (md2 u 4 2 D j 3),gq 5 (md2 u 4 2 D j 4),⟨38,4,1,boxF (nq u)⟩]) (fun j=>5-j) (fun j=>j≤5) 0 (Weak.refl _) (by decide) fun j hj=>?_)
   rcases(show j=0∨j=1∨j=2∨j=3∨j=4∨j=5 by omega)with rfl | rfl | rfl | rfl | rfl | rfl
   ·refine so ?_
    conv=>whnf
    repeat (refine⟨by first | decide | exact ixl rfl | exact rgl rfl,?_⟩;conv=>whnf)
    refine⟨_,w1 0 (by decide),?_⟩
    conv=>whnf
    repeat (refine⟨by first | decide | exact ixl rfl | exact rgl rfl,?_⟩;conv=>whnf)
    refine⟨_,w2 0 (by decide),?_⟩
    conv=>whnf
    repeat (refine⟨by first | decide | exact ixl rfl | exact rgl rfl,?_⟩;conv=>whnf)
    exact⟨1,by decide,Weak.genT [some 0,some 1,some 2,some 3,some 4,some 5,some 6] rfl rfl ⟨_,rfl,rfl,by decide⟩ ⟨gk5 rfl,ru rfl fun x=>(md2_step u 4 2 D 0 x),rk rfl fun x hx=>(md2_keep u (by decide) D x),rk rfl fun x hx=>(md2_keep u (by decide) D x),rk rfl fun x hx=>(md2_keep u (by decide) D x),rk rfl fun x hx=>(md2_keep u (by decide) D x),Rf.boxK rfl rfl,trivial⟩ ⟨⟨_,rfl,rfl,rfl⟩,⟨_,rfl,rfl⟩,⟨_,rfl,rfl⟩,⟨_,rfl,rfl,rfl⟩,⟨_,rfl,rfl⟩,⟨_,rfl,rfl⟩,trivial⟩,by decide⟩
   ·refine so ?_
    conv=>whnf
    repeat (refine⟨by first | decide | exact ixl rfl | exact rgl rfl,?_⟩;conv=>whnf)
    refine⟨_,w1 1 (by decide),?_⟩
    conv=>whnf
    repeat (refine⟨by first | decide | exact ixl rfl | exact rgl rfl,?_⟩;conv=>whnf)
    refine⟨_,w2 1 (by decide),?_⟩
    conv=>whnf
    repeat (refine⟨by first | decide | exact ixl rfl | exact rgl rfl,?_⟩;conv=>whnf)
    exact⟨2,by decide,Weak.genT [some 0,some 1,some 2,some 3,some 4,some 5,some 6] rfl rfl ⟨_,rfl,rfl,by decide⟩ ⟨gk5 rfl,rk rfl fun x hx=>(md2_keep u (by decide) D x),ru rfl fun x=>(md2_step u 4 2 D 1 x),rk rfl fun x hx=>(md2_keep u (by decide) D x),rk rfl fun x hx=>(md2_keep u (by decide) D x),rk rfl fun x hx=>(md2_keep u (by decide) D x),Rf.boxK rfl rfl,trivial⟩ ⟨⟨_,rfl,rfl,rfl⟩,⟨_,rfl,rfl⟩,⟨_,rfl,rfl⟩,⟨_,rfl,rfl,rfl⟩,⟨_,rfl,rfl⟩,⟨_,rfl,rfl⟩,trivial⟩,by decide⟩
   ·refine so ?_
    conv=>whnf
    repeat (refine⟨by first | decide | exact ixl rfl | exact rgl rfl,?_⟩;conv=>whnf)
    refine⟨_,w1 2 (by decide),?_⟩
    conv=>whnf
    repeat (refine⟨by first | decide | exact ixl rfl | exact rgl rfl,?_⟩;conv=>whnf)
    refine⟨_,w2 2 (by decide),?_⟩
    conv=>whnf
    repeat (refine⟨by first | decide | exact ixl rfl | exact rgl rfl,?_⟩;conv=>whnf)
    exact⟨3,by decide,Weak.genT [some 0,some 1,some 2,some 3,some 4,some 5,some 6] rfl rfl ⟨_,rfl,rfl,by decide⟩ ⟨gk5 rfl,rk rfl fun x hx=>(md2_keep u (by decide) D x),rk rfl fun x hx=>(md2_keep u (by decide) D x),ru rfl fun x=>(md2_step u 4 2 D 2 x),rk rfl fun x hx=>(md2_keep u (by decide) D x),rk rfl fun x hx=>(md2_keep u (by decide) D x),Rf.boxK rfl rfl,trivial⟩ ⟨⟨_,rfl,rfl,rfl⟩,⟨_,rfl,rfl⟩,⟨_,rfl,rfl⟩,⟨_,rfl,rfl,rfl⟩,⟨_,rfl,rfl⟩,⟨_,rfl,rfl⟩,trivial⟩,by decide⟩
   ·refine so ?_
    conv=>whnf
    repeat (refine⟨by first | decide | exact ixl rfl | exact rgl rfl,?_⟩;conv=>whnf)
    refine⟨_,w1 3 (by decide),?_⟩
    conv=>whnf
    repeat (refine⟨by first | decide | exact ixl rfl | exact rgl rfl,?_⟩;conv=>whnf)
    refine⟨_,w2 3 (by decide),?_⟩
    conv=>whnf
    repeat (refine⟨by first | decide | exact ixl rfl | exact rgl rfl,?_⟩;conv=>whnf)
    exact⟨4,by decide,Weak.genT [some 0,some 1,some 2,some 3,some 4,some 5,some 6] rfl rfl ⟨_,rfl,rfl,by decide⟩ ⟨gk5 rfl,rk rfl fun x hx=>(md2_keep u (by decide) D x),rk rfl fun x hx=>(md2_keep u (by decide) D x),rk rfl fun x hx=>(md2_keep u (by decide) D x),ru rfl fun x=>(md2_step u 4 2 D 3 x),rk rfl fun x hx=>(md2_keep u (by decide) D x),Rf.boxK rfl rfl,trivial⟩ ⟨⟨_,rfl,rfl,rfl⟩,⟨_,rfl,rfl⟩,⟨_,rfl,rfl⟩,⟨_,rfl,rfl,rfl⟩,⟨_,rfl,rfl⟩,⟨_,rfl,rfl⟩,trivial⟩,by decide⟩
   ·refine so ?_
    conv=>whnf
    repeat (refine⟨by first | decide | exact ixl rfl | exact rgl rfl,?_⟩;conv=>whnf)
    refine⟨_,w1 4 (by decide),?_⟩
    conv=>whnf
    repeat (refine⟨by first | decide | exact ixl rfl | exact rgl rfl,?_⟩;conv=>whnf)
    refine⟨_,w2 4 (by decide),?_⟩
    conv=>whnf
    repeat (refine⟨by first | decide | exact ixl rfl | exact rgl rfl,?_⟩;conv=>whnf)
    exact⟨5,by decide,Weak.genT [some 0,some 1,some 2,some 3,some 4,some 5,some 6] rfl rfl ⟨_,rfl,rfl,by decide⟩ ⟨gk5 rfl,rk rfl fun x hx=>(md2_keep u (by decide) D x),rk rfl fun x hx=>(md2_keep u (by decide) D x),rk rfl fun x hx=>(md2_keep u (by decide) D x),rk rfl fun x hx=>(md2_keep u (by decide) D x),ru rfl fun x=>(md2_step u 4 2 D 4 x),Rf.boxK rfl rfl,trivial⟩ ⟨⟨_,rfl,rfl,rfl⟩,⟨_,rfl,rfl⟩,⟨_,rfl,rfl⟩,⟨_,rfl,rfl,rfl⟩,⟨_,rfl,rfl⟩,⟨_,rfl,rfl⟩,trivial⟩,by decide⟩
   ·refine so ?_
    conv=>whnf
    exact⟨(),trivial,Weak.genT [some 0,some 1,some 2,some 3,some 4,some 5] rfl rfl ⟨_,rfl,rfl,by decide⟩ ⟨gk5 rfl,rk rfl fun x hx=>((hel _ x).trans (md2_all u _ _ D (by decide) x)),rk rfl fun x hx=>((hel _ x).trans (md2_all u _ _ D (by decide) x)),rk rfl fun x hx=>((hel _ x).trans (md2_all u _ _ D (by decide) x)),rk rfl fun x hx=>((hel _ x).trans (md2_all u _ _ D (by decide) x)),rk rfl fun x hx=>((hel _ x).trans (md2_all u _ _ D (by decide) x)),trivial⟩ ⟨⟨_,rfl,rfl,rfl⟩,⟨_,rfl,rfl⟩,⟨_,rfl,rfl⟩,trivial⟩⟩
  ·refine so ?_
   conv=>whnf
   repeat (refine⟨by first | decide | exact ixl rfl | exact rgl rfl,?_⟩;conv=>whnf)
   exact⟨(),trivial,Weak.genT [some 0,some 1,some 2,some 3,some 4,some 5] rfl rfl ⟨_,rfl,rfl,by decide⟩ ⟨gk5 rfl,rk rfl fun x hx=>(hst _ x),rk rfl fun x hx=>(hst _ x),rk rfl fun x hx=>(hst _ x),rk rfl fun x hx=>(hst _ x),rk rfl fun x hx=>(hst _ x),trivial⟩ ⟨⟨_,rfl,rfl,rfl⟩,⟨_,rfl,rfl⟩,trivial⟩⟩
 ·-- the step 3
  refine sq ?_
  conv=>whnf
  repeat (refine⟨by first | decide | exact ixl rfl | exact rgl rfl,?_⟩;conv=>whnf)
  refine⟨gst [(0,.c (.gs 0 0)),(2,.c (.int .i64 ((3:Nat):Int)))] [gG 5 idn,gq 5 (hs 5 M 3 0),gq 5 (hs 5 M 3 1),gq 5 (hs 5 M 3 2),gq 5 (hs 5 M 3 3),gq 5 (hs 5 M 3 4)],Weak.genT [some 0,some 1,some 2,some 3,some 4,some 5] rfl rfl ⟨_,rfl,rfl,by decide⟩ ⟨gk5 rfl,rs rfl,rs rfl,rs rfl,rs rfl,rs rfl,trivial⟩ ⟨⟨_,rfl,rfl,rfl⟩,⟨_,rfl,rfl⟩,trivial⟩,?_⟩
  have hA:=hs_kb hM h1 (show 3+1≤5 by decide)
  have hE:=fun(hp:pv 5 (hs 5 M 3) 3<5) (t:Nat) (ht:3+t<5)=>el_kb hM h1 (show 1≤3 by decide) (show 3+1<5 by decide) hp ht
  refine swp_mid (fun _:Unit=>gst [(0,.c (.gs 0 0)),(2,.c (.int .i64 ((3:Nat):Int)))] [gG 5 idn,gq 5 (stp 5 3 (hs 5 M 3) 0),gq 5 (stp 5 3 (hs 5 M 3) 1),gq 5 (stp 5 3 (hs 5 M 3) 2),gq 5 (stp 5 3 (hs 5 M 3) 3),gq 5 (stp 5 3 (hs 5 M 3) 4)]) (fun _=>True) ?_ fun _ _=>?_
  rotate_left
  ·refine so ?_
   conv=>whnf
   repeat (refine⟨by first | decide | exact ixl rfl | exact rgl rfl,?_⟩;conv=>whnf)
   exact⟨4,by decide,Weak.genT [some 0,some 1,some 2,some 3,some 4,some 5] rfl rfl ⟨_,rfl,rfl,by decide⟩ ⟨gk5 rfl,rs rfl,rs rfl,rs rfl,rs rfl,rs rfl,trivial⟩ ⟨⟨_,rfl,rfl,rfl⟩,⟨_,rfl,rfl⟩,trivial⟩,by decide⟩
  refine swp_block ?_
  generalize hs 5 M 3=A at *
  have hpiv:=fun(hp:pv 5 A 3<5) (t:Nat)=>el_piv (show 1≤3 by decide) (show 3+1<5 by decide) hp t
  have nz:∀ a,a<5->FnOK Tryz.prog true 47 [.g (nq (A a 2))] (.c (.bool (decide (A a 2≠0)))):=fun a ha=>nz_ok (hA a 2 ha (by decide)) (by omega)
  obtain⟨p1,p2,-,-⟩:=pv_spec 5 A (show 3≤5 by decide)
  generalize hpv:pv 5 A 3=P at *
  refine sq ?_
  conv=>whnf
  refine⟨gst [(0,.c (.gs 0 0)),(2,.c (.int .i64 ((3:Nat):Int))),(3,.c (.int .i64 ((3:Nat):Int)))] [gG 5 idn,gq 5 (A 0),gq 5 (A 1),gq 5 (A 2),gq 5 (A 3),gq 5 (A 4)],Weak.genT [some 0,some 1,some 2,some 3,some 4,some 5] rfl rfl ⟨_,rfl,rfl,by decide⟩ ⟨gk5 rfl,rs rfl,rs rfl,rs rfl,rs rfl,rs rfl,trivial⟩ ⟨⟨_,rfl,rfl,rfl⟩,⟨_,rfl,rfl⟩,⟨_,rfl,rfl⟩,trivial⟩,?_⟩
  refine swp_mid (fun _:Unit=>gst [(0,.c (.gs 0 0)),(2,.c (.int .i64 ((3:Nat):Int))),(3,.c (.int .i64 ((P:Nat):Int)))] [gG 5 idn,gq 5 (A 0),gq 5 (A 1),gq 5 (A 2),gq 5 (A 3),gq 5 (A 4)]) (fun _=>True) ?_ fun _ _=>?_
  ·refine swp_block (swp_loop (fun a:Nat=>gst [(0,.c (.gs 0 0)),(2,.c (.int .i64 ((3:Nat):Int))),(3,.c (.int .i64 ((a:Nat):Int)))] [gG 5 idn,gq 5 (A 0),gq 5 (A 1),gq 5 (A 2),gq 5 (A 3),gq 5 (A 4)]) (fun a=>5-a) (fun a=>3≤a/\a≤5/\pvf A 2 (5-a) a=P) 3 (Weak.refl _) ⟨by decide,by decide,hpv⟩ fun a ha=>?_)
   obtain⟨a1,a2,a3⟩:=ha
   rcases(show a=3∨a=4∨a=5 by omega)with rfl | rfl | rfl
   ·refine so ?_
    conv=>whnf
    repeat (refine⟨by first | decide | exact ixl rfl | exact rgl rfl,?_⟩;conv=>whnf)
    refine⟨_,nz 3 (by decide),?_⟩
    conv=>whnf
    refine bcase (fun(h:(!decide (A 3 2≠0))=true)=>?_) fun(h:(!decide (A 3 2≠0))=false)=>?_
    ·have h0:A 3 2=0:=by simpa using h
     conv=>whnf
     repeat (refine⟨by first | decide | exact ixl rfl | exact rgl rfl,?_⟩;conv=>whnf)
     exact⟨4,by decide,Weak.genT [some 0,some 1,some 2,some 3,some 4,some 5] rfl rfl ⟨_,rfl,rfl,by decide⟩ ⟨gk5 rfl,rs rfl,rs rfl,rs rfl,rs rfl,rs rfl,trivial⟩ ⟨⟨_,rfl,rfl,rfl⟩,⟨_,rfl,rfl⟩,⟨_,rfl,rfl⟩,trivial⟩,by decide,by decide,by rw[← a3];exact(pvf_next h0).symm⟩
    ·have h0:A 3 2≠0:=by simpa using h
     conv=>whnf
     have eP:3=P:=by rw[← a3];exact(pvf_stop h0).symm
     exact⟨(),trivial,Weak.genT [some 0,some 1,some 2,some 3,some 4,some 5] rfl rfl ⟨_,rfl,rfl,by decide⟩ ⟨gk5 rfl,rs rfl,rs rfl,rs rfl,rs rfl,rs rfl,trivial⟩ ⟨⟨_,rfl,rfl,rfl⟩,⟨_,rfl,rfl⟩,⟨_,rfl,by rw[← eP]⟩,trivial⟩⟩
   ·refine so ?_
    conv=>whnf
    repeat (refine⟨by first | decide | exact ixl rfl | exact rgl rfl,?_⟩;conv=>whnf)
    refine⟨_,nz 4 (by decide),?_⟩
    conv=>whnf
    refine bcase (fun(h:(!decide (A 4 2≠0))=true)=>?_) fun(h:(!decide (A 4 2≠0))=false)=>?_
    ·have h0:A 4 2=0:=by simpa using h
     conv=>whnf
     repeat (refine⟨by first | decide | exact ixl rfl | exact rgl rfl,?_⟩;conv=>whnf)
     exact⟨5,by decide,Weak.genT [some 0,some 1,some 2,some 3,some 4,some 5] rfl rfl ⟨_,rfl,rfl,by decide⟩ ⟨gk5 rfl,rs rfl,rs rfl,rs rfl,rs rfl,rs rfl,trivial⟩ ⟨⟨_,rfl,rfl,rfl⟩,⟨_,rfl,rfl⟩,⟨_,rfl,rfl⟩,trivial⟩,by decide,by decide,by rw[← a3];exact(pvf_next h0).symm⟩
    ·have h0:A 4 2≠0:=by simpa using h
     conv=>whnf
     have eP:4=P:=by rw[← a3];exact(pvf_stop h0).symm
     exact⟨(),trivial,Weak.genT [some 0,some 1,some 2,some 3,some 4,some 5] rfl rfl ⟨_,rfl,rfl,by decide⟩ ⟨gk5 rfl,rs rfl,rs rfl,rs rfl,rs rfl,rs rfl,trivial⟩ ⟨⟨_,rfl,rfl,rfl⟩,⟨_,rfl,rfl⟩,⟨_,rfl,by rw[← eP]⟩,trivial⟩⟩
   ·refine so ?_
    conv=>whnf
    repeat (refine⟨by first | decide | exact ixl rfl | exact rgl rfl,?_⟩;conv=>whnf)
    have eP:5=P:=a3
    exact⟨(),trivial,Weak.genT [some 0,some 1,some 2,some 3,some 4,some 5] rfl rfl ⟨_,rfl,rfl,by decide⟩ ⟨gk5 rfl,rs rfl,rs rfl,rs rfl,rs rfl,rs rfl,trivial⟩ ⟨⟨_,rfl,rfl,rfl⟩,⟨_,rfl,rfl⟩,⟨_,rfl,by rw[← eP]⟩,trivial⟩⟩
  refine swp_mid2 (fun _:Unit=>gst [(0,.c (.gs 0 0)),(2,.c (.int .i64 ((3:Nat):Int)))] [gG 5 idn,gq 5 (xch (sw P 3) A 0),gq 5 (xch (sw P 3) A 1),gq 5 (xch (sw P 3) A 2),gq 5 (xch (sw P 3) A 3),gq 5 (xch (sw P 3) A 4)]) (fun _=>P<5) ?_ fun _ hP=>?_
  ·rcases(show P=3∨P=4∨P=5 by omega)with rfl | rfl | rfl
   ·refine so ?_
    conv=>whnf
    repeat (refine⟨by first | decide | exact ixl rfl | exact rgl rfl,?_⟩;conv=>whnf)
    refine so ?_
    conv=>whnf
    repeat (refine⟨by first | decide | exact ixl rfl | exact rgl rfl,?_⟩;conv=>whnf)
    exact⟨(),by decide,Weak.genT [some 0,some 1,some 2,some 3,some 4,some 5] rfl rfl ⟨_,rfl,rfl,by decide⟩ ⟨gk5 rfl,rk rfl fun x hx=>(xch_self A _ x),rk rfl fun x hx=>(xch_self A _ x),rk rfl fun x hx=>(xch_self A _ x),rk rfl fun x hx=>(xch_self A _ x),rk rfl fun x hx=>(xch_self A _ x),trivial⟩ ⟨⟨_,rfl,rfl,rfl⟩,⟨_,rfl,rfl⟩,trivial⟩⟩
   ·refine so ?_
    conv=>whnf
    repeat (refine⟨by first | decide | exact ixl rfl | exact rgl rfl,?_⟩;conv=>whnf)
    refine sq ?_
    conv=>whnf
    repeat (refine⟨by first | decide | exact ixl rfl | exact rgl rfl,?_⟩;conv=>whnf)
    refine⟨gst [(0,.c (.gs 0 0)),(2,.c (.int .i64 ((3:Nat):Int))),(3,.c (.int .i64 ((4:Nat):Int))),(41,.c (.bool true))] [gG 5 idn,gq 5 (A 0),gq 5 (A 1),gq 5 (A 2),gq 5 (A 3),gq 5 (A 4)],Weak.genT [some 0,some 1,some 2,some 3,some 4,some 5] rfl rfl ⟨_,rfl,rfl,by decide⟩ ⟨gk5 rfl,rs rfl,rs rfl,rs rfl,rs rfl,rs rfl,trivial⟩ ⟨⟨_,rfl,rfl,rfl⟩,⟨_,rfl,rfl⟩,⟨_,rfl,rfl⟩,⟨_,rfl,rfl⟩,trivial⟩,?_⟩
    refine swp_cond (b:=true) rfl (fun _=>?_) fun h=>absurd h (by decide)
    refine swp_goT E1m_ok (pre:=[_,_,_]) (post:=[]) rfl rfl (by kernel_rfl) ?_
    conv=>whnf
    refine⟨1,_,by decide,OpGoT.call0 (f:=92) (cs:=[]) rfl rfl live_all (exch_5_4_3 A) (lt_put (lt_put (lt_put (lt_asg (tl:=[(0,.c (.gs 0 0)),(2,.c (.int .i64 _)),(3,.c (.int .i64 _)),(41,.c (.bool true))]) ⟨rfl,rfl,rfl,rfl,trivial⟩) rfl) rfl) rfl),?_⟩
    conv=>whnf
    exact⟨(),by decide,Weak.genT [some 0,some 1,some 2,some 3,some 4,some 5] rfl rfl ⟨_,rfl,rfl,by decide⟩ ⟨gk5 rfl,rs rfl,rs rfl,rs rfl,rs rfl,rs rfl,trivial⟩ ⟨⟨_,rfl,rfl,rfl⟩,⟨_,rfl,rfl⟩,trivial⟩⟩
   ·refine so ?_
    conv=>whnf
    repeat (refine⟨by first | decide | exact ixl rfl | exact rgl rfl,?_⟩;conv=>whnf)
    exact⟨(),trivial,Weak.genT [some 0,some 1,some 2,some 3,some 4,some 5] rfl rfl ⟨_,rfl,rfl,by decide⟩ ⟨gk5 rfl,rk rfl fun x hx=>(stp_none hpv _ x),rk rfl fun x hx=>(stp_none hpv _ x),rk rfl fun x hx=>(stp_none hpv _ x),rk rfl fun x hx=>(stp_none hpv _ x),rk rfl fun x hx=>(stp_none hpv _ x),trivial⟩ ⟨⟨_,rfl,rfl,rfl⟩,⟨_,rfl,rfl⟩,trivial⟩⟩
  have hE:=hE hP
  have hpiv:=hpiv hP
  have hst:=fun a b=>stp_some hpv hP a b
  generalize stp 5 3 A=Z at *
  generalize xch (sw P 3) A=A1 at *
  refine sq ?_
  conv=>whnf
  repeat (refine⟨by first | decide | exact ixl rfl | exact rgl rfl,?_⟩;conv=>whnf)
  refine⟨(fun t:Nat=>gst [(0,.c (.gs 0 0)),(2,.c (.int .i64 ((3:Nat):Int))),(4,.c (.int .i64 ((4+t:Nat):Int)))] [gG 5 idn,gq 5 (el 3 A1 t 0),gq 5 (el 3 A1 t 1),gq 5 (el 3 A1 t 2),gq 5 (el 3 A1 t 3),gq 5 (el 3 A1 t 4)]) 0,Weak.genT [some 0,some 1,some 2,some 3,some 4,some 5] rfl rfl ⟨_,rfl,rfl,by decide⟩ ⟨gk5 rfl,rs rfl,rs rfl,rs rfl,rs rfl,rs rfl,trivial⟩ ⟨⟨_,rfl,rfl,rfl⟩,⟨_,rfl,rfl⟩,⟨_,rfl,rfl⟩,trivial⟩,?_⟩
  refine swp_block (swp_loop (fun t:Nat=>gst [(0,.c (.gs 0 0)),(2,.c (.int .i64 ((3:Nat):Int))),(4,.c (.int .i64 ((4+t:Nat):Int)))] [gG 5 idn,gq 5 (el 3 A1 t 0),gq 5 (el 3 A1 t 1),gq 5 (el 3 A1 t 2),gq 5 (el 3 A1 t 3),gq 5 (el 3 A1 t 4)]) (fun t=>5-t) (fun t=>t≤1) 0 (Weak.refl _) (by decide) fun t ht=>?_)
  rcases(show t=0∨t=1 by omega)with rfl | rfl
  ·have hB:=hE 0 (by decide)
   have hq:=hpiv 0
   refine sq ?_
   conv=>whnf
   repeat (refine⟨by first | decide | exact ixl rfl | exact rgl rfl,?_⟩;conv=>whnf)
   refine⟨gst [(0,.c (.gs 0 0)),(2,.c (.int .i64 ((3:Nat):Int))),(4,.c (.int .i64 ((4:Nat):Int)))] [gG 5 idn,gq 5 (el 3 A1 0 0),gq 5 (el 3 A1 0 1),gq 5 (el 3 A1 0 2),gq 5 (el 3 A1 0 3),gq 5 (el 3 A1 0 4)],Weak.genT [some 0,some 1,some 2,some 3,some 4,some 5] rfl rfl ⟨_,rfl,rfl,by decide⟩ ⟨gk5 rfl,rs rfl,rs rfl,rs rfl,rs rfl,rs rfl,trivial⟩ ⟨⟨_,rfl,rfl,rfl⟩,⟨_,rfl,rfl⟩,⟨_,rfl,rfl⟩,trivial⟩,?_⟩
   refine swp_mid (fun _:Unit=>gst [(0,.c (.gs 0 0)),(2,.c (.int .i64 ((3:Nat):Int))),(4,.c (.int .i64 ((4:Nat):Int)))] [gG 5 idn,gq 5 (el1 3 4 (el 3 A1 0) 0),gq 5 (el1 3 4 (el 3 A1 0) 1),gq 5 (el1 3 4 (el 3 A1 0) 2),gq 5 (el1 3 4 (el 3 A1 0) 3),gq 5 (el1 3 4 (el 3 A1 0) 4)]) (fun _=>True) ?_ fun _ _=>?_
   rotate_left
   ·refine so ?_
    conv=>whnf
    repeat (refine⟨by first | decide | exact ixl rfl | exact rgl rfl,?_⟩;conv=>whnf)
    exact⟨1,by decide,Weak.genT [some 0,some 1,some 2,some 3,some 4,some 5] rfl rfl ⟨_,rfl,rfl,by decide⟩ ⟨gk5 rfl,rs rfl,rs rfl,rs rfl,rs rfl,rs rfl,trivial⟩ ⟨⟨_,rfl,rfl,rfl⟩,⟨_,rfl,rfl⟩,⟨_,rfl,rfl⟩,trivial⟩,by decide⟩
   refine swp_block ?_
   generalize el 3 A1 0=B at *
   have hx:∀ a b,a<5->b<5->qlen (B a b)≤KB 5 L:=hB
   have nz:=nz_ok (x:=B 4 2) (hx 4 2 (by decide) (by decide)) (by omega)
   have kq:=qquo_n (hx 4 2 (by decide) (by decide)) (hx 3 2 (by decide) (by decide)) (by omega) hq rfl
   have hu:qlen (B 4 2 / B 3 2)≤2*KB 5 L:=Nat.le_trans (q_div (hx 4 2 (by decide) (by decide)) (hx 3 2 (by decide) (by decide)) (by omega)) (by omega)
   have hel:=fun(h0:¬ B 4 2=0) a b=>el1_some (m:=3) (i:=4) (A:=B) h0 rfl a b
   have hez:=fun(h0:B 4 2=0) a b=>el1_zero (m:=3) (i:=4) (A:=B) h0 a b
   change ∀(h0:¬ B 4 2=0) (a b:Nat),el1 3 4 B a b=ca (B 4 2 / B 3 2) 4 3 (ra (B 4 2 / B 3 2) 4 3 B) a b at hel
   generalize el1 3 4 B=Y at *
   generalize B 4 2 / B 3 2=u at *
   have m1:∀ j,j<5->FnOK Tryz.prog true 46 [.g (nq u),.g (nq (md1 u 4 3 B j 3 j))] (.g (nq (u*B 3 j))):=fun j hj=>qmul_n hu (by rw[md1_m u (by decide)];exact hx 3 j (by decide) hj) (by omega) (by rw[md1_m u (by decide)])
   have m2:∀ j,j<5->FnOK Tryz.prog true 50 [.g (nq (md1 u 4 3 B j 4 j)),.g (nq (u*B 3 j))] (.g (nq (B 4 j-u*B 3 j))):=fun j hj=>qsub_n (by rw[md1_old];exact hx 4 j (by decide) hj) (q_mul hu (hx 3 j (by decide) hj) (by omega)) (by omega) (by omega) (by rw[md1_old])
   have hR:=ra_kb (i:=4) hB hu (show 3<5 by decide) hK
   have w1:∀ j,j<5->FnOK Tryz.prog true 46 [.g (nq u),.g (nq (md2 u 4 3 (ra u 4 3 B) j j 4))] (.g (nq (u*ra u 4 3 B j 4))):=fun j hj=>qmul_n hu (by rw[md2_old];exact hR j 4 hj (by decide)) (by omega) (by rw[md2_old])
   have w2:∀ j,j<5->FnOK Tryz.prog true 93 [.g (nq (md2 u 4 3 (ra u 4 3 B) j j 3)),.g (nq (u*ra u 4 3 B j 4))] (.g (nq (ra u 4 3 B j 3+u*ra u 4 3 B j 4))):=fun j hj=>qadd_n (by rw[md2_old];exact hR j 3 hj (by decide)) (q_mul hu (hR j 4 hj (by decide)) (by omega)) (by omega) (by rw[md2_old])
   refine sq ?_
   conv=>whnf
   repeat (refine⟨by first | decide | exact ixl rfl | exact rgl rfl,?_⟩;conv=>whnf)
   refine⟨_,nz,?_⟩
   conv=>whnf
   refine bcase (fun(h:(!decide (B 4 2≠0))=true)=>?_) fun(h:(!decide (B 4 2≠0))=false)=>?_
   ·have h0:B 4 2=0:=by simpa using h
    conv=>whnf
    exact⟨(),trivial,Weak.genT [some 0,some 1,some 2,some 3,some 4,some 5] rfl rfl ⟨_,rfl,rfl,by decide⟩ ⟨gk5 rfl,rk rfl fun x hx=>(hez h0 _ x),rk rfl fun x hx=>(hez h0 _ x),rk rfl fun x hx=>(hez h0 _ x),rk rfl fun x hx=>(hez h0 _ x),rk rfl fun x hx=>(hez h0 _ x),trivial⟩ ⟨⟨_,rfl,rfl,rfl⟩,⟨_,rfl,rfl⟩,⟨_,rfl,rfl⟩,trivial⟩⟩
   have h0:¬ B 4 2=0:=by simpa using h
   conv=>whnf
   refine⟨gst [(0,.c (.gs 0 0)),(2,.c (.int .i64 ((3:Nat):Int))),(4,.c (.int .i64 ((4:Nat):Int)))] [gG 5 idn,gq 5 (B 0),gq 5 (B 1),gq 5 (B 2),gq 5 (B 3),gq 5 (B 4)],Weak.genT [some 0,some 1,some 2,some 3,some 4,some 5] rfl rfl ⟨_,rfl,rfl,by decide⟩ ⟨gk5 rfl,rs rfl,rs rfl,rs rfl,rs rfl,rs rfl,trivial⟩ ⟨⟨_,rfl,rfl,rfl⟩,⟨_,rfl,rfl⟩,⟨_,rfl,rfl⟩,trivial⟩,?_⟩
   have hel:=hel h0
   refine sq ?_
   conv=>whnf
   repeat (refine⟨by first | decide | exact ixl rfl | exact rgl rfl,?_⟩;conv=>whnf)
   refine⟨_,kq,?_⟩
   conv=>whnf
   refine⟨gst [(0,.c (.gs 0 0)),(2,.c (.int .i64 ((3:Nat):Int))),(4,.c (.int .i64 ((4:Nat):Int))),(5,.c (.p 6 0 4 0 0))] [gG 5 idn,gq 5 (B 0),gq 5 (B 1),gq 5 (B 2),gq 5 (B 3),gq 5 (B 4),⟨38,4,1,boxF (nq u)⟩],Weak.genT [some 0,some 1,some 2,some 3,some 4,some 5,some 26] rfl rfl ⟨_,rfl,rfl,by decide⟩ ⟨gk5 rfl,rs rfl,rs rfl,rs rfl,rs rfl,rs rfl,Rf.boxU rfl rfl rfl,trivial⟩ ⟨⟨_,rfl,rfl,rfl⟩,⟨_,rfl,rfl⟩,⟨_,rfl,rfl⟩,⟨_,rfl,rfl,rfl⟩,trivial⟩,?_⟩
   refine swp_mid (fun _:Unit=>gst [(0,.c (.gs 0 0)),(2,.c (.int .i64 ((3:Nat):Int))),(4,.c (.int .i64 ((4:Nat):Int))),(5,.c (.p 6 0 4 0 0))] [gG 5 idn,gq 5 (ra u 4 3 B 0),gq 5 (ra u 4 3 B 1),gq 5 (ra u 4 3 B 2),gq 5 (ra u 4 3 B 3),gq 5 (ra u 4 3 B 4),⟨38,4,1,boxF (nq u)⟩]) (fun _=>True) ?_ fun _ _=>?_
   ·refine sq ?_
    conv=>whnf
    repeat (refine⟨by first | decide | exact ixl rfl | exact rgl rfl,?_⟩;conv=>whnf)
    refine⟨(fun j:Nat=>gst [(0,.c (.gs 0 0)),(2,.c (.int .i64 ((3:Nat):Int))),(4,.c (.int .i64 ((4:Nat):Int))),(5,.c (.p 6 0 4 0 0)),(85,.c (.int .i64 5)),(86,.c (.int .i64 ((j:Nat):Int)))] [gG 5 idn,gq 5 (md1 u 4 3 B j 0),gq 5 (md1 u 4 3 B j 1),gq 5 (md1 u 4 3 B j 2),gq 5 (md1 u 4 3 B j 3),gq 5 (md1 u 4 3 B j 4),⟨38,4,1,boxF (nq u)⟩]) 0,Weak.genT [some 0,some 1,some 2,some 3,some 4,some 5,some 6] rfl rfl ⟨_,rfl,rfl,by decide⟩ ⟨gk5 rfl,rk rfl fun x hx=>(md1_zero u _ _ B _ x),rk rfl fun x hx=>(md1_zero u _ _ B _ x),rk rfl fun x hx=>(md1_zero u _ _ B _ x),rk rfl fun x hx=>(md1_zero u _ _ B _ x),rk rfl fun x hx=>(md1_zero u _ _ B _ x),Rf.boxK rfl rfl,trivial⟩ ⟨⟨_,rfl,rfl,rfl⟩,⟨_,rfl,rfl⟩,⟨_,rfl,rfl⟩,⟨_,rfl,rfl,rfl⟩,⟨_,rfl,rfl⟩,⟨_,rfl,rfl⟩,trivial⟩,?_⟩
    refine swp_block (swp_loop (fun j:Nat=>gst [(0,.c (.gs 0 0)),(2,.c (.int .i64 ((3:Nat):Int))),(4,.c (.int .i64 ((4:Nat):Int))),(5,.c (.p 6 0 4 0 0)),(85,.c (.int .i64 5)),(86,.c (.int .i64 ((j:Nat):Int)))] [gG 5 idn,gq 5 (md1 u 4 3 B j 0),gq 5 (md1 u 4 3 B j 1),gq 5 (md1 u 4 3 B j 2),gq 5 (md1 u 4 3 B j 3),gq 5 (md1 u 4 3 B j 4),⟨38,4,1,boxF (nq u)⟩]) (fun j=>5-j) (fun j=>j≤5) 0 (Weak.refl _) (by decide) fun j hj=>?_)
    have m1:=m1 j
    have m2:=m2 j
    have hj0:(0:Int)≤(j:Int):=by omega
    refine so ?_
    conv=>whnf
    refine bcase (fun(h:decide ((j:Int)<5)=true)=>?_) fun(h:decide ((j:Int)<5)=false)=>?_
    ·have h:=of_decide_eq_true h
     have m1:=m1 (by omega)
     have m2:=m2 (by omega)
     have hj1:(j:Int)<((5:Nat):Int):=by omega
     conv=>whnf
     repeat (refine⟨by first | exact hj0 | exact hj1 | decide | exact ixl rfl | exact rgl (by decide),?_⟩;conv=>whnf)
     refine⟨_,m1,?_⟩
     conv=>whnf
     repeat (refine⟨by first | exact hj0 | exact hj1 | decide | exact ixl rfl | exact rgl (by decide),?_⟩;conv=>whnf)
     refine⟨_,m2,?_⟩
     conv=>whnf
     repeat (refine⟨by first | exact hj0 | exact hj1 | decide | exact ixl rfl | exact rgl (by decide),?_⟩;conv=>whnf)
     refine⟨i64_range (by omega) (by omega),?_⟩
     conv=>whnf
     exact⟨j+1,by omega,Weak.genT [some 0,some 1,some 2,some 3,some 4,some 5,some 6] rfl rfl ⟨_,rfl,rfl,by decide⟩ ⟨gk5 rfl,rk rfl fun x hx=>(md1_keep u (by decide) B j x),rk rfl fun x hx=>(md1_keep u (by decide) B j x),rk rfl fun x hx=>(md1_keep u (by decide) B j x),rk rfl fun x hx=>(md1_keep u (by decide) B j x),ru rfl fun x=>(md1_step u 4 3 B j x),Rf.boxK rfl rfl,trivial⟩ ⟨⟨_,rfl,rfl,rfl⟩,⟨_,rfl,rfl⟩,⟨_,rfl,rfl⟩,⟨_,rfl,rfl,rfl⟩,⟨_,rfl,rfl⟩,⟨_,rfl,rfl⟩,trivial⟩,by omega⟩
    ·have h:=of_decide_eq_false h
     obtain rfl:j=5:=by omega
     conv=>whnf
     exact⟨(),trivial,Weak.genT [some 0,some 1,some 2,some 3,some 4,some 5,some 6] rfl rfl ⟨_,rfl,rfl,by decide⟩ ⟨gk5 rfl,rk rfl fun x hx=>(md1_all u _ _ B hx _),rk rfl fun x hx=>(md1_all u _ _ B hx _),rk rfl fun x hx=>(md1_all u _ _ B hx _),rk rfl fun x hx=>(md1_all u _ _ B hx _),rk rfl fun x hx=>(md1_all u _ _ B hx _),Rf.boxK rfl rfl,trivial⟩ ⟨⟨_,rfl,rfl,rfl⟩,⟨_,rfl,rfl⟩,⟨_,rfl,rfl⟩,⟨_,rfl,rfl,rfl⟩,trivial⟩⟩
   generalize ra u 4 3 B=D at *
   refine sq ?_
   conv=>whnf
   repeat (refine⟨by first | decide | exact ixl rfl | exact rgl rfl,?_⟩;conv=>whnf)
   refine⟨(fun j:Nat=>gst [(0,.c (.gs 0 0)),(2,.c (.int .i64 ((3:Nat):Int))),(4,.c (.int .i64 ((4:Nat):Int))),(5,.c (.p 6 0 4 0 0)),(114,.c (.int .i64 5)),(115,.c (.int .i64 ((j:Nat):Int)))] [gG 5 idn,gq 5 (md2 u 4 3 D j 0),gq 5 (md2 u 4 3 D j 1),gq 5 (md2 u 4 3 D j 2),gq 5 (md2 u 4 3 D j 3),gq 5 (md2 u 4 3 D j 4),⟨38,4,1,boxF (nq u)⟩]) 0,Weak.genT [some 0,some 1,some 2,some 3,some 4,some 5,some 6] rfl rfl ⟨_,rfl,rfl,by decide⟩ ⟨gk5 rfl,rk rfl fun x hx=>(md2_zero u _ _ D _ x),rk rfl fun x hx=>(md2_zero u _ _ D _ x),rk rfl fun x hx=>(md2_zero u _ _ D _ x),rk rfl fun x hx=>(md2_zero u _ _ D _ x),rk rfl fun x hx=>(md2_zero u _ _ D _ x),Rf.boxK rfl rfl,trivial⟩ ⟨⟨_,rfl,rfl,rfl⟩,⟨_,rfl,rfl⟩,⟨_,rfl,rfl⟩,⟨_,rfl,rfl,rfl⟩,⟨_,rfl,rfl⟩,⟨_,rfl,rfl⟩,trivial⟩,?_⟩
   refine swp_block (swp_loop (fun j:Nat=>gst [(0,.c (.gs 0 0)),(2,.c (.int .i64 ((3:Nat):Int))),(4,.c (.int .i64 ((4:Nat):Int))),(5,.c (.p 6 0 4 0 0)),(114,.c (.int .i64 5)),(115,.c (.int .i64 ((j:Nat):Int)))] [gG 5 idn,gq 5 (md2 u 4 3 D j 0),gq 5 (md2 u 4 3 D j 1),gq 5 (md2 u 4 3 D j 2),gq 5 (md2 u 4 3 D j 3),gq 5 (md2 u 4 3 D j 4),⟨38,4,1,boxF (nq u)⟩]) (fun j=>5-j) (fun j=>j≤5) 0 (Weak.refl _) (by decide) fun j hj=>?_)
   rcases(show j=0∨j=1∨j=2∨j=3∨j=4∨j=5 by omega)with rfl | rfl | rfl | rfl | rfl | rfl
   ·refine so ?_
    conv=>whnf
    repeat (refine⟨by first | decide | exact ixl rfl | exact rgl rfl,?_⟩;conv=>whnf)
    refine⟨_,w1 0 (by decide),?_⟩
    conv=>whnf
    repeat (refine⟨by first | decide | exact ixl rfl | exact rgl rfl,?_⟩;conv=>whnf)
    refine⟨_,w2 0 (by decide),?_⟩
    conv=>whnf
    repeat (refine⟨by first | decide | exact ixl rfl | exact rgl rfl,?_⟩;conv=>whnf)
    exact⟨1,by decide,Weak.genT [some 0,some 1,some 2,some 3,some 4,some 5,some 6] rfl rfl ⟨_,rfl,rfl,by decide⟩ ⟨gk5 rfl,ru rfl fun x=>(md2_step u 4 3 D 0 x),rk rfl fun x hx=>(md2_keep u (by decide) D x),rk rfl fun x hx=>(md2_keep u (by decide) D x),rk rfl fun x hx=>(md2_keep u (by decide) D x),rk rfl fun x hx=>(md2_keep u (by decide) D x),Rf.boxK rfl rfl,trivial⟩ ⟨⟨_,rfl,rfl,rfl⟩,⟨_,rfl,rfl⟩,⟨_,rfl,rfl⟩,⟨_,rfl,rfl,rfl⟩,⟨_,rfl,rfl⟩,⟨_,rfl,rfl⟩,trivial⟩,by decide⟩
   ·refine so ?_
    conv=>whnf
    repeat (refine⟨by first | decide | exact ixl rfl | exact rgl rfl,?_⟩;conv=>whnf)
    refine⟨_,w1 1 (by decide),?_⟩
    conv=>whnf
    repeat (refine⟨by first | decide | exact ixl rfl | exact rgl rfl,?_⟩;conv=>whnf)
    refine⟨_,w2 1 (by decide),?_⟩
    conv=>whnf
    repeat (refine⟨by first | decide | exact ixl rfl | exact rgl rfl,?_⟩;conv=>whnf)
    exact⟨2,by decide,Weak.genT [some 0,some 1,some 2,some 3,some 4,some 5,some 6] rfl rfl ⟨_,rfl,rfl,by decide⟩ ⟨gk5 rfl,rk rfl fun x hx=>(md2_keep u (by decide) D x),ru rfl fun x=>(md2_step u 4 3 D 1 x),rk rfl fun x hx=>(md2_keep u (by decide) D x),rk rfl fun x hx=>(md2_keep u (by decide) D x),rk rfl fun x hx=>(md2_keep u (by decide) D x),Rf.boxK rfl rfl,trivial⟩ ⟨⟨_,rfl,rfl,rfl⟩,⟨_,rfl,rfl⟩,⟨_,rfl,rfl⟩,⟨_,rfl,rfl,rfl⟩,⟨_,rfl,rfl⟩,⟨_,rfl,rfl⟩,trivial⟩,by decide⟩
   ·refine so ?_
    conv=>whnf
    repeat (refine⟨by first | decide | exact ixl rfl | exact rgl rfl,?_⟩;conv=>whnf)
    refine⟨_,w1 2 (by decide),?_⟩
    conv=>whnf
    repeat (refine⟨by first | decide | exact ixl rfl | exact rgl rfl,?_⟩;conv=>whnf)
    refine⟨_,w2 2 (by decide),?_⟩
    conv=>whnf
    repeat (refine⟨by first | decide | exact ixl rfl | exact rgl rfl,?_⟩;conv=>whnf)
    exact⟨3,by decide,Weak.genT [some 0,some 1,some 2,some 3,some 4,some 5,some 6] rfl rfl ⟨_,rfl,rfl,by decide⟩ ⟨gk5 rfl,rk rfl fun x hx=>(md2_keep u (by decide) D x),rk rfl fun x hx=>(md2_keep u (by decide) D x),ru rfl fun x=>(md2_step u 4 3 D 2 x),rk rfl fun x hx=>(md2_keep u (by decide) D x),rk rfl fun x hx=>(md2_keep u (by decide) D x),Rf.boxK rfl rfl,trivial⟩ ⟨⟨_,rfl,rfl,rfl⟩,⟨_,rfl,rfl⟩,⟨_,rfl,rfl⟩,⟨_,rfl,rfl,rfl⟩,⟨_,rfl,rfl⟩,⟨_,rfl,rfl⟩,trivial⟩,by decide⟩
   ·refine so ?_
    conv=>whnf
    repeat (refine⟨by first | decide | exact ixl rfl | exact rgl rfl,?_⟩;conv=>whnf)
    refine⟨_,w1 3 (by decide),?_⟩
    conv=>whnf
    repeat (refine⟨by first | decide | exact ixl rfl | exact rgl rfl,?_⟩;conv=>whnf)
    refine⟨_,w2 3 (by decide),?_⟩
    conv=>whnf
    repeat (refine⟨by first | decide | exact ixl rfl | exact rgl rfl,?_⟩;conv=>whnf)
    exact⟨4,by decide,Weak.genT [some 0,some 1,some 2,some 3,some 4,some 5,some 6] rfl rfl ⟨_,rfl,rfl,by decide⟩ ⟨gk5 rfl,rk rfl fun x hx=>(md2_keep u (by decide) D x),rk rfl fun x hx=>(md2_keep u (by decide) D x),rk rfl fun x hx=>(md2_keep u (by decide) D x),ru rfl fun x=>(md2_step u 4 3 D 3 x),rk rfl fun x hx=>(md2_keep u (by decide) D x),Rf.boxK rfl rfl,trivial⟩ ⟨⟨_,rfl,rfl,rfl⟩,⟨_,rfl,rfl⟩,⟨_,rfl,rfl⟩,⟨_,rfl,rfl,rfl⟩,⟨_,rfl,rfl⟩,⟨_,rfl,rfl⟩,trivial⟩,by decide⟩
   ·refine so ?_
    conv=>whnf
    repeat (refine⟨by first | decide | exact ixl rfl | exact rgl rfl,?_⟩;conv=>whnf)
    refine⟨_,w1 4 (by decide),?_⟩
    conv=>whnf
    repeat (refine⟨by first | decide | exact ixl rfl | exact rgl rfl,?_⟩;conv=>whnf)
    refine⟨_,w2 4 (by decide),?_⟩
    conv=>whnf
    repeat (refine⟨by first | decide | exact ixl rfl | exact rgl rfl,?_⟩;conv=>whnf)
    exact⟨5,by decide,Weak.genT [some 0,some 1,some 2,some 3,some 4,some 5,some 6] rfl rfl ⟨_,rfl,rfl,by decide⟩ ⟨gk5 rfl,rk rfl fun x hx=>(md2_keep u (by decide) D x),rk rfl fun x hx=>(md2_keep u (by decide) D x),rk rfl fun x hx=>(md2_keep u (by decide) D x),rk rfl fun x hx=>(md2_keep u (by decide) D x),ru rfl fun x=>(md2_step u 4 3 D 4 x),Rf.boxK rfl rfl,trivial⟩ ⟨⟨_,rfl,rfl,rfl⟩,⟨_,rfl,rfl⟩,⟨_,rfl,rfl⟩,⟨_,rfl,rfl,rfl⟩,⟨_,rfl,rfl⟩,⟨_,rfl,rfl⟩,trivial⟩,by decide⟩
   ·refine so ?_
    conv=>whnf
    exact⟨(),trivial,Weak.genT [some 0,some 1,some 2,some 3,some 4,some 5] rfl rfl ⟨_,rfl,rfl,by decide⟩ ⟨gk5 rfl,rk rfl fun x hx=>((hel _ x).trans (md2_all u _ _ D (by decide) x)),rk rfl fun x hx=>((hel _ x).trans (md2_all u _ _ D (by decide) x)),rk rfl fun x hx=>((hel _ x).trans (md2_all u _ _ D (by decide) x)),rk rfl fun x hx=>((hel _ x).trans (md2_all u _ _ D (by decide) x)),rk rfl fun x hx=>((hel _ x).trans (md2_all u _ _ D (by decide) x)),trivial⟩ ⟨⟨_,rfl,rfl,rfl⟩,⟨_,rfl,rfl⟩,⟨_,rfl,rfl⟩,trivial⟩⟩
  ·refine so ?_
   conv=>whnf
   repeat (refine⟨by first | decide | exact ixl rfl | exact rgl rfl,?_⟩;conv=>whnf)
   exact⟨(),trivial,Weak.genT [some 0,some 1,some 2,some 3,some 4,some 5] rfl rfl ⟨_,rfl,rfl,by decide⟩ ⟨gk5 rfl,rk rfl fun x hx=>(hst _ x),rk rfl fun x hx=>(hst _ x),rk rfl fun x hx=>(hst _ x),rk rfl fun x hx=>(hst _ x),rk rfl fun x hx=>(hst _ x),trivial⟩ ⟨⟨_,rfl,rfl,rfl⟩,⟨_,rfl,rfl⟩,trivial⟩⟩
 ·refine so ?_
  conv=>whnf
  repeat (refine⟨by first | decide | exact ixl rfl | exact rgl rfl,?_⟩;conv=>whnf)
  exact Weak.genT (tl:=[(0,.c .any)]) (xs:=[gG 5 idn,gq 5 (hsn 5 M 0),gq 5 (hsn 5 M 1),gq 5 (hsn 5 M 2),gq 5 (hsn 5 M 3),gq 5 (hsn 5 M 4)]) [some 0,some 1,some 2,some 3,some 4,some 5] rfl rfl ⟨_,rfl,rfl,by decide⟩ ⟨gk5 rfl,rs rfl,rs rfl,rs rfl,rs rfl,rs rfl,trivial⟩ ⟨⟨rfl,rfl⟩,trivial⟩
end Mx
end Go.Proofs.YtkmbnldginonbaaGreat
