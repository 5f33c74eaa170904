/- charpoly.hessenberg at 4 rows. -/
import Derived.Test.YtkmbnldginonbaaGreatNw12
namespace Go.Proofs.YtkmbnldginonbaaGreat
open Go.RowKit
namespace Mx
set_option maxHeartbeats 64000000 in
set_option maxRecDepth 100000 in
theorem hess_4 (M:Nat->Nat->Rat) {L:Nat} (hM:Bq 4 L M) (h1:1≤L) (hL:16*KB 4 L+16≤LIM):FnT Tryz.prog true 40 1 ([gG 4 idn,gq 4 (M 0),gq 4 (M 1),gq 4 (M 2),gq 4 (M 3)].map gb) [.c (.gs 0 0)] (.c .any) ([gG 4 idn,gq 4 (hsn 4 M 0),gq 4 (hsn 4 M 1),gq 4 (hsn 4 M 2),gq 4 (hsn 4 M 3)].map gb):=by
 have hK:1≤KB 4 L:=KB_pos h1
 refine fnt_okS (E:=E1m) E1m_ok Tryz.func40 rfl (by kernel_rfl) ?_
 refine sq ?_
 conv=>whnf
 refine⟨(fun m:Nat=>gst [(0,.c (.gs 0 0)),(2,.c (.int .i64 ((m:Nat):Int)))] [gG 4 idn,gq 4 (hs 4 M m 0),gq 4 (hs 4 M m 1),gq 4 (hs 4 M m 2),gq 4 (hs 4 M m 3)]) 1,Weak.genT [some 0,some 1,some 2,some 3,some 4] rfl rfl ⟨_,rfl,rfl,by decide⟩ ⟨gk4 rfl,rs rfl,rs rfl,rs rfl,rs rfl,trivial⟩ ⟨⟨_,rfl,rfl,rfl⟩,⟨_,rfl,rfl⟩,trivial⟩,?_⟩
 refine swp_block (swp_loop (fun m:Nat=>gst [(0,.c (.gs 0 0)),(2,.c (.int .i64 ((m:Nat):Int)))] [gG 4 idn,gq 4 (hs 4 M m 0),gq 4 (hs 4 M m 1),gq 4 (hs 4 M m 2),gq 4 (hs 4 M m 3)]) (fun m=>5-m) (fun m=>1≤m/\m≤3) 1 (Weak.refl _) (by decide) fun m hm=>?_)
 rcases(show m=1∨m=2∨m=3 by omega)with rfl | rfl | rfl
 ·-- the step 1
  refine sq ?_
  conv=>whnf
  repeat (refine⟨by first | decide | exact ixl rfl | exact rgl rfl,?_⟩;conv=>whnf)
  refine⟨gst [(0,.c (.gs 0 0)),(2,.c (.int .i64 ((1:Nat):Int)))] [gG 4 idn,gq 4 (hs 4 M 1 0),gq 4 (hs 4 M 1 1),gq 4 (hs 4 M 1 2),gq 4 (hs 4 M 1 3)],Weak.genT [some 0,some 1,some 2,some 3,some 4] rfl rfl ⟨_,rfl,rfl,by decide⟩ ⟨gk4 rfl,rs rfl,rs rfl,rs rfl,rs rfl,trivial⟩ ⟨⟨_,rfl,rfl,rfl⟩,⟨_,rfl,rfl⟩,trivial⟩,?_⟩
  have hA:=hs_kb hM h1 (show 1+1≤4 by decide)
  have hE:=fun(hp:pv 4 (hs 4 M 1) 1<4) (t:Nat) (ht:1+t<4)=>el_kb hM h1 (show 1≤1 by decide) (show 1+1<4 by decide) hp ht
  refine swp_mid (fun _:Unit=>gst [(0,.c (.gs 0 0)),(2,.c (.int .i64 ((1:Nat):Int)))] [gG 4 idn,gq 4 (stp 4 1 (hs 4 M 1) 0),gq 4 (stp 4 1 (hs 4 M 1) 1),gq 4 (stp 4 1 (hs 4 M 1) 2),gq 4 (stp 4 1 (hs 4 M 1) 3)]) (fun _=>True) ?_ fun _ _=>?_
  rotate_left
  ·refine so ?_
   conv=>whnf
   repeat (refine⟨by first | decide | exact ixl rfl | exact rgl rfl,?_⟩;conv=>whnf)
   exact⟨2,by decide,Weak.genT [some 0,some 1,some 2,some 3,some 4] rfl rfl ⟨_,rfl,rfl,by decide⟩ ⟨gk4 rfl,rs rfl,rs rfl,rs rfl,rs rfl,trivial⟩ ⟨⟨_,rfl,rfl,rfl⟩,⟨_,rfl,rfl⟩,trivial⟩,by decide⟩
  refine swp_block ?_
  generalize hs 4 M 1=A at *
  have hpiv:=fun(hp:pv 4 A 1<4) (t:Nat)=>el_piv (show 1≤1 by decide) (show 1+1<4 by decide) hp t
  have nz:∀ a,a<4->FnOK Tryz.prog true 47 [.g (nq (A a 0))] (.c (.bool (decide (A a 0≠0)))):=fun a ha=>nz_ok (hA a 0 ha (by decide)) (by omega)
  obtain⟨p1,p2,-,-⟩:=pv_spec 4 A (show 1≤4 by decide)
  generalize hpv:pv 4 A 1=P at *
  refine sq ?_
  conv=>whnf
  refine⟨gst [(0,.c (.gs 0 0)),(2,.c (.int .i64 ((1:Nat):Int))),(3,.c (.int .i64 ((1:Nat):Int)))] [gG 4 idn,gq 4 (A 0),gq 4 (A 1),gq 4 (A 2),gq 4 (A 3)],Weak.genT [some 0,some 1,some 2,some 3,some 4] rfl rfl ⟨_,rfl,rfl,by decide⟩ ⟨gk4 rfl,rs rfl,rs rfl,rs rfl,rs rfl,trivial⟩ ⟨⟨_,rfl,rfl,rfl⟩,⟨_,rfl,rfl⟩,⟨_,rfl,rfl⟩,trivial⟩,?_⟩
  refine swp_mid (fun _:Unit=>gst [(0,.c (.gs 0 0)),(2,.c (.int .i64 ((1:Nat):Int))),(3,.c (.int .i64 ((P:Nat):Int)))] [gG 4 idn,gq 4 (A 0),gq 4 (A 1),gq 4 (A 2),gq 4 (A 3)]) (fun _=>True) ?_ fun _ _=>?_
  ·refine swp_block (swp_loop (fun a:Nat=>gst [(0,.c (.gs 0 0)),(2,.c (.int .i64 ((1:Nat):Int))),(3,.c (.int .i64 ((a:Nat):Int)))] [gG 4 idn,gq 4 (A 0),gq 4 (A 1),gq 4 (A 2),gq 4 (A 3)]) (fun a=>4-a) (fun a=>1≤a/\a≤4/\pvf A 0 (4-a) a=P) 1 (Weak.refl _) ⟨by decide,by decide,hpv⟩ fun a ha=>?_)
   obtain⟨a1,a2,a3⟩:=ha
   rcases(show a=1∨a=2∨a=3∨a=4 by omega)with rfl | rfl | rfl | rfl
   ·refine so ?_
    conv=>whnf
    repeat (refine⟨by first | decide | exact ixl rfl | exact rgl rfl,?_⟩;conv=>whnf)
    refine⟨_,nz 1 (by decide),?_⟩
    conv=>whnf
    refine bcase (fun(h:(!decide (A 1 0≠0))=true)=>?_) fun(h:(!decide (A 1 0≠0))=false)=>?_
    ·have h0:A 1 0=0:=by simpa using h
     conv=>whnf
     repeat (refine⟨by first | decide | exact ixl rfl | exact rgl rfl,?_⟩;conv=>whnf)
     exact⟨2,by decide,Weak.genT [some 0,some 1,some 2,some 3,some 4] rfl rfl ⟨_,rfl,rfl,by decide⟩ ⟨gk4 rfl,rs rfl,rs rfl,rs rfl,rs rfl,trivial⟩ ⟨⟨_,rfl,rfl,rfl⟩,⟨_,rfl,rfl⟩,⟨_,rfl,rfl⟩,trivial⟩,by decide,by decide,by rw[← a3];exact(pvf_next h0).symm⟩
    ·have h0:A 1 0≠0:=by simpa using h
     conv=>whnf
     have eP:1=P:=by rw[← a3];exact(pvf_stop h0).symm
     exact⟨(),trivial,Weak.genT [some 0,some 1,some 2,some 3,some 4] rfl rfl ⟨_,rfl,rfl,by decide⟩ ⟨gk4 rfl,rs rfl,rs rfl,rs rfl,rs rfl,trivial⟩ ⟨⟨_,rfl,rfl,rfl⟩,⟨_,rfl,rfl⟩,⟨_,rfl,by rw[← eP]⟩,trivial⟩⟩
   ·refine so ?_
    conv=>whnf
    repeat (refine⟨by first | decide | exact ixl rfl | exact rgl rfl,?_⟩;conv=>whnf)
    refine⟨_,nz 2 (by decide),?_⟩
    conv=>whnf
    refine bcase (fun(h:(!decide (A 2 0≠0))=true)=>?_) fun(h:(!decide (A 2 0≠0))=false)=>?_
    ·have h0:A 2 0=0:=by simpa using h
     conv=>whnf
     repeat (refine⟨by first | decide | exact ixl rfl | exact rgl rfl,?_⟩;conv=>whnf)
     exact⟨3,by decide,Weak.genT [some 0,some 1,some 2,some 3,some 4] rfl rfl ⟨_,rfl,rfl,by decide⟩ ⟨gk4 rfl,rs rfl,rs rfl,rs rfl,rs rfl,trivial⟩ ⟨⟨_,rfl,rfl,rfl⟩,⟨_,rfl,rfl⟩,⟨_,rfl,rfl⟩,trivial⟩,by decide,by decide,by rw[← a3];exact(pvf_next h0).symm⟩
    ·have h0:A 2 0≠0:=by simpa using h
     conv=>whnf
     have eP:2=P:=by rw[← a3];exact(pvf_stop h0).symm
     exact⟨(),trivial,Weak.genT [some 0,some 1,some 2,some 3,some 4] rfl rfl ⟨_,rfl,rfl,by decide⟩ ⟨gk4 rfl,rs rfl,rs rfl,rs rfl,rs rfl,trivial⟩ ⟨⟨_,rfl,rfl,rfl⟩,⟨_,rfl,rfl⟩,⟨_,rfl,by rw[← eP]⟩,trivial⟩⟩
   ·refine so ?_
    conv=>whnf
    repeat (refine⟨by first | decide | exact ixl rfl | exact rgl rfl,?_⟩;conv=>whnf)
    refine⟨_,nz 3 (by decide),?_⟩
    conv=>whnf
    refine bcase (fun(h:(!decide (A 3 0≠0))=true)=>?_) fun(h:(!decide (A 3 0≠0))=false)=>?_
    ·have h0:A 3 0=0:=by simpa using h
     conv=>whnf
     repeat (refine⟨by first | decide | exact ixl rfl | exact rgl rfl,?_⟩;conv=>whnf)
     exact⟨4,by decide,Weak.genT [some 0,some 1,some 2,some 3,some 4] rfl rfl ⟨_,rfl,rfl,by decide⟩ ⟨gk4 rfl,rs rfl,rs rfl,rs rfl,rs rfl,trivial⟩ ⟨⟨_,rfl,rfl,rfl⟩,⟨_,rfl,rfl⟩,⟨_,rfl,rfl⟩,trivial⟩,by decide,by decide,by rw[← a3];exact(pvf_next h0).symm⟩
    ·have h0:A 3 0≠0:=by simpa using h
     conv=>whnf
     have eP:3=P:=by rw[← a3];exact(pvf_stop h0).symm
     exact⟨(),trivial,Weak.genT [some 0,some 1,some 2,some 3,some 4] rfl rfl ⟨_,rfl,rfl,by decide⟩ ⟨gk4 rfl,rs rfl,rs rfl,rs rfl,rs rfl,trivial⟩ ⟨⟨_,rfl,rfl,rfl⟩,⟨_,rfl,rfl⟩,⟨_,rfl,by rw[← eP]⟩,trivial⟩⟩
   ·refine so ?_
    conv=>whnf
    repeat (refine⟨by first | decide | exact ixl rfl | exact rgl rfl,?_⟩;conv=>whnf)
    have eP:4=P:=a3
    exact⟨(),trivial,Weak.genT [some 0,some 1,some 2,some 3,some 4] rfl rfl ⟨_,rfl,rfl,by decide⟩ ⟨gk4 rfl,rs rfl,rs rfl,rs rfl,rs rfl,trivial⟩ ⟨⟨_,rfl,rfl,rfl⟩,⟨_,rfl,rfl⟩,⟨_,rfl,by rw[← eP]⟩,trivial⟩⟩
  refine swp_mid2 (fun _:Unit=>gst [(0,.c (.gs 0 0)),(2,.c (.int .i64 ((1:Nat):Int)))] [gG 4 idn,gq 4 (xch (sw P 1) A 0),gq 4 (xch (sw P 1) A 1),gq 4 (xch (sw P 1) A 2),gq 4 (xch (sw P 1) A 3)]) (fun _=>P<4) ?_ fun _ hP=>?_
  ·rcases(show P=1∨P=2∨P=3∨P=4 by omega)with rfl | rfl | rfl | rfl
   ·refine so ?_
    conv=>whnf
    repeat (refine⟨by first | decide | exact ixl rfl | exact rgl rfl,?_⟩;conv=>whnf)
    refine so ?_
    conv=>whnf
    repeat (refine⟨by first | decide | exact ixl rfl | exact rgl rfl,?_⟩;conv=>whnf)
    exact⟨(),by decide,Weak.genT [some 0,some 1,some 2,some 3,some 4] rfl rfl ⟨_,rfl,rfl,by decide⟩ ⟨gk4 rfl,rk rfl fun x hx=>(xch_self A _ x),rk rfl fun x hx=>(xch_self A _ x),rk rfl fun x hx=>(xch_self A _ x),rk rfl fun x hx=>(xch_self A _ x),trivial⟩ ⟨⟨_,rfl,rfl,rfl⟩,⟨_,rfl,rfl⟩,trivial⟩⟩
   ·refine so ?_
    conv=>whnf
    repeat (refine⟨by first | decide | exact ixl rfl | exact rgl rfl,?_⟩;conv=>whnf)
    refine sq ?_
    conv=>whnf
    repeat (refine⟨by first | decide | exact ixl rfl | exact rgl rfl,?_⟩;conv=>whnf)
    refine⟨gst [(0,.c (.gs 0 0)),(2,.c (.int .i64 ((1:Nat):Int))),(3,.c (.int .i64 ((2:Nat):Int))),(41,.c (.bool true))] [gG 4 idn,gq 4 (A 0),gq 4 (A 1),gq 4 (A 2),gq 4 (A 3)],Weak.genT [some 0,some 1,some 2,some 3,some 4] rfl rfl ⟨_,rfl,rfl,by decide⟩ ⟨gk4 rfl,rs rfl,rs rfl,rs rfl,rs rfl,trivial⟩ ⟨⟨_,rfl,rfl,rfl⟩,⟨_,rfl,rfl⟩,⟨_,rfl,rfl⟩,⟨_,rfl,rfl⟩,trivial⟩,?_⟩
    refine swp_cond (b:=true) rfl (fun _=>?_) fun h=>absurd h (by decide)
    refine swp_goT E1m_ok (pre:=[_,_,_]) (post:=[]) rfl rfl (by kernel_rfl) ?_
    conv=>whnf
    refine⟨1,_,by decide,OpGoT.call0 (f:=92) (cs:=[]) rfl rfl live_all (exch_4_2_1 A) (lt_put (lt_put (lt_put (lt_asg (tl:=[(0,.c (.gs 0 0)),(2,.c (.int .i64 _)),(3,.c (.int .i64 _)),(41,.c (.bool true))]) ⟨rfl,rfl,rfl,rfl,trivial⟩) rfl) rfl) rfl),?_⟩
    conv=>whnf
    exact⟨(),by decide,Weak.genT [some 0,some 1,some 2,some 3,some 4] rfl rfl ⟨_,rfl,rfl,by decide⟩ ⟨gk4 rfl,rs rfl,rs rfl,rs rfl,rs rfl,trivial⟩ ⟨⟨_,rfl,rfl,rfl⟩,⟨_,rfl,rfl⟩,trivial⟩⟩
   ·refine so ?_
    conv=>whnf
    repeat (refine⟨by first | decide | exact ixl rfl | exact rgl rfl,?_⟩;conv=>whnf)
    refine sq ?_
    conv=>whnf
    repeat (refine⟨by first | decide | exact ixl rfl | exact rgl rfl,?_⟩;conv=>whnf)
    refine⟨gst [(0,.c (.gs 0 0)),(2,.c (.int .i64 ((1:Nat):Int))),(3,.c (.int .i64 ((3:Nat):Int))),(41,.c (.bool true))] [gG 4 idn,gq 4 (A 0),gq 4 (A 1),gq 4 (A 2),gq 4 (A 3)],Weak.genT [some 0,some 1,some 2,some 3,some 4] rfl rfl ⟨_,rfl,rfl,by decide⟩ ⟨gk4 rfl,rs rfl,rs rfl,rs rfl,rs rfl,trivial⟩ ⟨⟨_,rfl,rfl,rfl⟩,⟨_,rfl,rfl⟩,⟨_,rfl,rfl⟩,⟨_,rfl,rfl⟩,trivial⟩,?_⟩
    refine swp_cond (b:=true) rfl (fun _=>?_) fun h=>absurd h (by decide)
    refine swp_goT E1m_ok (pre:=[_,_,_]) (post:=[]) rfl rfl (by kernel_rfl) ?_
    conv=>whnf
    refine⟨1,_,by decide,OpGoT.call0 (f:=92) (cs:=[]) rfl rfl live_all (exch_4_3_1 A) (lt_put (lt_put (lt_put (lt_asg (tl:=[(0,.c (.gs 0 0)),(2,.c (.int .i64 _)),(3,.c (.int .i64 _)),(41,.c (.bool true))]) ⟨rfl,rfl,rfl,rfl,trivial⟩) rfl) rfl) rfl),?_⟩
    conv=>whnf
    exact⟨(),by decide,Weak.genT [some 0,some 1,some 2,some 3,some 4] rfl rfl ⟨_,rfl,rfl,by decide⟩ ⟨gk4 rfl,rs rfl,rs rfl,rs rfl,rs rfl,trivial⟩ ⟨⟨_,rfl,rfl,rfl⟩,⟨_,rfl,rfl⟩,trivial⟩⟩
   ·refine so ?_
    conv=>whnf
    repeat (refine⟨by first | decide | exact ixl rfl | exact rgl rfl,?_⟩;conv=>whnf)
    exact⟨(),trivial,Weak.genT [some 0,some 1,some 2,some 3,some 4] rfl rfl ⟨_,rfl,rfl,by decide⟩ ⟨gk4 rfl,rk rfl fun x hx=>(stp_none hpv _ x),rk rfl fun x hx=>(stp_none hpv _ x),rk rfl fun x hx=>(stp_none hpv _ x),rk rfl fun x hx=>(stp_none hpv _ x),trivial⟩ ⟨⟨_,rfl,rfl,rfl⟩,⟨_,rfl,rfl⟩,trivial⟩⟩
  have hE:=hE hP
  have hpiv:=hpiv hP
  have hst:=fun a b=>stp_some hpv hP a b
  generalize stp 4 1 A=Z at *
  generalize xch (sw P 1) A=A1 at *
  refine sq ?_
  conv=>whnf
  repeat (refine⟨by first | decide | exact ixl rfl | exact rgl rfl,?_⟩;conv=>whnf)
  refine⟨(fun t:Nat=>gst [(0,.c (.gs 0 0)),(2,.c (.int .i64 ((1:Nat):Int))),(4,.c (.int .i64 ((2+t:Nat):Int)))] [gG 4 idn,gq 4 (el 1 A1 t 0),gq 4 (el 1 A1 t 1),gq 4 (el 1 A1 t 2),gq 4 (el 1 A1 t 3)]) 0,Weak.genT [some 0,some 1,some 2,some 3,some 4] rfl rfl ⟨_,rfl,rfl,by decide⟩ ⟨gk4 rfl,rs rfl,rs rfl,rs rfl,rs rfl,trivial⟩ ⟨⟨_,rfl,rfl,rfl⟩,⟨_,rfl,rfl⟩,⟨_,rfl,rfl⟩,trivial⟩,?_⟩
  refine swp_block (swp_loop (fun t:Nat=>gst [(0,.c (.gs 0 0)),(2,.c (.int .i64 ((1:Nat):Int))),(4,.c (.int .i64 ((2+t:Nat):Int)))] [gG 4 idn,gq 4 (el 1 A1 t 0),gq 4 (el 1 A1 t 1),gq 4 (el 1 A1 t 2),gq 4 (el 1 A1 t 3)]) (fun t=>4-t) (fun t=>t≤2) 0 (Weak.refl _) (by decide) fun t ht=>?_)
  rcases(show t=0∨t=1∨t=2 by omega)with rfl | rfl | rfl
  ·have hB:=hE 0 (by decide)
   have hq:=hpiv 0
   refine sq ?_
   conv=>whnf
   repeat (refine⟨by first | decide | exact ixl rfl | exact rgl rfl,?_⟩;conv=>whnf)
   refine⟨gst [(0,.c (.gs 0 0)),(2,.c (.int .i64 ((1:Nat):Int))),(4,.c (.int .i64 ((2:Nat):Int)))] [gG 4 idn,gq 4 (el 1 A1 0 0),gq 4 (el 1 A1 0 1),gq 4 (el 1 A1 0 2),gq 4 (el 1 A1 0 3)],Weak.genT [some 0,some 1,some 2,some 3,some 4] rfl rfl ⟨_,rfl,rfl,by decide⟩ ⟨gk4 rfl,rs rfl,rs rfl,rs rfl,rs rfl,trivial⟩ ⟨⟨_,rfl,rfl,rfl⟩,⟨_,rfl,rfl⟩,⟨_,rfl,rfl⟩,trivial⟩,?_⟩
   refine swp_mid (fun _:Unit=>gst [(0,.c (.gs 0 0)),(2,.c (.int .i64 ((1:Nat):Int))),(4,.c (.int .i64 ((2:Nat):Int)))] [gG 4 idn,gq 4 (el1 1 2 (el 1 A1 0) 0),gq 4 (el1 1 2 (el 1 A1 0) 1),gq 4 (el1 1 2 (el 1 A1 0) 2),gq 4 (el1 1 2 (el 1 A1 0) 3)]) (fun _=>True) ?_ fun _ _=>?_
   rotate_left
   ·refine so ?_
    conv=>whnf
    repeat (refine⟨by first | decide | exact ixl rfl | exact rgl rfl,?_⟩;conv=>whnf)
    exact⟨1,by decide,Weak.genT [some 0,some 1,some 2,some 3,some 4] rfl rfl ⟨_,rfl,rfl,by decide⟩ ⟨gk4 rfl,rs rfl,rs rfl,rs rfl,rs rfl,trivial⟩ ⟨⟨_,rfl,rfl,rfl⟩,⟨_,rfl,rfl⟩,⟨_,rfl,rfl⟩,trivial⟩,by decide⟩
   refine swp_block ?_
   generalize el 1 A1 0=B at *
   have hx:∀ a b,a<4->b<4->qlen (B a b)≤KB 4 L:=hB
   have nz:=nz_ok (x:=B 2 0) (hx 2 0 (by decide) (by decide)) (by omega)
   have kq:=qquo_n (hx 2 0 (by decide) (by decide)) (hx 1 0 (by decide) (by decide)) (by omega) hq rfl
   have hu:qlen (B 2 0 / B 1 0)≤2*KB 4 L:=Nat.le_trans (q_div (hx 2 0 (by decide) (by decide)) (hx 1 0 (by decide) (by decide)) (by omega)) (by omega)
   have hel:=fun(h0:¬ B 2 0=0) a b=>el1_some (m:=1) (i:=2) (A:=B) h0 rfl a b
   have hez:=fun(h0:B 2 0=0) a b=>el1_zero (m:=1) (i:=2) (A:=B) h0 a b
   change ∀(h0:¬ B 2 0=0) (a b:Nat),el1 1 2 B a b=ca (B 2 0 / B 1 0) 2 1 (ra (B 2 0 / B 1 0) 2 1 B) a b at hel
   generalize el1 1 2 B=Y at *
   generalize B 2 0 / B 1 0=u at *
   have m1:∀ j,j<4->FnOK Tryz.prog true 46 [.g (nq u),.g (nq (md1 u 2 1 B j 1 j))] (.g (nq (u*B 1 j))):=fun j hj=>qmul_n hu (by rw[md1_m u (by decide)];exact hx 1 j (by decide) hj) (by omega) (by rw[md1_m u (by decide)])
   have m2:∀ j,j<4->FnOK Tryz.prog true 50 [.g (nq (md1 u 2 1 B j 2 j)),.g (nq (u*B 1 j))] (.g (nq (B 2 j-u*B 1 j))):=fun j hj=>qsub_n (by rw[md1_old];exact hx 2 j (by decide) hj) (q_mul hu (hx 1 j (by decide) hj) (by omega)) (by omega) (by omega) (by rw[md1_old])
   have hR:=ra_kb (i:=2) hB hu (show 1<4 by decide) hK
   have w1:∀ j,j<4->FnOK Tryz.prog true 46 [.g (nq u),.g (nq (md2 u 2 1 (ra u 2 1 B) j j 2))] (.g (nq (u*ra u 2 1 B j 2))):=fun j hj=>qmul_n hu (by rw[md2_old];exact hR j 2 hj (by decide)) (by omega) (by rw[md2_old])
   have w2:∀ j,j<4->FnOK Tryz.prog true 93 [.g (nq (md2 u 2 1 (ra u 2 1 B) j j 1)),.g (nq (u*ra u 2 1 B j 2))] (.g (nq (ra u 2 1 B j 1+u*ra u 2 1 B j 2))):=fun j hj=>qadd_n (by rw[md2_old];exact hR j 1 hj (by decide)) (q_mul hu (hR j 2 hj (by decide)) (by omega)) (by omega) (by rw[md2_old])
   refine sq ?_
   conv=>whnf
   repeat (refine⟨by first | decide | exact ixl rfl | exact rgl rfl,?_⟩;conv=>whnf)
   refine⟨_,nz,?_⟩
   conv=>whnf
   refine bcase (fun(h:(!decide (B 2 0≠0))=true)=>?_) fun(h:(!decide (B 2 0≠0))=false)=>?_
   ·have h0:B 2 0=0:=by simpa using h
    conv=>whnf
    exact⟨(),trivial,Weak.genT [some 0,some 1,some 2,some 3,some 4] rfl rfl ⟨_,rfl,rfl,by decide⟩ ⟨gk4 rfl,rk rfl fun x hx=>(hez h0 _ x),rk rfl fun x hx=>(hez h0 _ x),rk rfl fun x hx=>(hez h0 _ x),rk rfl fun x hx=>(hez h0 _ x),trivial⟩ ⟨⟨_,rfl,rfl,rfl⟩,⟨_,rfl,rfl⟩,⟨_,rfl,rfl⟩,trivial⟩⟩
   have h0:¬ B 2 0=0:=by simpa using h
   conv=>whnf
   refine⟨gst [(0,.c (.gs 0 0)),(2,.c (.int .i64 ((1:Nat):Int))),(4,.c (.int .i64 ((2:Nat):Int)))] [gG 4 idn,gq 4 (B 0),gq 4 (B 1),gq 4 (B 2),gq 4 (B 3)],Weak.genT [some 0,some 1,some 2,some 3,some 4] rfl rfl ⟨_,rfl,rfl,by decide⟩ ⟨gk4 rfl,rs rfl,rs rfl,rs rfl,rs rfl,trivial⟩ ⟨⟨_,rfl,rfl,rfl⟩,⟨_,rfl,rfl⟩,⟨_,rfl,rfl⟩,trivial⟩,?_⟩
   have hel:=hel h0
   refine sq ?_
   conv=>whnf
   repeat (refine⟨by first | decide | exact ixl rfl | exact rgl rfl,?_⟩;conv=>whnf)
   refine⟨_,kq,?_⟩
   conv=>whnf
   refine⟨gst [(0,.c (.gs 0 0)),(2,.c (.int .i64 ((1:Nat):Int))),(4,.c (.int .i64 ((2:Nat):Int))),(5,.c (.p 5 0 4 0 0))] [gG 4 idn,gq 4 (B 0),gq 4 (B 1),gq 4 (B 2),gq 4 (B 3),⟨38,4,1,boxF (nq u)⟩],Weak.genT [some 0,some 1,some 2,some 3,some 4,some 25] rfl rfl ⟨_,rfl,rfl,by decide⟩ ⟨gk4 rfl,rs rfl,rs rfl,rs rfl,rs rfl,Rf.boxU rfl rfl rfl,trivial⟩ ⟨⟨_,rfl,rfl,rfl⟩,⟨_,rfl,rfl⟩,⟨_,rfl,rfl⟩,⟨_,rfl,rfl,rfl⟩,trivial⟩,?_⟩
   refine swp_mid (fun _:Unit=>gst [(0,.c (.gs 0 0)),(2,.c (.int .i64 ((1:Nat):Int))),(4,.c (.int .i64 ((2:Nat):Int))),(5,.c (.p 5 0 4 0 0))] [gG 4 idn,gq 4 (ra u 2 1 B 0),gq 4 (ra u 2 1 B 1),gq 4 (ra u 2 1 B 2),gq 4 (ra u 2 1 B 3),⟨38,4,1,boxF (nq u)⟩]) (fun _=>True) ?_ fun _ _=>?_
   ·refine sq ?_
    conv=>whnf
    repeat (refine⟨by first | decide | exact ixl rfl | exact rgl rfl,?_⟩;conv=>whnf)
    refine⟨(fun j:Nat=>gst [(0,.c (.gs 0 0)),(2,.c (.int .i64 ((1:Nat):Int))),(4,.c (.int .i64 ((2:Nat):Int))),(5,.c (.p 5 0 4 0 0)),(85,.c (.int .i64 4)),(86,.c (.int .i64 ((j:Nat):Int)))] [gG 4 idn,gq 4 (md1 u 2 1 B j 0),gq 4 (md1 u 2 1 B j 1),gq 4 (md1 u 2 1 B j 2),gq 4 (md1 u 2 1 B j 3),⟨38,4,1,boxF (nq u)⟩]) 0,Weak.genT [some 0,some 1,some 2,some 3,some 4,some 5] rfl rfl ⟨_,rfl,rfl,by decide⟩ ⟨gk4 rfl,rk rfl fun x hx=>(md1_zero u _ _ B _ x),rk rfl fun x hx=>(md1_zero u _ _ B _ x),rk rfl fun x hx=>(md1_zero u _ _ B _ x),rk rfl fun x hx=>(md1_zero u _ _ B _ x),Rf.boxK rfl rfl,trivial⟩ ⟨⟨_,rfl,rfl,rfl⟩,⟨_,rfl,rfl⟩,⟨_,rfl,rfl⟩,⟨_,rfl,rfl,rfl⟩,⟨_,rfl,rfl⟩,⟨_,rfl,rfl⟩,trivial⟩,?_⟩
    refine swp_block (swp_loop (fun j:Nat=>gst [(0,.c (.gs 0 0)),(2,.c (.int .i64 ((1:Nat):Int))),(4,.c (.int .i64 ((2:Nat):Int))),(5,.c (.p 5 0 4 0 0)),(85,.c (.int .i64 4)),(86,.c (.int .i64 ((j:Nat):Int)))] [gG 4 idn,gq 4 (md1 u 2 1 B j 0),gq 4 (md1 u 2 1 B j 1),gq 4 (md1 u 2 1 B j 2),gq 4 (md1 u 2 1 B j 3),⟨38,4,1,boxF (nq u)⟩]) (fun j=>4-j) (fun j=>j≤4) 0 (Weak.refl _) (by decide) fun j hj=>?_)
    have m1:=m1 j
    have m2:=m2 j
    have hj0:(0:Int)≤(j:Int):=by omega
    refine so ?_
    conv=>whnf
    refine bcase (fun(h:decide ((j:Int)<4)=true)=>?_) fun(h:decide ((j:Int)<4)=false)=>?_
    ·have h:=of_decide_eq_true h
     have m1:=m1 (by omega)
     have m2:=m2 (by omega)
     have hj1:(j:Int)<((4:Nat):Int):=by omega
     conv=>whnf
     repeat (refine⟨by first | exact hj0 | exact hj1 | decide | exact ixl rfl | exact rgl (by decide),?_⟩;conv=>whnf)
     refine⟨_,m1,?_⟩
     conv=>whnf
     repeat (refine⟨by first | exact hj0 | exact hj1 | decide | exact ixl rfl | exact rgl (by decide),?_⟩;conv=>whnf)
     refine⟨_,m2,?_⟩
     conv=>whnf
     repeat (refine⟨by first | exact hj0 | exact hj1 | decide | exact ixl rfl | exact rgl (by decide),?_⟩;conv=>whnf)
     refine⟨i64_range (by omega) (by omega),?_⟩
     conv=>whnf
     exact⟨j+1,by omega,Weak.genT [some 0,some 1,some 2,some 3,some 4,some 5] rfl rfl ⟨_,rfl,rfl,by decide⟩ ⟨gk4 rfl,rk rfl fun x hx=>(md1_keep u (by decide) B j x),rk rfl fun x hx=>(md1_keep u (by decide) B j x),ru rfl fun x=>(md1_step u 2 1 B j x),rk rfl fun x hx=>(md1_keep u (by decide) B j x),Rf.boxK rfl rfl,trivial⟩ ⟨⟨_,rfl,rfl,rfl⟩,⟨_,rfl,rfl⟩,⟨_,rfl,rfl⟩,⟨_,rfl,rfl,rfl⟩,⟨_,rfl,rfl⟩,⟨_,rfl,rfl⟩,trivial⟩,by omega⟩
    ·have h:=of_decide_eq_false h
     obtain rfl:j=4:=by omega
     conv=>whnf
     exact⟨(),trivial,Weak.genT [some 0,some 1,some 2,some 3,some 4,some 5] rfl rfl ⟨_,rfl,rfl,by decide⟩ ⟨gk4 rfl,rk rfl fun x hx=>(md1_all u _ _ B hx _),rk rfl fun x hx=>(md1_all u _ _ B hx _),rk rfl fun x hx=>(md1_all u _ _ B hx _),rk rfl fun x hx=>(md1_all u _ _ B hx _),Rf.boxK rfl rfl,trivial⟩ ⟨⟨_,rfl,rfl,rfl⟩,⟨_,rfl,rfl⟩,⟨_,rfl,rfl⟩,⟨_,rfl,rfl,rfl⟩,trivial⟩⟩
   generalize ra u 2 1 B=D at *
   refine sq ?_
   conv=>whnf
   repeat (refine⟨by first | decide | exact ixl rfl | exact rgl rfl,?_⟩;conv=>whnf)
   refine⟨(fun j:Nat=>gst [(0,.c (.gs 0 0)),(2,.c (.int .i64 ((1:Nat):Int))),(4,.c (.int .i64 ((2:Nat):Int))),(5,.c (.p 5 0 4 0 0)),(114,.c (.int .i64 4)),(115,.c (.int .i64 ((j:Nat):Int)))] [gG 4 idn,gq 4 (md2 u 2 1 D j 0),gq 4 (md2 u 2 1 D j 1),gq 4 (md2 u 2 1 D j 2),gq 4 (md2 u 2 1 D j 3),⟨38,4,1,boxF (nq u)⟩]) 0,Weak.genT [some 0,some 1,some 2,some 3,some 4,some 5] rfl rfl ⟨_,rfl,rfl,by decide⟩ ⟨gk4 rfl,rk rfl fun x hx=>(md2_zero u _ _ D _ x),rk rfl fun x hx=>(md2_zero u _ _ D _ x),rk rfl fun x hx=>(md2_zero u _ _ D _ x),rk rfl fun x hx=>(md2_zero u _ _ D _ x),Rf.boxK rfl rfl,trivial⟩ ⟨⟨_,rfl,rfl,rfl⟩,⟨_,rfl,rfl⟩,⟨_,rfl,rfl⟩,⟨_,rfl,rfl,rfl⟩,⟨_,rfl,rfl⟩,⟨_,rfl,rfl⟩,trivial⟩,?_⟩
   refine swp_block (swp_loop (fun j:Nat=>gst [(0,.c (.gs 0 0)),(2,.c (.int .i64 ((1:Nat):Int))),(4,.c (.int .i64 ((2:Nat):Int))),(5,.c (.p 5 0 4 0 0)),(114,.c (.int .i64 4)),(115,.c (.int .i64 ((j:Nat):Int)))] [gG 4 idn,gq 4 (md2 u 2 1 D j 0),gq 4 (md2 u 2 1 D j 1),gq 4 (md2 u 2 1 D j 2),gq 4 (md2 u 2 1 D j 3),⟨38,4,1,boxF (nq u)⟩]) (fun j=>4-j) (fun j=>j≤4) 0 (Weak.refl _) (by decide) fun j hj=>?_)
   rcases(show j=0∨j=1∨j=2∨j=3∨j=4 by omega)with rfl | rfl | rfl | rfl | rfl
   ·refine so ?_
    conv=>whnf
    repeat (refine⟨by first | decide | exact ixl rfl | exact rgl rfl,?_⟩;conv=>whnf)
    refine⟨_,w1 0 (by decide),?_⟩
    conv=>whnf
    repeat (refine⟨by first | decide | exact ixl rfl | exact rgl rfl,?_⟩;conv=>whnf)
    refine⟨_,w2 0 (by decide),?_⟩
    conv=>whnf
    repeat (refine⟨by first | decide | exact ixl rfl | exact rgl rfl,?_⟩;conv=>whnf)
    exact⟨1,by decide,Weak.genT [some 0,some 1,some 2,some 3,some 4,some 5] rfl rfl ⟨_,rfl,rfl,by decide⟩ ⟨gk4 rfl,ru rfl fun x=>(md2_step u 2 1 D 0 x),rk rfl fun x hx=>(md2_keep u (by decide) D x),rk rfl fun x hx=>(md2_keep u (by decide) D x),rk rfl fun x hx=>(md2_keep u (by decide) D x),Rf.boxK rfl rfl,trivial⟩ ⟨⟨_,rfl,rfl,rfl⟩,⟨_,rfl,rfl⟩,⟨_,rfl,rfl⟩,⟨_,rfl,rfl,rfl⟩,⟨_,rfl,rfl⟩,⟨_,rfl,rfl⟩,trivial⟩,by decide⟩
   ·refine so ?_
    conv=>whnf
    repeat (refine⟨by first | decide | exact ixl rfl | exact rgl rfl,?_⟩;conv=>whnf)
    refine⟨_,w1 1 (by decide),?_⟩
    conv=>whnf
    repeat (refine⟨by first | decide | exact ixl rfl | exact rgl rfl,?_⟩;conv=>whnf)
    refine⟨_,w2 1 (by decide),?_⟩
    conv=>whnf
    repeat (refine⟨by first | decide | exact ixl rfl | exact rgl rfl,?_⟩;conv=>whnf)
    exact⟨2,by decide,Weak.genT [some 0,some 1,some 2,some 3,some 4,some 5] rfl rfl ⟨_,rfl,rfl,by decide⟩ ⟨gk4 rfl,rk rfl fun x hx=>(md2_keep u (by decide) D x),ru rfl fun x=>(md2_step u 2 1 D 1 x),rk rfl fun x hx=>(md2_keep u (by decide) D x),rk rfl fun x hx=>(md2_keep u (by decide) D x),Rf.boxK rfl rfl,trivial⟩ ⟨⟨_,rfl,rfl,rfl⟩,⟨_,rfl,rfl⟩,⟨_,rfl,rfl⟩,⟨_,rfl,rfl,rfl⟩,⟨_,rfl,rfl⟩,⟨_,rfl,rfl⟩,trivial⟩,by decide⟩
   ·refine so ?_
    conv=>whnf
    repeat (refine⟨by first | decide | exact ixl rfl | exact rgl rfl,?_⟩;conv=>whnf)
    refine⟨_,w1 2 (by decide),?_⟩
    conv=>whnf
    repeat (refine⟨by first | decide | exact ixl rfl | exact rgl rfl,?_⟩;conv=>whnf)
    refine⟨_,w2 2 (by decide),?_⟩
    conv=>whnf
    repeat (refine⟨by first | decide | exact ixl rfl | exact rgl rfl,?_⟩;conv=>whnf)
    exact⟨3,by decide,Weak.genT [some 0,some 1,some 2,some 3,some 4,some 5] rfl rfl ⟨_,rfl,rfl,by decide⟩ ⟨gk4 rfl,rk rfl fun x hx=>(md2_keep u (by decide) D x),rk rfl fun x hx=>(md2_keep u (by decide) D x),ru rfl fun x=>(md2_step u 2 1 D 2 x),rk rfl fun x hx=>(md2_keep u (by decide) D x),Rf.boxK rfl rfl,trivial⟩ ⟨⟨_,rfl,rfl,rfl⟩,⟨_,rfl,rfl⟩,⟨_,rfl,rfl⟩,⟨_,rfl,rfl,rfl⟩,⟨_,rfl,rfl⟩,⟨_,rfl,rfl⟩,trivial⟩,by decide⟩
   ·refine so ?_
    conv=>whnf
    repeat (refine⟨by first | decide | exact ixl rfl | exact rgl rfl,?_⟩;conv=>whnf)
    refine⟨_,w1 3 (by decide),?_⟩
    conv=>whnf
    repeat (refine⟨by first | decide | exact ixl rfl | exact rgl rfl,?_⟩;conv=>whnf)
    refine⟨_,w2 3 (by decide),?_⟩
    conv=>whnf
    repeat (refine⟨by first | decide | exact ixl rfl | exact rgl rfl,?_⟩;conv=>whnf)
    exact⟨4,by decide,Weak.genT [some 0,some 1,some 2,some 3,some 4,some 5] rfl rfl ⟨_,rfl,rfl,by decide⟩ ⟨gk4 rfl,rk rfl fun x hx=>(md2_keep u (by decide) D x),rk rfl fun x hx=>(md2_keep u (by decide) D x),rk rfl fun x hx=>(md2_keep u (by decide) D x),ru rfl fun x=>(md2_step u 2 1 D 3 x),Rf.boxK rfl rfl,trivial⟩ ⟨⟨_,rfl,rfl,rfl⟩,⟨_,rfl,rfl⟩,⟨_,rfl,rfl⟩,⟨_,rfl,rfl,rfl⟩,⟨_,rfl,rfl⟩,⟨_,rfl,rfl⟩,trivial⟩,by decide⟩
   ·refine so ?_
    conv=>whnf
    exact⟨(),trivial,Weak.genT [some 0,some 1,some 2,some 3,some 4] rfl rfl ⟨_,rfl,rfl,by decide⟩ ⟨gk4 rfl,rk rfl fun x hx=>((hel _ x).trans (md2_all u _ _ D (by decide) x)),rk rfl fun x hx=>((hel _ x).trans (md2_all u _ _ D (by decide) x)),rk rfl fun x hx=>((hel _ x).trans (md2_all u _ _ D (by decide) x)),rk rfl fun x hx=>((hel _ x).trans (md2_all u _ _ D (by decide) x)),trivial⟩ ⟨⟨_,rfl,rfl,rfl⟩,⟨_,rfl,rfl⟩,⟨_,rfl,rfl⟩,trivial⟩⟩
  ·have hB:=hE 1 (by decide)
   have hq:=hpiv 1
   refine sq ?_
   conv=>whnf
   repeat (refine⟨by first | decide | exact ixl rfl | exact rgl rfl,?_⟩;conv=>whnf)
   refine⟨gst [(0,.c (.gs 0 0)),(2,.c (.int .i64 ((1:Nat):Int))),(4,.c (.int .i64 ((3:Nat):Int)))] [gG 4 idn,gq 4 (el 1 A1 1 0),gq 4 (el 1 A1 1 1),gq 4 (el 1 A1 1 2),gq 4 (el 1 A1 1 3)],Weak.genT [some 0,some 1,some 2,some 3,some 4] rfl rfl ⟨_,rfl,rfl,by decide⟩ ⟨gk4 rfl,rs rfl,rs rfl,rs rfl,rs rfl,trivial⟩ ⟨⟨_,rfl,rfl,rfl⟩,⟨_,rfl,rfl⟩,⟨_,rfl,rfl⟩,trivial⟩,?_⟩
   refine swp_mid (fun _:Unit=>gst [(0,.c (.gs 0 0)),(2,.c (.int .i64 ((1:Nat):Int))),(4,.c (.int .i64 ((3:Nat):Int)))] [gG 4 idn,gq 4 (el1 1 3 (el 1 A1 1) 0),gq 4 (el1 1 3 (el 1 A1 1) 1),gq 4 (el1 1 3 (el 1 A1 1) 2),gq 4 (el1 1 3 (el 1 A1 1) 3)]) (fun _=>True) ?_ fun _ _=>?_
   rotate_left
   ·refine so ?_
    conv=>whnf
    repeat (refine⟨by first | decide | exact ixl rfl | exact rgl rfl,?_⟩;conv=>whnf)
    exact⟨2,by decide,Weak.genT [some 0,some 1,some 2,some 3,some 4] rfl rfl ⟨_,rfl,rfl,by decide⟩ ⟨gk4 rfl,rs rfl,rs rfl,rs rfl,rs rfl,trivial⟩ ⟨⟨_,rfl,rfl,rfl⟩,⟨_,rfl,rfl⟩,⟨_,rfl,rfl⟩,trivial⟩,by decide⟩
   refine swp_block ?_
   generalize el 1 A1 1=B at *
   have hx:∀ a b,a<4->b<4->qlen (B a b)≤KB 4 L:=hB
   have nz:=nz_ok (x:=B 3 0) (hx 3 0 (by decide) (by decide)) (by omega)
   have kq:=qquo_n (hx 3 0 (by decide) (by decide)) (hx 1 0 (by decide) (by decide)) (by omega) hq rfl
   have hu:qlen (B 3 0 / B 1 0)≤2*KB 4 L:=Nat.le_trans (q_div (hx 3 0 (by decide) (by decide)) (hx 1 0 (by decide) (by decide)) (by omega)) (by omega)
   have hel:=fun(h0:¬ B 3 0=0) a b=>el1_some (m:=1) (i:=3) (A:=B) h0 rfl a b
   have hez:=fun(h0:B 3 0=0) a b=>el1_zero (m:=1) (i:=3) (A:=B) h0 a b
   change ∀(h0:¬ B 3 0=0) (a b:Nat),el1 1 3 B a b=ca (B 3 0 / B 1 0) 3 1 (ra (B 3 0 / B 1 0) 3 1 B) a b at hel
   generalize el1 1 3 B=Y at *
   generalize B 3 0 / B 1 0=u at *
   have m1:∀ j,j<4->FnOK Tryz.prog true 46 [.g (nq u),.g (nq (md1 u 3 1 B j 1 j))] (.g (nq (u*B 1 j))):=fun j hj=>qmul_n hu (by rw[md1_m u (by decide)];exact hx 1 j (by decide) hj) (by omega) (by rw[md1_m u (by decide)])
   have m2:∀ j,j<4->FnOK Tryz.prog true 50 [.g (nq (md1 u 3 1 B j 3 j)),.g (nq (u*B 1 j))] (.g (nq (B 3 j-u*B 1 j))):=fun j hj=>qsub_n (by rw[md1_old];exact hx 3 j (by decide) hj) (q_mul hu (hx 1 j (by decide) hj) (by omega)) (by omega) (by omega) (by rw[md1_old])
   have hR:=ra_kb (i:=3) hB hu (show 1<4 by decide) hK
   have w1:∀ j,j<4->FnOK Tryz.prog true 46 [.g (nq u),.g (nq (md2 u 3 1 (ra u 3 1 B) j j 3))] (.g (nq (u*ra u 3 1 B j 3))):=fun j hj=>qmul_n hu (by rw[md2_old];exact hR j 3 hj (by decide)) (by omega) (by rw[md2_old])
   have w2:∀ j,j<4->FnOK Tryz.prog true 93 [.g (nq (md2 u 3 1 (ra u 3 1 B) j j 1)),.g (nq (u*ra u 3 1 B j 3))] (.g (nq (ra u 3 1 B j 1+u*ra u 3 1 B j 3))):=fun j hj=>qadd_n (by rw[md2_old];exact hR j 1 hj (by decide)) (q_mul hu (hR j 3 hj (by decide)) (by omega)) (by omega) (by rw[md2_old])
   refine sq ?_
   conv=>whnf
   repeat (refine⟨by first | decide | exact ixl rfl | exact rgl rfl,?_⟩;conv=>whnf)
   refine⟨_,nz,?_⟩
   conv=>whnf
   refine bcase (fun(h:(!decide (B 3 0≠0))=true)=>?_) fun(h:(!decide (B 3 0≠0))=false)=>?_
   ·have h0:B 3 0=0:=by simpa using h
    conv=>whnf
    exact⟨(),trivial,Weak.genT [some 0,some 1,some 2,some 3,some 4] rfl rfl ⟨_,rfl,rfl,by decide⟩ ⟨gk4 rfl,rk rfl fun x hx=>(hez h0 _ x),rk rfl fun x hx=>(hez h0 _ x),rk rfl fun x hx=>(hez h0 _ x),rk rfl fun x hx=>(hez h0 _ x),trivial⟩ ⟨⟨_,rfl,rfl,rfl⟩,⟨_,rfl,rfl⟩,⟨_,rfl,rfl⟩,trivial⟩⟩
   have h0:¬ B 3 0=0:=by simpa using h
   conv=>whnf
   refine⟨gst [(0,.c (.gs 0 0)),(2,.c (.int .i64 ((1:Nat):Int))),(4,.c (.int .i64 ((3:Nat):Int)))] [gG 4 idn,gq 4 (B 0),gq 4 (B 1),gq 4 (B 2),gq 4 (B 3)],Weak.genT [some 0,some 1,some 2,some 3,some 4] rfl rfl ⟨_,rfl,rfl,by decide⟩ ⟨gk4 rfl,rs rfl,rs rfl,rs rfl,rs rfl,trivial⟩ ⟨⟨_,rfl,rfl,rfl⟩,⟨_,rfl,rfl⟩,⟨_,rfl,rfl⟩,trivial⟩,?_⟩
   have hel:=hel h0
   refine sq ?_
   conv=>whnf
   repeat (refine⟨by first | decide | exact ixl rfl | exact rgl rfl,?_⟩;conv=>whnf)
   refine⟨_,kq,?_⟩
   conv=>whnf
   refine⟨gst [(0,.c (.gs 0 0)),(2,.c (.int .i64 ((1:Nat):Int))),(4,.c (.int .i64 ((3:Nat):Int))),(5,.c (.p 5 0 4 0 0))] [gG 4 idn,gq 4 (B 0),gq 4 (B 1),gq 4 (B 2),gq 4 (B 3),⟨38,4,1,boxF (nq u)⟩],Weak.genT [some 0,some 1,some 2,some 3,some 4,some 25] rfl rfl ⟨_,rfl,rfl,by decide⟩ ⟨gk4 rfl,rs rfl,rs rfl,rs rfl,rs rfl,Rf.boxU rfl rfl rfl,trivial⟩ ⟨⟨_,rfl,rfl,rfl⟩,⟨_,rfl,rfl⟩,⟨_,rfl,rfl⟩,⟨_,rfl,rfl,rfl⟩,trivial⟩,?_⟩
   refine swp_mid (fun _:Unit=>gst [(0,.c (.gs 0 0)),(2,.c (.int .i64 ((1:Nat):Int))),(4,.c (.int .i64 ((3:Nat):Int))),(5,.c (.p 5 0 4 0 0))] [gG 4 idn,gq 4 (ra u 3 1 B 0),gq 4 (ra u 3 1 B 1),gq 4 (ra u 3 1 B 2),gq 4 (ra u 3 1 B 3),⟨38,4,1,boxF (nq u)⟩]) (fun _=>True) ?_ fun _ _=>?_
   ·refine sq ?_
    conv=>whnf
    repeat (refine⟨by first | decide | exact ixl rfl | exact rgl rfl,?_⟩;conv=>whnf)
    refine⟨(fun j:Nat=>gst [(0,.c (.gs 0 0)),(2,.c (.int .i64 ((1:Nat):Int))),(4,.c (.int .i64 ((3:Nat):Int))),(5,.c (.p 5 0 4 0 0)),(85,.c (.int .i64 4)),(86,.c (.int .i64 ((j:Nat):Int)))] [gG 4 idn,gq 4 (md1 u 3 1 B j 0),gq 4 (md1 u 3 1 B j 1),gq 4 (md1 u 3 1 B j 2),gq 4 (md1 u 3 1 B j 3),⟨38,4,1,boxF (nq u)⟩]) 0,Weak.genT [some 0,some 1,some 2,some 3,some 4,some 5] rfl rfl ⟨_,rfl,rfl,by decide⟩ ⟨gk4 rfl,rk rfl fun x hx=>(md1_zero u _ _ B _ x),rk rfl fun x hx=>(md1_zero u _ _ B _ x),rk rfl fun x hx=>(md1_zero u _ _ B _ x),rk rfl fun x hx=>(md1_zero u _ _ B _ x),Rf.boxK rfl rfl,trivial⟩ ⟨⟨_,rfl,rfl,rfl⟩,⟨_,rfl,rfl⟩,⟨_,rfl,rfl⟩,⟨_,rfl,rfl,rfl⟩,⟨_,rfl,rfl⟩,⟨_,rfl,rfl⟩,trivial⟩,?_⟩
    refine swp_block (swp_loop (fun j:Nat=>gst [(0,.c (.gs 0 0)),(2,.c (.int .i64 ((1:Nat):Int))),(4,.c (.int .i64 ((3:Nat):Int))),(5,.c (.p 5 0 4 0 0)),(85,.c (.int .i64 4)),(86,.c (.int .i64 ((j:Nat):Int)))] [gG 4 idn,gq 4 (md1 u 3 1 B j 0),gq 4 (md1 u 3 1 B j 1),gq 4 (md1 u 3 1 B j 2),gq 4 (md1 u 3 1 B j 3),⟨38,4,1,boxF (nq u)⟩]) (fun j=>4-j) (fun j=>j≤4) 0 (Weak.refl _) (by decide) fun j hj=>?_)
    have m1:=m1 j
    have m2:=m2 j
    have hj0:(0:Int)≤(j:Int):=by omega
    refine so ?_
    conv=>whnf
    refine bcase (fun(h:decide ((j:Int)<4)=true)=>?_) fun(h:decide ((j:Int)<4)=false)=>?_
    ·have h:=of_decide_eq_true h
     have m1:=m1 (by omega)
     have m2:=m2 (by omega)
     have hj1:(j:Int)<((4:Nat):Int):=by omega
     conv=>whnf
     repeat (refine⟨by first | exact hj0 | exact hj1 | decide | exact ixl rfl | exact rgl (by decide),?_⟩;conv=>whnf)
     refine⟨_,m1,?_⟩
     conv=>whnf
     repeat (refine⟨by first | exact hj0 | exact hj1 | decide | exact ixl rfl | exact rgl (by decide),?_⟩;conv=>whnf)
     refine⟨_,m2,?_⟩
     conv=>whnf
     repeat (refine⟨by first | exact hj0 | exact hj1 | decide | exact ixl rfl | exact rgl (by decide),?_⟩;conv=>whnf)
     refine⟨i64_range (by omega) (by omega),?_⟩
     conv=>whnf
     exact⟨j+1,by omega,Weak.genT [some 0,some 1,some 2,some 3,some 4,some 5] rfl rfl ⟨_,rfl,rfl,by decide⟩ ⟨gk4 rfl,rk rfl fun x hx=>(md1_keep u (by decide) B j x),rk rfl fun x hx=>(md1_keep u (by decide) B j x),rk rfl fun x hx=>(md1_keep u (by decide) B j x),ru rfl fun x=>(md1_step u 3 1 B j x),Rf.boxK rfl rfl,trivial⟩ ⟨⟨_,rfl,rfl,rfl⟩,⟨_,rfl,rfl⟩,⟨_,rfl,rfl⟩,⟨_,rfl,rfl,rfl⟩,⟨_,rfl,rfl⟩,⟨_,rfl,rfl⟩,trivial⟩,by omega⟩
    ·have h:=of_decide_eq_false h
     obtain rfl:j=4:=by omega
     conv=>whnf
     exact⟨(),trivial,Weak.genT [some 0,some 1,some 2,some 3,some 4,some 5] rfl rfl ⟨_,rfl,rfl,by decide⟩ ⟨gk4 rfl,rk rfl fun x hx=>(md1_all u _ _ B hx _),rk rfl fun x hx=>(md1_all u _ _ B hx _),rk rfl fun x hx=>(md1_all u _ _ B hx _),rk rfl fun x hx=>(md1_all u _ _ B hx _),Rf.boxK rfl rfl,trivial⟩ ⟨⟨_,rfl,rfl,rfl⟩,⟨_,rfl,rfl⟩,⟨_,rfl,rfl⟩,⟨_,rfl,rfl,rfl⟩,trivial⟩⟩
   generalize ra u 3 1 B=D at *
   refine sq ?_
   conv=>whnf
   repeat (refine⟨by first | decide | exact ixl rfl | exact rgl rfl,?_⟩;conv=>whnf)
   refine⟨(fun j:Nat=>gst [(0,.c (.gs 0 0)),(2,.c (.int .i64 ((1:Nat):Int))),(4,.c (.int .i64 ((3:Nat):Int))),(5,.c (.p 5 0 4 0 0)),(114,.c (.int .i64 4)),(115,.c (.int .i64 ((j:Nat):Int)))] [gG 4 idn,gq 4 (md2 u 3 1 D j 0),gq 4 (md2 u 3 1 D j 1),gq 4 (md2 u 3 1 D j 2),gq 4 (md2 u 3 1 D j 3),⟨38,4,1,boxF (nq u)⟩]) 0,Weak.genT [some 0,some 1,some 2,some 3,some 4,some 5] rfl rfl ⟨_,rfl,rfl,by decide⟩ ⟨gk4 rfl,rk rfl fun x hx=>(md2_zero u _ _ D _ x),rk rfl fun x hx=>(md2_zero u _ _ D _ x),rk rfl fun x hx=>(md2_zero u _ _ D _ x),rk rfl fun x hx=>(md2_zero u _ _ D _ x),Rf.boxK rfl rfl,trivial⟩ ⟨⟨_,rfl,rfl,rfl⟩,⟨_,rfl,rfl⟩,⟨_,rfl,rfl⟩,⟨_,rfl,rfl,rfl⟩,⟨_,rfl,rfl⟩,⟨_,rfl,rfl⟩,trivial⟩,?_⟩
   refine swp_block (swp_loop (fun j:Nat=>gst [(0,.c (.gs 0 0)),(2,.c (.int .i64 ((1:Nat):Int))),(4,.c (.int .i64 ((3:Nat):Int))),(5,.c (.p 5 0 4 0 0)),(114,.c (.int .i64 4)),(115,.c (.int .i64 ((j:Nat):Int)))] [gG 4 idn,gq 4 (md2 u 3 1 D j 0),gq 4 (md2 u 3 1 D j 1),gq 4 (md2 u 3 1 D j 2),gq 4 (md2 u 3 1 D j 3),⟨38,4,1,boxF (nq u)⟩]) (fun j=>4-j) (fun j=>j≤4) 0 (Weak.refl _) (by decide) fun j hj=>?_)
   rcases(show j=0∨j=1∨j=2∨j=3∨j=4 by omega)with rfl | rfl | rfl | rfl | rfl
   ·refine so ?_
    conv=>whnf
    repeat (refine⟨by first | decide | exact ixl rfl | exact rgl rfl,?_⟩;conv=>whnf)
    refine⟨_,w1 0 (by decide),?_⟩
    conv=>whnf
    repeat (refine⟨by first | decide | exact ixl rfl | exact rgl rfl,?_⟩;conv=>whnf)
    refine⟨_,w2 0 (by decide),?_⟩
    conv=>whnf
    repeat (refine⟨by first | decide | exact ixl rfl | exact rgl rfl,?_⟩;conv=>whnf)
    exact⟨1,by decide,Weak.genT [some 0,some 1,some 2,some 3,some 4,some 5] rfl rfl ⟨_,rfl,rfl,by decide⟩ ⟨gk4 rfl,ru rfl fun x=>(md2_step u 3 1 D 0 x),rk rfl fun x hx=>(md2_keep u (by decide) D x),rk rfl fun x hx=>(md2_keep u (by decide) D x),rk rfl fun x hx=>(md2_keep u (by decide) D x),Rf.boxK rfl rfl,trivial⟩ ⟨⟨_,rfl,rfl,rfl⟩,⟨_,rfl,rfl⟩,⟨_,rfl,rfl⟩,⟨_,rfl,rfl,rfl⟩,⟨_,rfl,rfl⟩,⟨_,rfl,rfl⟩,trivial⟩,by decide⟩
   ·refine so ?_
    conv=>whnf
    repeat (refine⟨by first | decide | exact ixl rfl | exact rgl rfl,?_⟩;conv=>whnf)
    refine⟨_,w1 1 (by decide),?_⟩
    conv=>whnf
    repeat (refine⟨by first | decide | exact ixl rfl | exact rgl rfl,?_⟩;conv=>whnf)
    refine⟨_,w2 1 (by decide),?_⟩
    conv=>whnf
    repeat (refine⟨by first | decide | exact ixl rfl | exact rgl rfl,?_⟩;conv=>whnf)
    exact⟨2,by decide,Weak.genT [some 0,some 1,some 2,some 3,some 4,some 5] rfl rfl ⟨_,rfl,rfl,by decide⟩ ⟨gk4 rfl,rk rfl fun x hx=>(md2_keep u (by decide) D x),ru rfl fun x=>(md2_step u 3 1 D 1 x),rk rfl fun x hx=>(md2_keep u (by decide) D x),rk rfl fun x hx=>(md2_keep u (by decide) D x),Rf.boxK rfl rfl,trivial⟩ ⟨⟨_,rfl,rfl,rfl⟩,⟨_,rfl,rfl⟩,⟨_,rfl,rfl⟩,⟨_,rfl,rfl,rfl⟩,⟨_,rfl,rfl⟩,⟨_,rfl,rfl⟩,trivial⟩,by decide⟩
   ·refine so ?_
    conv=>whnf
    repeat (refine⟨by first | decide | exact ixl rfl | exact rgl rfl,?_⟩;conv=>whnf)
    refine⟨_,w1 2 (by decide),?_⟩
    conv=>whnf
    repeat (refine⟨by first | decide | exact ixl rfl | exact rgl rfl,?_⟩;conv=>whnf)
    refine⟨_,w2 2 (by decide),?_⟩
    conv=>whnf
    repeat (refine⟨by first | decide | exact ixl rfl | exact rgl rfl,?_⟩;conv=>whnf)
    exact⟨3,by decide,Weak.genT [some 0,some 1,some 2,some 3,some 4,some 5] rfl rfl ⟨_,rfl,rfl,by decide⟩ ⟨gk4 rfl,rk rfl fun x hx=>(md2_keep u (by decide) D x),rk rfl fun x hx=>(md2_keep u (by decide) D x),ru rfl fun x=>(md2_step u 3 1 D 2 x),rk rfl fun x hx=>(md2_keep u (by decide) D x),Rf.boxK rfl rfl,trivial⟩ ⟨⟨_,rfl,rfl,rfl⟩,⟨_,rfl,rfl⟩,⟨_,rfl,rfl⟩,⟨_,rfl,rfl,rfl⟩,⟨_,rfl,rfl⟩,⟨_,rfl,rfl⟩,trivial⟩,by decide⟩
   ·refine so ?_
    conv=>whnf
    repeat (refine⟨by first | decide | exact ixl rfl | exact rgl rfl,?_⟩;conv=>whnf)
    refine⟨_,w1 3 (by decide),?_⟩
    conv=>whnf
    repeat (refine⟨by first | decide | exact ixl rfl | exact rgl rfl,?_⟩;conv=>whnf)
    refine⟨_,w2 3 (by decide),?_⟩
    conv=>whnf
    repeat (refine⟨by first | decide | exact ixl rfl | exact rgl rfl,?_⟩;conv=>whnf)
    exact⟨4,by decide,Weak.genT [some 0,some 1,some 2,some 3,some 4,some 5] rfl rfl ⟨_,rfl,rfl,by decide⟩ ⟨gk4 rfl,rk rfl fun x hx=>(md2_keep u (by decide) D x),rk rfl fun x hx=>(md2_keep u (by decide) D x),rk rfl fun x hx=>(md2_keep u (by decide) D x),ru rfl fun x=>(md2_step u 3 1 D 3 x),Rf.boxK rfl rfl,trivial⟩ ⟨⟨_,rfl,rfl,rfl⟩,⟨_,rfl,rfl⟩,⟨_,rfl,rfl⟩,⟨_,rfl,rfl,rfl⟩,⟨_,rfl,rfl⟩,⟨_,rfl,rfl⟩,trivial⟩,by decide⟩
   ·refine so ?_
    conv=>whnf
    exact⟨(),trivial,Weak.genT [some 0,some 1,some 2,some 3,some 4] rfl rfl ⟨_,rfl,rfl,by decide⟩ ⟨gk4 rfl,rk rfl fun x hx=>((hel _ x).trans (md2_all u _ _ D (by decide) x)),rk rfl fun x hx=>((hel _ x).trans (md2_all u _ _ D (by decide) x)),rk rfl fun x hx=>((hel _ x).trans (md2_all u _ _ D (by decide) x)),rk rfl fun x hx=>((hel _ x).trans (md2_all u _ _ D (by decide) x)),trivial⟩ ⟨⟨_,rfl,rfl,rfl⟩,⟨_,rfl,rfl⟩,⟨_,rfl,rfl⟩,trivial⟩⟩
  ·refine so ?_
   conv=>whnf
   repeat (refine⟨by first | decide | exact ixl rfl | exact rgl rfl,?_⟩;conv=>whnf)
   exact⟨(),trivial,Weak.genT [some 0,some 1,some 2,some 3,some 4] rfl rfl ⟨_,rfl,rfl,by decide⟩ ⟨gk4 rfl,rk rfl fun x hx=>(hst _ x),rk rfl fun x hx=>(hst _ x),rk rfl fun x hx=>(hst _ x),rk rfl fun x hx=>(hst _ x),trivial⟩ ⟨⟨_,rfl,rfl,rfl⟩,⟨_,rfl,rfl⟩,trivial⟩⟩
 ·-- the step 2
  refine sq ?_
  conv=>whnf
  repeat (refine⟨by first | decide | exact ixl rfl | exact rgl rfl,?_⟩;conv=>whnf)
  refine⟨gst [(0,.c (.gs 0 0)),(2,.c (.int .i64 ((2:Nat):Int)))] [gG 4 idn,gq 4 (hs 4 M 2 0),gq 4 (hs 4 M 2 1),gq 4 (hs 4 M 2 2),gq 4 (hs 4 M 2 3)],Weak.genT [some 0,some 1,some 2,some 3,some 4] rfl rfl ⟨_,rfl,rfl,by decide⟩ ⟨gk4 rfl,rs rfl,rs rfl,rs rfl,rs rfl,trivial⟩ ⟨⟨_,rfl,rfl,rfl⟩,⟨_,rfl,rfl⟩,trivial⟩,?_⟩
  have hA:=hs_kb hM h1 (show 2+1≤4 by decide)
  have hE:=fun(hp:pv 4 (hs 4 M 2) 2<4) (t:Nat) (ht:2+t<4)=>el_kb hM h1 (show 1≤2 by decide) (show 2+1<4 by decide) hp ht
  refine swp_mid (fun _:Unit=>gst [(0,.c (.gs 0 0)),(2,.c (.int .i64 ((2:Nat):Int)))] [gG 4 idn,gq 4 (stp 4 2 (hs 4 M 2) 0),gq 4 (stp 4 2 (hs 4 M 2) 1),gq 4 (stp 4 2 (hs 4 M 2) 2),gq 4 (stp 4 2 (hs 4 M 2) 3)]) (fun _=>True) ?_ fun _ _=>?_
  rotate_left
  ·refine so ?_
   conv=>whnf
   repeat (refine⟨by first | decide | exact ixl rfl | exact rgl rfl,?_⟩;conv=>whnf)
   exact⟨3,by decide,Weak.genT [some 0,some 1,some 2,some 3,some 4] rfl rfl ⟨_,rfl,rfl,by decide⟩ ⟨gk4 rfl,rs rfl,rs rfl,rs rfl,rs rfl,trivial⟩ ⟨⟨_,rfl,rfl,rfl⟩,⟨_,rfl,rfl⟩,trivial⟩,by decide⟩
  refine swp_block ?_
  generalize hs 4 M 2=A at *
  have hpiv:=fun(hp:pv 4 A 2<4) (t:Nat)=>el_piv (show 1≤2 by decide) (show 2+1<4 by decide) hp t
  have nz:∀ a,a<4->FnOK Tryz.prog true 47 [.g (nq (A a 1))] (.c (.bool (decide (A a 1≠0)))):=fun a ha=>nz_ok (hA a 1 ha (by decide)) (by omega)
  obtain⟨p1,p2,-,-⟩:=pv_spec 4 A (show 2≤4 by decide)
  generalize hpv:pv 4 A 2=P at *
  refine sq ?_
  conv=>whnf
  refine⟨gst [(0,.c (.gs 0 0)),(2,.c (.int .i64 ((2:Nat):Int))),(3,.c (.int .i64 ((2:Nat):Int)))] [gG 4 idn,gq 4 (A 0),gq 4 (A 1),gq 4 (A 2),gq 4 (A 3)],Weak.genT [some 0,some 1,some 2,some 3,some 4] rfl rfl ⟨_,rfl,rfl,by decide⟩ ⟨gk4 rfl,rs rfl,rs rfl,rs rfl,rs rfl,trivial⟩ ⟨⟨_,rfl,rfl,rfl⟩,⟨_,rfl,rfl⟩,⟨_,rfl,rfl⟩,trivial⟩,?_⟩
  refine swp_mid (fun _:Unit=>gst [(0,.c (.gs 0 0)),(2,.c (.int .i64 ((2:Nat):Int))),(3,.c (.int .i64 ((P:Nat):Int)))] [gG 4 idn,gq 4 (A 0),gq 4 (A 1),gq 4 (A 2),gq 4 (A 3)]) (fun _=>True) ?_ fun _ _=>?_
  ·refine swp_block (swp_loop (fun a:Nat=>gst [(0,.c (.gs 0 0)),(2,.c (.int .i64 ((2:Nat):Int))),(3,.c (.int .i64 ((a:Nat):Int)))] [gG 4 idn,gq 4 (A 0),gq 4 (A 1),gq 4 (A 2),gq 4 (A 3)]) (fun a=>4-a) (fun a=>2≤a/\a≤4/\pvf A 1 (4-a) a=P) 2 (Weak.refl _) ⟨by decide,by decide,hpv⟩ fun a ha=>?_)
   obtain⟨a1,a2,a3⟩:=ha
   rcases(show a=2∨a=3∨a=4 by omega)with rfl | rfl | rfl
   ·refine so ?_
    conv=>whnf
    repeat (refine⟨by first | decide | exact ixl rfl | exact rgl rfl,?_⟩;conv=>whnf)
    refine⟨_,nz 2 (by decide),?_⟩
    conv=>whnf
    refine bcase (fun(h:(!decide (A 2 1≠0))=true)=>?_) fun(h:(!decide (A 2 1≠0))=false)=>?_
    ·have h0:A 2 1=0:=by simpa using h
     conv=>whnf
     repeat (refine⟨by first | decide | exact ixl rfl | exact rgl rfl,?_⟩;conv=>whnf)
     exact⟨3,by decide,Weak.genT [some 0,some 1,some 2,some 3,some 4] rfl rfl ⟨_,rfl,rfl,by decide⟩ ⟨gk4 rfl,rs rfl,rs rfl,rs rfl,rs rfl,trivial⟩ ⟨⟨_,rfl,rfl,rfl⟩,⟨_,rfl,rfl⟩,⟨_,rfl,rfl⟩,trivial⟩,by decide,by decide,by rw[← a3];exact(pvf_next h0).symm⟩
    ·have h0:A 2 1≠0:=by simpa using h
     conv=>whnf
     have eP:2=P:=by rw[← a3];exact(pvf_stop h0).symm
     exact⟨(),trivial,Weak.genT [some 0,some 1,some 2,some 3,some 4] rfl rfl ⟨_,rfl,rfl,by decide⟩ ⟨gk4 rfl,rs rfl,rs rfl,rs rfl,rs rfl,trivial⟩ ⟨⟨_,rfl,rfl,rfl⟩,⟨_,rfl,rfl⟩,⟨_,rfl,by rw[← eP]⟩,trivial⟩⟩
   ·refine so ?_
    conv=>whnf
    repeat (refine⟨by first | decide | exact ixl rfl | exact rgl rfl,?_⟩;conv=>whnf)
    refine⟨_,nz 3 (by decide),?_⟩
    conv=>whnf
    refine bcase (fun(h:(!decide (A 3 1≠0))=true)=>?_) fun(h:(!decide (A 3 1≠0))=false)=>?_
    ·have h0:A 3 1=0:=by simpa using h
     conv=>whnf
     repeat (refine⟨by first | decide | exact ixl rfl | exact rgl rfl,?_⟩;conv=>whnf)
     exact⟨4,by decide,Weak.genT [some 0,some 1,some 2,some 3,some 4] rfl rfl ⟨_,rfl,rfl,by decide⟩ ⟨gk4 rfl,rs rfl,rs rfl,rs rfl,rs rfl,trivial⟩ ⟨⟨_,rfl,rfl,rfl⟩,⟨_,rfl,rfl⟩,⟨_,rfl,rfl⟩,trivial⟩,by decide,by decide,by rw[← a3];exact(pvf_next h0).symm⟩
    ·have h0:A 3 1≠0:=by simpa using h
     conv=>whnf
     have eP:3=P:=by rw[← a3];exact(pvf_stop h0).symm
     exact⟨(),trivial,Weak.genT [some 0,some 1,some 2,some 3,some 4] rfl rfl ⟨_,rfl,rfl,by decide⟩ ⟨gk4 rfl,rs rfl,rs rfl,rs rfl,rs rfl,trivial⟩ ⟨⟨_,rfl,rfl,rfl⟩,⟨_,rfl,rfl⟩,⟨_,rfl,by rw[← eP]⟩,trivial⟩⟩
   ·refine so ?_
    conv=>whnf
    repeat (refine⟨by first | decide | exact ixl rfl | exact rgl rfl,?_⟩;conv=>whnf)
    have eP:4=P:=a3
    exact⟨(),trivial,Weak.genT [some 0,some 1,some 2,some 3,some 4] rfl rfl ⟨_,rfl,rfl,by decide⟩ ⟨gk4 rfl,rs rfl,rs rfl,rs rfl,rs rfl,trivial⟩ ⟨⟨_,rfl,rfl,rfl⟩,⟨_,rfl,rfl⟩,⟨_,rfl,by rw[← eP]⟩,trivial⟩⟩
  refine swp_mid2 (fun _:Unit=>gst [(0,.c (.gs 0 0)),(2,.c (.int .i64 ((2:Nat):Int)))] [gG 4 idn,gq 4 (xch (sw P 2) A 0),gq 4 (xch (sw P 2) A 1),gq 4 (xch (sw P 2) A 2),gq 4 (xch (sw P 2) A 3)]) (fun _=>P<4) ?_ fun _ hP=>?_
  ·rcases(show P=2∨P=3∨P=4 by omega)with rfl | rfl | rfl
   ·refine so ?_
    conv=>whnf
    repeat (refine⟨by first | decide | exact ixl rfl | exact rgl rfl,?_⟩;conv=>whnf)
    refine so ?_
    conv=>whnf
    repeat (refine⟨by first | decide | exact ixl rfl | exact rgl rfl,?_⟩;conv=>whnf)
    exact⟨(),by decide,Weak.genT [some 0,some 1,some 2,some 3,some 4] rfl rfl ⟨_,rfl,rfl,by decide⟩ ⟨gk4 rfl,rk rfl fun x hx=>(xch_self A _ x),rk rfl fun x hx=>(xch_self A _ x),rk rfl fun x hx=>(xch_self A _ x),rk rfl fun x hx=>(xch_self A _ x),trivial⟩ ⟨⟨_,rfl,rfl,rfl⟩,⟨_,rfl,rfl⟩,trivial⟩⟩
   ·refine so ?_
    conv=>whnf
    repeat (refine⟨by first | decide | exact ixl rfl | exact rgl rfl,?_⟩;conv=>whnf)
    refine sq ?_
    conv=>whnf
    repeat (refine⟨by first | decide | exact ixl rfl | exact rgl rfl,?_⟩;conv=>whnf)
    refine⟨gst [(0,.c (.gs 0 0)),(2,.c (.int .i64 ((2:Nat):Int))),(3,.c (.int .i64 ((3:Nat):Int))),(41,.c (.bool true))] [gG 4 idn,gq 4 (A 0),gq 4 (A 1),gq 4 (A 2),gq 4 (A 3)],Weak.genT [some 0,some 1,some 2,some 3,some 4] rfl rfl ⟨_,rfl,rfl,by decide⟩ ⟨gk4 rfl,rs rfl,rs rfl,rs rfl,rs rfl,trivial⟩ ⟨⟨_,rfl,rfl,rfl⟩,⟨_,rfl,rfl⟩,⟨_,rfl,rfl⟩,⟨_,rfl,rfl⟩,trivial⟩,?_⟩
    refine swp_cond (b:=true) rfl (fun _=>?_) fun h=>absurd h (by decide)
    refine swp_goT E1m_ok (pre:=[_,_,_]) (post:=[]) rfl rfl (by kernel_rfl) ?_
    conv=>whnf
    refine⟨1,_,by decide,OpGoT.call0 (f:=92) (cs:=[]) rfl rfl live_all (exch_4_3_2 A) (lt_put (lt_put (lt_put (lt_asg (tl:=[(0,.c (.gs 0 0)),(2,.c (.int .i64 _)),(3,.c (.int .i64 _)),(41,.c (.bool true))]) ⟨rfl,rfl,rfl,rfl,trivial⟩) rfl) rfl) rfl),?_⟩
    conv=>whnf
    exact⟨(),by decide,Weak.genT [some 0,some 1,some 2,some 3,some 4] rfl rfl ⟨_,rfl,rfl,by decide⟩ ⟨gk4 rfl,rs rfl,rs rfl,rs rfl,rs rfl,trivial⟩ ⟨⟨_,rfl,rfl,rfl⟩,⟨_,rfl,rfl⟩,trivial⟩⟩
   ·refine so ?_
    conv=>whnf
    repeat (refine⟨by first | decide | exact ixl rfl | exact rgl rfl,?_⟩;conv=>whnf)
    exact⟨(),trivial,Weak.genT [some 0,some 1,some 2,some 3,some 4] rfl rfl ⟨_,rfl,rfl,by decide⟩ ⟨gk4 rfl,rk rfl fun x hx=>(stp_none hpv _ x),rk rfl fun x hx=>(stp_none hpv _ x),rk rfl fun x hx=>(stp_none hpv _ x),rk rfl fun x hx=>(stp_none hpv _ x),trivial⟩ ⟨⟨_,rfl,rfl,rfl⟩,⟨_,rfl,rfl⟩,trivial⟩⟩
  have hE:=hE hP
  have hpiv:=hpiv hP
  have hst:=fun a b=>stp_some hpv hP a b
  generalize stp 4 2 A=Z at *
  generalize xch (sw P 2) A=A1 at *
  refine sq ?_
  conv=>whnf
  repeat (refine⟨by first | decide | exact ixl rfl | exact rgl rfl,?_⟩;conv=>whnf)
  refine⟨(fun t:Nat=>gst [(0,.c (.gs 0 0)),(2,.c (.int .i64 ((2:Nat):Int))),(4,.c (.int .i64 ((3+t:Nat):Int)))] [gG 4 idn,gq 4 (el 2 A1 t 0),gq 4 (el 2 A1 t 1),gq 4 (el 2 A1 t 2),gq 4 (el 2 A1 t 3)]) 0,Weak.genT [some 0,some 1,some 2,some 3,some 4] rfl rfl ⟨_,rfl,rfl,by decide⟩ ⟨gk4 rfl,rs rfl,rs rfl,rs rfl,rs rfl,trivial⟩ ⟨⟨_,rfl,rfl,rfl⟩,⟨_,rfl,rfl⟩,⟨_,rfl,rfl⟩,trivial⟩,?_⟩
  refine swp_block (swp_loop (fun t:Nat=>gst [(0,.c (.gs 0 0)),(2,.c (.int .i64 ((2:Nat):Int))),(4,.c (.int .i64 ((3+t:Nat):Int)))] [gG 4 idn,gq 4 (el 2 A1 t 0),gq 4 (el 2 A1 t 1),gq 4 (el 2 A1 t 2),gq 4 (el 2 A1 t 3)]) (fun t=>4-t) (fun t=>t≤1) 0 (Weak.refl _) (by decide) fun t ht=>?_)
  rcases(show t=0∨t=1 by omega)with rfl | rfl
  ·have hB:=hE 0 (by decide)
   have hq:=hpiv 0
   refine sq ?_
   conv=>whnf
   repeat (refine⟨by first | decide | exact ixl rfl | exact rgl rfl,?_⟩;conv=>whnf)
   refine⟨gst [(0,.c (.gs 0 0)),(2,.c (.int .i64 ((2:Nat):Int))),(4,.c (.int .i64 ((3:Nat):Int)))] [gG 4 idn,gq 4 (el 2 A1 0 0),gq 4 (el 2 A1 0 1),gq 4 (el 2 A1 0 2),gq 4 (el 2 A1 0 3)],Weak.genT [some 0,some 1,some 2,some 3,some 4] rfl rfl ⟨_,rfl,rfl,by decide⟩ ⟨gk4 rfl,rs rfl,rs rfl,rs rfl,rs rfl,trivial⟩ ⟨⟨_,rfl,rfl,rfl⟩,⟨_,rfl,rfl⟩,⟨_,rfl,rfl⟩,trivial⟩,?_⟩
   refine swp_mid (fun _:Unit=>gst [(0,.c (.gs 0 0)),(2,.c (.int .i64 ((2:Nat):Int))),(4,.c (.int .i64 ((3:Nat):Int)))] [gG 4 idn,gq 4 (el1 2 3 (el 2 A1 0) 0),gq 4 (el1 2 3 (el 2 A1 0) 1),gq 4 (el1 2 3 (el 2 A1 0) 2),gq 4 (el1 2 3 (el 2 A1 0) 3)]) (fun _=>True) ?_ fun _ _=>?_
   rotate_left
   ·refine so ?_
    conv=>whnf
    repeat (refine⟨by first | decide | exact ixl rfl | exact rgl rfl,?_⟩;conv=>whnf)
    exact⟨1,by decide,Weak.genT [some 0,some 1,some 2,some 3,some 4] rfl rfl ⟨_,rfl,rfl,by decide⟩ ⟨gk4 rfl,rs rfl,rs rfl,rs rfl,rs rfl,trivial⟩ ⟨⟨_,rfl,rfl,rfl⟩,⟨_,rfl,rfl⟩,⟨_,rfl,rfl⟩,trivial⟩,by decide⟩
   refine swp_block ?_
   generalize el 2 A1 0=B at *
   have hx:∀ a b,a<4->b<4->qlen (B a b)≤KB 4 L:=hB
   have nz:=nz_ok (x:=B 3 1) (hx 3 1 (by decide) (by decide)) (by omega)
   have kq:=qquo_n (hx 3 1 (by decide) (by decide)) (hx 2 1 (by decide) (by decide)) (by omega) hq rfl
   have hu:qlen (B 3 1 / B 2 1)≤2*KB 4 L:=Nat.le_trans (q_div (hx 3 1 (by decide) (by decide)) (hx 2 1 (by decide) (by decide)) (by omega)) (by omega)
   have hel:=fun(h0:¬ B 3 1=0) a b=>el1_some (m:=2) (i:=3) (A:=B) h0 rfl a b
   have hez:=fun(h0:B 3 1=0) a b=>el1_zero (m:=2) (i:=3) (A:=B) h0 a b
   change ∀(h0:¬ B 3 1=0) (a b:Nat),el1 2 3 B a b=ca (B 3 1 / B 2 1) 3 2 (ra (B 3 1 / B 2 1) 3 2 B) a b at hel
   generalize el1 2 3 B=Y at *
   generalize B 3 1 / B 2 1=u at *
   have m1:∀ j,j<4->FnOK Tryz.prog true 46 [.g (nq u),.g (nq (md1 u 3 2 B j 2 j))] (.g (nq (u*B 2 j))):=fun j hj=>qmul_n hu (by rw[md1_m u (by decide)];exact hx 2 j (by decide) hj) (by omega) (by rw[md1_m u (by decide)])
   have m2:∀ j,j<4->FnOK Tryz.prog true 50 [.g (nq (md1 u 3 2 B j 3 j)),.g (nq (u*B 2 j))] (.g (nq (B 3 j-u*B 2 j))):=fun j hj=>qsub_n (by rw[md1_old];exact hx 3 j (by decide) hj) (q_mul hu (hx 2 j (by decide) hj) (by omega)) (by omega) (by omega) (by rw[md1_old])
   have hR:=ra_kb (i:=3) hB hu (show 2<4 by decide) hK
   have w1:∀ j,j<4->FnOK Tryz.prog true 46 [.g (nq u),.g (nq (md2 u 3 2 (ra u 3 2 B) j j 3))] (.g (nq (u*ra u 3 2 B j 3))):=fun j hj=>qmul_n hu (by rw[md2_old];exact hR j 3 hj (by decide)) (by omega) (by rw[md2_old])
   have w2:∀ j,j<4->FnOK Tryz.prog true 93 [.g (nq (md2 u 3 2 (ra u 3 2 B) j j 2)),.g (nq (u*ra u 3 2 B j 3))] (.g (nq (ra u 3 2 B j 2+u*ra u 3 2 B j 3))):=fun j hj=>qadd_n (by rw[md2_old];exact hR j 2 hj (by decide)) (q_mul hu (hR j 3 hj (by decide)) (by omega)) (by omega) (by rw[md2_old])
   refine sq ?_
   conv=>whnf
   repeat (refine⟨by first | decide | exact ixl rfl | exact rgl rfl,?_⟩;conv=>whnf)
   refine⟨_,nz,?_⟩
   conv=>whnf
   refine bcase (fun(h:(!decide (B 3 1≠0))=true)=>?_) fun(h:(!decide (B 3 1≠0))=false)=>?_
   ·have h0:B 3 1=0:=by simpa using h
    conv=>whnf
    exact⟨(),trivial,Weak.genT [some 0,some 1,some 2,some 3,some 4] rfl rfl ⟨_,rfl,rfl,by decide⟩ ⟨gk4 rfl,rk rfl fun x hx=>(hez h0 _ x),rk rfl fun x hx=>(hez h0 _ x),rk rfl fun x hx=>(hez h0 _ x),rk rfl fun x hx=>(hez h0 _ x),trivial⟩ ⟨⟨_,rfl,rfl,rfl⟩,⟨_,rfl,rfl⟩,⟨_,rfl,rfl⟩,trivial⟩⟩
   have h0:¬ B 3 1=0:=by simpa using h
   conv=>whnf
   refine⟨gst [(0,.c (.gs 0 0)),(2,.c (.int .i64 ((2:Nat):Int))),(4,.c (.int .i64 ((3:Nat):Int)))] [gG 4 idn,gq 4 (B 0),gq 4 (B 1),gq 4 (B 2),gq 4 (B 3)],Weak.genT [some 0,some 1,some 2,some 3,some 4] rfl rfl ⟨_,rfl,rfl,by decide⟩ ⟨gk4 rfl,rs rfl,rs rfl,rs rfl,rs rfl,trivial⟩ ⟨⟨_,rfl,rfl,rfl⟩,⟨_,rfl,rfl⟩,⟨_,rfl,rfl⟩,trivial⟩,?_⟩
   have hel:=hel h0
   refine sq ?_
   conv=>whnf
   repeat (refine⟨by first | decide | exact ixl rfl | exact rgl rfl,?_⟩;conv=>whnf)
   refine⟨_,kq,?_⟩
   conv=>whnf
   refine⟨gst [(0,.c (.gs 0 0)),(2,.c (.int .i64 ((2:Nat):Int))),(4,.c (.int .i64 ((3:Nat):Int))),(5,.c (.p 5 0 4 0 0))] [gG 4 idn,gq 4 (B 0),gq 4 (B 1),gq 4 (B 2),gq 4 (B 3),⟨38,4,1,boxF (nq u)⟩],Weak.genT [some 0,some 1,some 2,some 3,some 4,some 25] rfl rfl ⟨_,rfl,rfl,by decide⟩ ⟨gk4 rfl,rs rfl,rs rfl,rs rfl,rs rfl,Rf.boxU rfl rfl rfl,trivial⟩ ⟨⟨_,rfl,rfl,rfl⟩,⟨_,rfl,rfl⟩,⟨_,rfl,rfl⟩,⟨_,rfl,rfl,rfl⟩,trivial⟩,?_⟩
   refine swp_mid (fun _:Unit=>gst [(0,.c (.gs 0 0)),(2,.c (.int .i64 ((2:Nat):Int))),(4,.c (.int .i64 ((3:Nat):Int))),(5,.c (.p 5 0 4 0 0))] [gG 4 idn,gq 4 (ra u 3 2 B 0),gq 4 (ra u 3 2 B 1),gq 4 (ra u 3 2 B 2),gq 4 (ra u 3 2 B 3),⟨38,4,1,boxF (nq u)⟩]) (fun _=>True) ?_ fun _ _=>?_
   ·refine sq ?_
    conv=>whnf
    repeat (refine⟨by first | decide | exact ixl rfl | exact rgl rfl,?_⟩;conv=>whnf)
    refine⟨(fun j:Nat=>gst [(0,.c (.gs 0 0)),(2,.c (.int .i64 ((2:Nat):Int))),(4,.c (.int .i64 ((3:Nat):Int))),(5,.c (.p 5 0 4 0 0)),(85,.c (.int .i64 4)),(86,.c (.int .i64 ((j:Nat):Int)))] [gG 4 idn,gq 4 (md1 u 3 2 B j 0),gq 4 (md1 u 3 2 B j 1),gq 4 (md1 u 3 2 B j 2),gq 4 (md1 u 3 2 B j 3),⟨38,4,1,boxF (nq u)⟩]) 0,Weak.genT [some 0,some 1,some 2,some 3,some 4,some 5] rfl rfl ⟨_,rfl,rfl,by decide⟩ ⟨gk4 rfl,rk rfl fun x hx=>(md1_zero u _ _ B _ x),rk rfl fun x hx=>(md1_zero u _ _ B _ x),rk rfl fun x hx=>(md1_zero u _ _ B _ x),rk rfl fun x hx=>(md1_zero u _ _ B _ x),Rf.boxK rfl rfl,trivial⟩ ⟨⟨_,rfl,rfl,rfl⟩,⟨_,rfl,rfl⟩,⟨_,rfl,rfl⟩,⟨_,rfl,rfl,rfl⟩,⟨_,rfl,rfl⟩,⟨_,rfl,rfl⟩,trivial⟩,?_⟩
    refine swp_block (swp_loop (fun j:Nat=>gst [(0,.c (.gs 0 0)),(2,.c (.int .i64 ((2:Nat):Int))),(4,.c (.int .i64 ((3:Nat):Int))),(5,.c (.p 5 0 4 0 0)),(85,.c (.int .i64 4)),(86,.c (.int .i64 ((j:Nat):Int)))] [gG 4 idn,gq 4 (md1 u 3 2 B j 0),gq 4 (md1 u 3 2 B j 1),gq 4 (md1 u 3 2 B j 2),gq 4 (md1 u 3 2 B j 3),⟨38,4,1,boxF (nq u)⟩]) (fun j=>4-j) (fun j=>j≤4) 0 (Weak.refl _) (by decide) fun j hj=>?_)
    have m1:=m1 j
    have m2:=m2 j
    have hj0:(0:Int)≤(j:Int):=by omega
    refine so ?_
    conv=>whnf
    refine bcase (fun(h:decide ((j:Int)<4)=true)=>?_) fun(h:decide ((j:Int)<4)=false)=>?_
    ·have h:=of_decide_eq_true h
     have m1:=m1 (by omega)
     have m2:=m2 (by omega)
     have hj1:(j:Int)<((4:Nat):Int):=by omega
     conv=>whnf
     repeat (refine⟨by first | exact hj0 | exact hj1 | decide | exact ixl rfl | exact rgl (by decide),?_⟩;conv=>whnf)
     refine⟨_,m1,?_⟩
     conv=>whnf
     repeat (refine⟨by first | exact hj0 | exact hj1 | decide | exact ixl rfl | exact rgl (by decide),?_⟩;conv=>whnf)
     refine⟨_,m2,?_⟩
     conv=>whnf
     repeat (refine⟨by first | exact hj0 | exact hj1 | decide | exact ixl rfl | exact rgl (by decide),?_⟩;conv=>whnf)
     refine⟨i64_range (by omega) (by omega),?_⟩
     conv=>whnf
     exact⟨j+1,by omega,Weak.genT [some 0,some 1,some 2,some 3,some 4,some 5] rfl rfl ⟨_,rfl,rfl,by decide⟩ ⟨gk4 rfl,rk rfl fun x hx=>(md1_keep u (by decide) B j x),rk rfl fun x hx=>(md1_keep u (by decide) B j x),rk rfl fun x hx=>(md1_keep u (by decide) B j x),ru rfl fun x=>(md1_step u 3 2 B j x),Rf.boxK rfl rfl,trivial⟩ ⟨⟨_,rfl,rfl,rfl⟩,⟨_,rfl,rfl⟩,⟨_,rfl,rfl⟩,⟨_,rfl,rfl,rfl⟩,⟨_,rfl,rfl⟩,⟨_,rfl,rfl⟩,trivial⟩,by omega⟩
    ·have h:=of_decide_eq_false h
     obtain rfl:j=4:=by omega
     conv=>whnf
     exact⟨(),trivial,Weak.genT [some 0,some 1,some 2,some 3,some 4,some 5] rfl rfl ⟨_,rfl,rfl,by decide⟩ ⟨gk4 rfl,rk rfl fun x hx=>(md1_all u _ _ B hx _),rk rfl fun x hx=>(md1_all u _ _ B hx _),rk rfl fun x hx=>(md1_all u _ _ B hx _),rk rfl fun x hx=>(md1_all u _ _ B hx _),Rf.boxK rfl rfl,trivial⟩ ⟨⟨_,rfl,rfl,rfl⟩,⟨_,rfl,rfl⟩,⟨_,rfl,rfl⟩,⟨_,rfl,rfl,rfl⟩,trivial⟩⟩
   generalize ra u 3 2 B=D at *
   refine sq ?_
   conv=>whnf
   repeat (refine⟨by first | decide | exact ixl rfl | exact rgl rfl,?_⟩;conv=>whnf)
   refine⟨(fun j:Nat=>gst [(0,.c (.gs 0 0)),(2,.c (.int .i64 ((2:Nat):Int))),(4,.c (.int .i64 ((3:Nat):Int))),(5,.c (.p 5 0 4 0 0)),(114,.c (.int .i64 4)),(115,.c (.int .i64 ((j:Nat):Int)))] [gG 4 idn,gq 4 (md2 u 3 2 D j 0),gq 4 (md2 u 3 2 D j 1),gq 4 (md2 u 3 2 D j 2),gq 4 (md2 u 3 2 D j 3),⟨38,4,1,boxF (nq u)⟩]) 0,Weak.genT [some 0,some 1,some 2,some 3,some 4,some 5] rfl rfl ⟨_,rfl,rfl,by decide⟩ ⟨gk4 rfl,rk rfl fun x hx=>(md2_zero u _ _ D _ x),rk rfl fun x hx=>(md2_zero u _ _ D _ x),rk rfl fun x hx=>(md2_zero u _ _ D _ x),rk rfl fun x hx=>(md2_zero u _ _ D _ x),Rf.boxK rfl rfl,trivial⟩ ⟨⟨_,rfl,rfl,rfl⟩,⟨_,rfl,rfl⟩,⟨_,rfl,rfl⟩,⟨_,rfl,rfl,rfl⟩,⟨_,rfl,rfl⟩,⟨_,rfl,rfl⟩,trivial⟩,?_⟩
   refine swp_block (swp_loop (fun j:Nat=>gst [(0,.c (.gs 0 0)),(2,.c (.int .i64 ((2:Nat):Int))),(4,.c (.int .i64 ((3:Nat):Int))),(5,.c (.p 5 0 4 0 0)),(114,.c (.int .i64 4)),(115,.c (.int .i64 ((j:Nat):Int)))] [gG 4 idn,gq 4 (md2 u 3 2 D j 0),gq 4 (md2 u 3 2 D j 1),gq 4 (md2 u 3 2 D j 2),gq 4 (md2 u 3 2 D j 3),⟨38,4,1,boxF (nq u)⟩]) (fun j=>4-j) (fun j=>j≤4) 0 (Weak.refl _) (by decide) fun j hj=>?_)
   rcases(show j=0∨j=1∨j=2∨j=3∨j=4 by omega)with rfl | rfl | rfl | rfl | rfl
   ·refine so ?_
    conv=>whnf
    repeat (refine⟨by first | decide | exact ixl rfl | exact rgl rfl,?_⟩;conv=>whnf)
    refine⟨_,w1 0 (by decide),?_⟩
    conv=>whnf
    repeat (refine⟨by first | decide | exact ixl rfl | exact rgl rfl,?_⟩;conv=>whnf)
    refine⟨_,w2 0 (by decide),?_⟩
    conv=>whnf
    repeat (refine⟨by first | decide | exact ixl rfl | exact rgl rfl,?_⟩;conv=>whnf)
    exact⟨1,by decide,Weak.genT [some 0,some 1,some 2,some 3,some 4,some 5] rfl rfl ⟨_,rfl,rfl,by decide⟩ ⟨gk4 rfl,ru rfl fun x=>(md2_step u 3 2 D 0 x),rk rfl fun x hx=>(md2_keep u (by decide) D x),rk rfl fun x hx=>(md2_keep u (by decide) D x),rk rfl fun x hx=>(md2_keep u (by decide) D x),Rf.boxK rfl rfl,trivial⟩ ⟨⟨_,rfl,rfl,rfl⟩,⟨_,rfl,rfl⟩,⟨_,rfl,rfl⟩,⟨_,rfl,rfl,rfl⟩,⟨_,rfl,rfl⟩,⟨_,rfl,rfl⟩,trivial⟩,by decide⟩
   ·refine so ?_
    conv=>whnf
    repeat (refine⟨by first | decide | exact ixl rfl | exact rgl rfl,?_⟩;conv=>whnf)
    refine⟨_,w1 1 (by decide),?_⟩
    conv=>whnf
    repeat (refine⟨by first | decide | exact ixl rfl | exact rgl rfl,?_⟩;conv=>whnf)
    refine⟨_,w2 1 (by decide),?_⟩
    conv=>whnf
    repeat (refine⟨by first | decide | exact ixl rfl | exact rgl rfl,?_⟩;conv=>whnf)
    exact⟨2,by decide,Weak.genT [some 0,some 1,some 2,some 3,some 4,some 5] rfl rfl ⟨_,rfl,rfl,by decide⟩ ⟨gk4 rfl,rk rfl fun x hx=>(md2_keep u (by decide) D x),ru rfl fun x=>(md2_step u 3 2 D 1 x),rk rfl fun x hx=>(md2_keep u (by decide) D x),rk rfl fun x hx=>(md2_keep u (by decide) D x),Rf.boxK rfl rfl,trivial⟩ ⟨⟨_,rfl,rfl,rfl⟩,⟨_,rfl,rfl⟩,⟨_,rfl,rfl⟩,⟨_,rfl,rfl,rfl⟩,⟨_,rfl,rfl⟩,⟨_,rfl,rfl⟩,trivial⟩,by decide⟩
   ·refine so ?_
    conv=>whnf
    repeat (refine⟨by first | decide | exact ixl rfl | exact rgl rfl,?_⟩;conv=>whnf)
    refine⟨_,w1 2 (by decide),?_⟩
    conv=>whnf
    repeat (refine⟨by first | decide | exact ixl rfl | exact rgl rfl,?_⟩;conv=>whnf)
    refine⟨_,w2 2 (by decide),?_⟩
    conv=>whnf
    repeat (refine⟨by first | decide | exact ixl rfl | exact rgl rfl,?_⟩;conv=>whnf)
    exact⟨3,by decide,Weak.genT [some 0,some 1,some 2,some 3,some 4,some 5] rfl rfl ⟨_,rfl,rfl,by decide⟩ ⟨gk4 rfl,rk rfl fun x hx=>(md2_keep u (by decide) D x),rk rfl fun x hx=>(md2_keep u (by decide) D x),ru rfl fun x=>(md2_step u 3 2 D 2 x),rk rfl fun x hx=>(md2_keep u (by decide) D x),Rf.boxK rfl rfl,trivial⟩ ⟨⟨_,rfl,rfl,rfl⟩,⟨_,rfl,rfl⟩,⟨_,rfl,rfl⟩,⟨_,rfl,rfl,rfl⟩,⟨_,rfl,rfl⟩,⟨_,rfl,rfl⟩,trivial⟩,by decide⟩
   ·refine so ?_
    conv=>whnf
    repeat (refine⟨by first | decide | exact ixl rfl | exact rgl rfl,?_⟩;conv=>whnf)
    refine⟨_,w1 3 (by decide),?_⟩
    conv=>whnf
    repeat (refine⟨by first | decide | exact ixl rfl | exact rgl rfl,?_⟩;conv=>whnf)
    refine⟨_,w2 3 (by decide),?_⟩
    conv=>whnf
    repeat (refine⟨by first | decide | exact ixl rfl | exact rgl rfl,?_⟩;conv=>whnf)
    exact⟨4,by decide,Weak.genT [some 0,some 1,some 2,some 3,some 4,some 5] rfl rfl ⟨_,rfl,rfl,by decide⟩ ⟨gk4 rfl,rk rfl fun x hx=>(md2_keep u (by decide) D x),rk rfl fun x hx=>(md2_keep u (by decide) D x),rk rfl fun x hx=>(md2_keep u (by decide) D x),ru rfl fun x=>(md2_step u 3 2 D 3 x),Rf.boxK rfl rfl,trivial⟩ ⟨⟨_,rfl,rfl,rfl⟩,⟨_,rfl,rfl⟩,⟨_,rfl,rfl⟩,⟨_,rfl,rfl,rfl⟩,⟨_,rfl,rfl⟩,⟨_,rfl,rfl⟩,trivial⟩,by decide⟩
   ·refine so ?_
    conv=>whnf
    exact⟨(),trivial,Weak.genT [some 0,some 1,some 2,some 3,some 4] rfl rfl ⟨_,rfl,rfl,by decide⟩ ⟨gk4 rfl,rk rfl fun x hx=>((hel _ x).trans (md2_all u _ _ D (by decide) x)),rk rfl fun x hx=>((hel _ x).trans (md2_all u _ _ D (by decide) x)),rk rfl fun x hx=>((hel _ x).trans (md2_all u _ _ D (by decide) x)),rk rfl fun x hx=>((hel _ x).trans (md2_all u _ _ D (by decide) x)),trivial⟩ ⟨⟨_,rfl,rfl,rfl⟩,⟨_,rfl,rfl⟩,⟨_,rfl,rfl⟩,trivial⟩⟩
  ·refine so ?_
   conv=>whnf
   repeat (refine⟨by first | decide | exact ixl rfl | exact rgl rfl,?_⟩;conv=>whnf)
   exact⟨(),trivial,Weak.genT [some 0,some 1,some 2,some 3,some 4] rfl rfl ⟨_,rfl,rfl,by decide⟩ ⟨gk4 rfl,rk rfl fun x hx=>(hst _ x),rk rfl fun x hx=>(hst _ x),rk rfl fun x hx=>(hst _ x),rk rfl fun x hx=>(hst _ x),trivial⟩ ⟨⟨_,rfl,rfl,rfl⟩,⟨_,rfl,rfl⟩,trivial⟩⟩
 ·refine so ?_
  conv=>whnf
  repeat (refine⟨by first | decide | exact ixl rfl | exact rgl rfl,?_⟩;conv=>whnf)
  exact Weak.genT (tl:=[(0,.c .any)]) (xs:=[gG 4 idn,gq 4 (hsn 4 M 0),gq 4 (hsn 4 M 1),gq 4 (hsn 4 M 2),gq 4 (hsn 4 M 3)]) [some 0,some 1,some 2,some 3,some 4] rfl rfl ⟨_,rfl,rfl,by decide⟩ ⟨gk4 rfl,rs rfl,rs rfl,rs rfl,rs rfl,trivial⟩ ⟨⟨rfl,rfl⟩,trivial⟩
end Mx
end Go.Proofs.YtkmbnldginonbaaGreat
