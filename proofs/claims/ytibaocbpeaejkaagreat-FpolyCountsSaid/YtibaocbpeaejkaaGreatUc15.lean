/- The awake call of the polynomials modulo a prime answers true: over contracts. -/
import Derived.Test.YtibaocbpeaejkaaGreatUc14
import Derived.Test.YtibaocbpeaejkaaGreatUc13
import Derived.Test.YtibaocbpeaejkaaGreatUc4
import Derived.Test.YtibaocbpeaejkaaGreatUc12
namespace Go.Proofs.YtibaocbpeaejkaaGreat
open Go.RowKit
theorem md_small {p:Int} (h1:2≤p) (h2:p<9) (h3:p%2=1):Fp.md p:=⟨h1,by omega,fun d h4 h5 h6=>by
 rcases Int.lt_or_le d 3 with h | h
 ·obtain rfl:d=2:=by omega
  omega
 ·have:=Int.mul_le_mul h h (by omega) (by omega)
  omega⟩
section
variable {p:Int} [hp:Prm p]
noncomputable def lin (c:Int):Pol (Zp p):=⟨fun i=>if i=0 then Zp.red c else if i=1 then 1 else 0,2,fun j hj=>by rw[if_neg (by omega),if_neg (by omega)]⟩
theorem lin_len (c:Int):(lin c:Pol (Zp p)).len=2:=Pol.len_eq (k:=1) (fun j hj=>by show(if j=0 then _ else if j=1 then _ else _)=_;rw[if_neg (by omega),if_neg (by omega)]) (by
 show(if 1=0 then Zp.red c else if 1=1 then(1:Zp p)else 0)≠0
 exact Fld.one_ne)
theorem lin_lead (c:Int):(lin c:Pol (Zp p)).lead=1:=by
 unfold Pol.lead
 rw[lin_len]
 rfl
end
abbrev litV (l:List Int):V := .c (.row 1 l.length (rowF 1 (l.map (Cell.int .i64))))
theorem sub_lit {n:Nat} {a:Nat->Int} {l:List Int} (hn:l.length=n) (h:∀ i,i<n->l[i]? = some (a i)):Sub (litV l) (.c (il n a)):=by
 refine subRowG hn fun i j hi hj=>?_
 obtain rfl:j=0:=by omega
 unfold rowF
 rw[Nat.mul_one,Nat.add_zero,List.getD_eq_getElem?_getD,List.getElem?_map,h i hi]
 rfl
theorem ints_lit {n:Nat} {a:Nat->Int} {l:List Int} (hl:n≤4096) (hn:l.length=n) (h:∀ i,i<n->l[i]? = some (a i)):FnOK Tryz.prog false 26 [.c (il n a),litV l] (.c (.bool true)):=by
 have h1:=Fp.ints_ok (n:=n) (m:=n) (a:=a) (b:=a) (by omega) (by omega)
 rw[@decide_eq_true _ (Classical.propDecidable _) ⟨rfl,fun _ _=>rfl⟩]at h1
 refine Fp.arg_ok h1 fun D w vs hv=>?_
 match vs,hv with
 | [v0,v1],⟨h0,h2,_⟩=>exact⟨h0,sub_lit hn h D w v1 h2,trivial⟩
section
theorem awake_fac (hm:Fp.md 5):FnOK Tryz.prog true 22 [.c (.int .i64 5),litV [2,0,2]] (.t3 (.c (.int .i64 2)) (.c (.row 2 2 (@fcs 5 (md_prm hm) [(@lin 5 (md_prm hm) 2,1),(@lin 5 (md_prm hm) 3,1)]))) (.c (.int .i64 0))):=by
 haveI:=md_prm hm
 let a:Nat->Int:=fun i=>if i=0 then 2 else if i=2 then 2 else 0
 have l2:=lin_len (p:=5) 2
 have l3:=lin_len (p:=5) 3
 have n2:(lin 2:Pol (Zp 5))≠0:=Pol.ne_of_len (by omega)
 have n3:(lin 3:Pol (Zp 5))≠0:=Pol.ne_of_len (by omega)
 have hC:(Zp.red 2:Zp 5)≠0:=fun e=>absurd (show(2:Int)%5=0 from Zp.v_zero.2 e) (by decide)
 have nC:(Pol.C (Zp.red 2):Pol (Zp 5))≠0:=Pol.ne_of_len (by rw[Pol.len_C hC];decide)
 have h23:=Pol.len_mul n2 n3
 have n23:(lin 2*lin 3:Pol (Zp 5))≠0:=Pol.ne_of_len (by omega)
 have hf:=Pol.len_mul nC n23
 rw[Pol.len_C hC]at hf
 have f0:(Pol.C (Zp.red 2)*(lin 2*lin 3):Pol (Zp 5))≠0:=Pol.ne_of_len (by omega)
 have ex:Fp.nfL 5 (3,a)=ofP (Pol.C (Zp.red 2)*(lin 2*lin 3):Pol (Zp 5)):=ofP_eq (Fp.NL.nfL hm (by decide)) fun i=>by
  match i with
  | 0=>exact Zp.ext rfl
  | 1=>exact Zp.ext rfl
  | 2=>exact Zp.ext rfl
  | i+3 =>
   rw[Pol.len_out (Pol.C (Zp.red 2)*(lin 2*lin 3):Pol (Zp 5)) (i+3) (by omega)]
   rfl
 obtain⟨L,sL,nL,kL⟩:=Factor_P hm (x:=(3,a)) (show 3≤4096 by decide) ex f0 (by omega)
 have epr:prL [((lin 2:Pol (Zp 5)),1),(lin 3,1)]=lin 2*lin 3:=by
  show Crg.pw (lin 2:Pol (Zp 5)) 1*(Crg.pw (lin 3) 1*1)=_
  rw[Crg.pw_one,Crg.pw_one,Crg.mul_one]
 have hcmp:cmpP (lin 2:Pol (Zp 5)) (lin 3)<0:=by
  unfold cmpP cmpV
  rw[l2,l3,if_pos rfl]
  exact(show cmpF (fun i=>((lin 2:Pol (Zp 5)).f i).v) (fun i=>((lin 3:Pol (Zp 5)).f i).v) 2 = -1 from rfl) ▸ (by decide)
 have hne:(lin 2:Pol (Zp 5))≠lin 3:=fun e=>by
  rw[e]at hcmp
  have:=cmpP_neg (lin 3:Pol (Zp 5)) (lin 3)
  omega
 have sM:FacS (Pol.C (Zp.red 2)*(lin 2*lin 3):Pol (Zp 5)) [(lin 2,1),(lin 3,1)]:=by
  refine⟨FacL.of_prod f0 (fun c hc=>?_) ?_ ?_ ?_,?_⟩
  ·rcases List.mem_cons.1 hc with e | e
   ·rw[e];exact⟨irr_two l2,lin_lead 2,Nat.le_refl 1⟩
   ·rw[List.mem_singleton.1 e];exact⟨irr_two l3,lin_lead 3,Nat.le_refl 1⟩
  ·exact List.pairwise_cons.2 ⟨fun b hb=>by rw[List.mem_singleton.1 hb];exact hne,List.pairwise_singleton _ _⟩
  ·rw[epr]
   refine⟨Pol.C (Zp.red 3),?_⟩
   have e1:(Pol.C (Zp.red 2)*Pol.C (Zp.red 3):Pol (Zp 5))=1:=by
    rw[Pol.C_mul_C]
    exact congrArg Pol.C (show(Zp.red 2*Zp.red 3:Zp 5)=1 from Zp.ext rfl)
   rw[mul_3,e1,Crg.one_mul]
  ·rw[epr]
   exact⟨Pol.C (Zp.red 2),Crg.mul_comm _ _⟩
  ·exact List.pairwise_cons.2 ⟨fun b hb=>by rw[List.mem_singleton.1 hb];exact hcmp,List.pairwise_singleton _ _⟩
 obtain rfl:=sL.eq sM
 have hlead:(Pol.C (Zp.red 2)*(lin 2*lin 3):Pol (Zp 5)).lead.v=2:=by
  rw[Pol.lead_mul nC n23,Pol.lead_mul n2 n3,lin_lead,lin_lead]
  have:(Pol.C (Zp.red 2):Pol (Zp 5)).lead=Zp.red 2:=by
   unfold Pol.lead
   rw[Pol.len_C hC]
   rfl
  rw[this]
  rfl
 rw[hlead]at kL
 refine Fp.arg_ok kL fun D w vs hv=>?_
 match vs,hv with
 | [v0,v1],⟨h0,h2,_⟩=>exact⟨h0,sub_lit (n:=3) (a:=a) rfl (fun i hi=>by
   match i,hi with
   | 0,_=>rfl
   | 1,_=>rfl
   | 2,_=>rfl) D w v1 h2,trivial⟩
theorem awake_mul (hm:Fp.md 7):∃ X:Nat->Int,(∀ i,i<3->[(6:Int),0,1][i]? = some (X i))/\FnOK Tryz.prog true 25 [.c (.int .i64 7),litV [1,1],litV [6,1]] (.t2 (.c (il 3 X)) (.c (.int .i64 0))):=by
 haveI:=md_prm hm
 let a:Nat->Int:=fun i=>if i=0 then 1 else if i=1 then 1 else 0
 let c:Nat->Int:=fun i=>if i=0 then 6 else if i=1 then 1 else 0
 have l2:=lin_len (p:=7) 1
 have l3:=lin_len (p:=7) 6
 have n2:(lin 1:Pol (Zp 7))≠0:=Pol.ne_of_len (by omega)
 have n3:(lin 6:Pol (Zp 7))≠0:=Pol.ne_of_len (by omega)
 have h23:=Pol.len_mul n2 n3
 have ea:Fp.nfL 7 (2,a)=ofP (lin 1:Pol (Zp 7)):=ofP_eq (Fp.NL.nfL hm (by decide)) fun i=>by
  match i with
  | 0=>exact Zp.ext rfl
  | 1=>exact Zp.ext rfl
  | i+2=>rw[Pol.len_out (lin 1:Pol (Zp 7)) (i+2) (by omega)];rfl
 have ec:Fp.nfL 7 (2,c)=ofP (lin 6:Pol (Zp 7)):=ofP_eq (Fp.NL.nfL hm (by decide)) fun i=>by
  match i with
  | 0=>exact Zp.ext rfl
  | 1=>exact Zp.ext rfl
  | i+2=>rw[Pol.len_out (lin 6:Pol (Zp 7)) (i+2) (by omega)];rfl
 have k:=(Mul_P hm (n:=2) (m:=2) (a:=a) (c:=c) (by decide) (by decide) ea ec).weak (r:=true)
 have hl:(lin 1*lin 6:Pol (Zp 7)).len=3:=by omega
 have e3:pl (lin 1*lin 6:Pol (Zp 7)) = .c (il 3 fun i=>((lin 1*lin 6:Pol (Zp 7)).f i).v):=by
  show V.c (il (lin 1*lin 6:Pol (Zp 7)).len _)=_
  rw[hl]
  rfl
 rw[e3]at k
 refine⟨_,fun i hi=>?_,Fp.arg_ok k fun D w vs hv=>?_⟩
 ·match i,hi with
  | 0,_=>rfl
  | 1,_=>rfl
  | 2,_=>rfl
 ·match vs,hv with
  | [v0,v1,v2],⟨h0,h1,h2,_⟩=>exact⟨h0,sub_lit (n:=2) (a:=a) rfl (fun i hi=>by
    match i,hi with
    | 0,_=>rfl
    | 1,_=>rfl) D w v1 h1,sub_lit (n:=2) (a:=c) rfl (fun i hi=>by
    match i,hi with
    | 0,_=>rfl
    | 1,_=>rfl) D w v2 h2,trivial⟩
set_option maxHeartbeats 4000000 in
theorem awakeF:FnOK Tryz.prog true 5 [] (.c (.bool true)):=by
 have h5:Fp.md 5:=md_small (by decide) (by decide) (by decide)
 have h7:Fp.md 7:=md_small (by decide) (by decide) (by decide)
 haveI:=md_prm h5
 have k1:=awake_fac h5
 obtain⟨X,hX,k2⟩:=awake_mul h7
 have l2:=lin_len (p:=5) 2
 have l3:=lin_len (p:=5) 3
 have i1:FnOK Tryz.prog true 26 [pl (lin 2:Pol (Zp 5)),litV [2,1]] (.c (.bool true)):=(ints_lit (l:=[2,1]) (n:=(lin 2:Pol (Zp 5)).len) (by omega) l2.symm fun i hi=>by
  match i,(show i<2 by omega)with
  | 0,_=>rfl
  | 1,_=>rfl).weak
 have i2:FnOK Tryz.prog true 26 [pl (lin 3:Pol (Zp 5)),litV [3,1]] (.c (.bool true)):=(ints_lit (l:=[3,1]) (n:=(lin 3:Pol (Zp 5)).len) (by omega) l3.symm fun i hi=>by
  match i,(show i<2 by omega)with
  | 0,_=>rfl
  | 1,_=>rfl).weak
 have i3:FnOK Tryz.prog true 26 [.c (il 3 X),litV [6,0,1]] (.c (.bool true)):=(ints_lit (l:=[6,0,1]) (n:=3) (by decide) rfl hX).weak
 refine fn_ok (E:=E1) E1_ok Tryz.func5 rfl mixed (by kernel_rfl) (by kernel_rfl) ?_
 conv=>whnf
 refine⟨fun i j hi hj=>?_,?_⟩
 ·match i,j,hi,hj with
  | 0,0,_,_=>rfl
  | 1,0,_,_=>rfl
  | 2,0,_,_=>rfl
 conv=>whnf
 refine⟨_,k1,?_⟩
 conv=>whnf
 refine⟨fun i j hi hj=>?_,?_⟩
 ·match i,j,hi,hj with
  | 0,0,_,_=>rfl
  | 1,0,_,_=>rfl
 conv=>whnf
 refine⟨fun i j hi hj=>?_,?_⟩
 ·match i,j,hi,hj with
  | 0,0,_,_=>rfl
  | 1,0,_,_=>rfl
 conv=>whnf
 refine⟨_,k2,?_⟩
 conv=>whnf
 refine⟨by decide,by show(0:Int)<2;decide,?_⟩
 conv=>whnf
 refine⟨by decide,by show(0:Int)<2;decide,?_⟩
 conv=>whnf
 refine⟨fun i j hi hj=>?_,?_⟩
 ·match i,j,hi,hj with
  | 0,0,_,_=>rfl
  | 1,0,_,_=>rfl
 conv=>whnf
 refine⟨_,i1,?_⟩
 conv=>whnf
 refine⟨by decide,by show(1:Int)<2;decide,?_⟩
 conv=>whnf
 refine⟨fun i j hi hj=>?_,?_⟩
 ·match i,j,hi,hj with
  | 0,0,_,_=>rfl
  | 1,0,_,_=>rfl
 conv=>whnf
 refine⟨_,i2,?_⟩
 conv=>whnf
 refine⟨fun i j hi hj=>?_,?_⟩
 ·match i,j,hi,hj with
  | 0,0,_,_=>rfl
  | 1,0,_,_=>rfl
  | 2,0,_,_=>rfl
 conv=>whnf
 refine⟨_,i3,?_⟩
 conv=>whnf
 exact⟨rfl,Sub.refl _⟩
end
end Go.Proofs.YtibaocbpeaejkaaGreat
/- The document's Irreducible, over polynomials. -/
namespace Go.Proofs.YtibaocbpeaejkaaGreat
open Go.RowKit
section
variable {p:Int} [hp:Prm p]
theorem rgcd_P (hm:Fp.md p) {a b:Pol (Zp p)} (ha:a.len≤4096) (hb:b.len≤4096) (hne:a≠0∨b≠0):FnOK Tryz.prog false 40 [.c (.int .i64 p),pl a,pl b] (pl (Pol.gd a b)):=by
 obtain⟨g,h1,h2,h3,h4,u,v,h5⟩:=gc_of hm b.len ha hb (Nat.le_refl _)
 have hg:g≠0:=fun e=>by
  rcases hne with h | h
  ·obtain⟨x,hx⟩:=h3;exact h (by rw[hx,e,Crg.zero_mul])
  ·obtain⟨x,hx⟩:=h4;exact h (by rw[hx,e,Crg.zero_mul])
 obtain⟨m,e1,e2,e3,e4,e5⟩:=mo_of hm hg h2
 have hgc:Gc a b m:=⟨e2,Pol.ne_of_len (by rw[e5];exact Pol.len_pos hg),e3.trans h3,e3.trans h4,fun x k1 k2=>by
  refine Pol.Dvs.trans ?_ e4
  rw[h5]
  exact(k1.mul' u).add (k2.mul' v)⟩
 have na:=ofP_NL a ha
 have nb:=ofP_NL b hb
 have:=Fp.refGcd_ok hm na.n4 nb.n4 na.self nb.self na.t nb.t
 have e:Fp.gc p (ofP b).1 (ofP a).1 (ofP a).2 (ofP b).1 (ofP b).2=ofP g:=h1
 rw[e]at this
 have e6:(Fp.tl (Fp.mo p (ofP g)) (ofP g).1,Fp.mo p (ofP g))=ofP m:=e1
 rw[hgc.gd]
 show FnOK _ _ _ _ (Fp.cl (ofP m))
 rw[← e6]
 exact this
theorem rpow_P (hm:Fp.md p) {a m:Pol (Zp p)} (ha:a.len≤1024) (h0:m≠0) (hl:m.len≤1024):FnOK Tryz.prog false 39 [.c (.int .i64 p),pl a,Fp.bi false 1 fun _=>p,pl m] (pl (Pol.rm (Crg.pw a p.toNat) m)) :=
 Fp.power_ok (x:=ofP a) (y:=ofP m) (f:=ofP a) (m:=ofP m) (r:=ofP (Pol.rm (Crg.pw a p.toNat) m)) (s:=false) (q:=1) (a:=fun _=>p) hm ha hl (Fp.nfL_id (ofP_NL a (by omega))) (Fp.nfL_id (ofP_NL m (by omega))) (Pol.len_pos h0) (by decide) (fun _=>⟨by have:=hm.1;omega,by have:=hm.2.1;omega⟩) (by rw[Fp.bs_of hm];exact rp_P hm h0 (by omega) p.toNat)
theorem rsub_P (hm:Fp.md p) {a b:Pol (Zp p)} (ha:a.len≤4096) (hb:b.len≤4096):FnOK Tryz.prog false 41 [.c (.int .i64 p),pl a,pl b] (pl (a-b)):=by
 rw[show pl (a-b)=Fp.cl (Fp.subL p (ofP a) (ofP b))by rw[sub_of hm a b ha hb]]
 exact Fp.refSub_L hm (ofP_NL a ha) (ofP_NL b hb)
theorem rdeg_P (hm:Fp.md p) {a:Pol (Zp p)} (ha:a.len≤4096):FnOK Tryz.prog false 38 [.c (.int .i64 p),pl a] (.c (.int .i64 ((a.len:Int)-1))):=by
 have d:=Fp.degree_ok (p:=p) (n:=(ofP a).1) (a:=(ofP a).2) (by have:=hm.1;omega) hm.2.1 (show a.len≤1048576 by omega)
 have e:Fp.tl (Fp.nf p (ofP a).1 (ofP a).2) (ofP a).1=a.len:=congrArg Prod.fst (Fp.nfL_id (ofP_NL a ha))
 rw[e]at d
 exact d
abbrev xV:V := .c (.row 1 2 (rowF 1 [.int .i64 0,.int .i64 1]))
theorem sub_xV:Sub xV (pl (Pol.X:Pol (Zp p))):=by
 show Sub _ (Fp.cl (ofP (Pol.X:Pol (Zp p))))
 rw[ofP_X]
 refine subRowG rfl fun i j hi hj=>?_
 match i,j,hi,hj with
 | 0,0,_,_=>rfl
 | 1,0,_,_=>rfl
theorem rsubX_P (hm:Fp.md p) {a:Pol (Zp p)} (ha:a.len≤4096):FnOK Tryz.prog false 41 [.c (.int .i64 p),pl a,xV] (pl (a-Pol.X)):=by
 refine Fp.arg_ok (rsub_P hm ha (b:=Pol.X) (by rw[X_len];decide)) fun D w vs h=>?_
 match vs,h with
 | [v0,v1,v2],⟨h0,h1,h2,h3⟩=>exact⟨h0,h1,sub_xV D w v2 h2,h3⟩
theorem reg_X {q:Nat} {bl:List Blk} {ks:List (Option Nat)} {k:Nat} {B:Blk} {e:Cell->Prop} (hB:bl[k]? = some B) (he:e (.gs k B.u)) (hq:q.ble k=true) (hk:(ks.any fun x=>x == some k)=false) (h1:B.st≤1) (h2:B.sz=1) (h3:B.n=2) (h4:B.f 0 0 = .int .i64 0) (h5:B.f 1 0 = .int .i64 1) {a:Pol (Zp p)} (ha:a=Pol.X):regC q bl ks (pc a) e:=by
 rw[ha]
 show regC q bl ks (il (ofP (Pol.X:Pol (Zp p))).1 (ofP (Pol.X:Pol (Zp p))).2) e
 rw[ofP_X]
 refine .inr (.inr ⟨k,B,hB,he,hq,hk,h1,h2,h3,fun i j hi hj=>?_⟩)
 obtain rfl:j=0:=by omega
 match i,hi with
 | 0,_=>exact⟨h4,rfl⟩
 | 1,_=>exact⟨h5,rfl⟩
noncomputable def rx (g : Pol (Zp p)) : Nat → Pol (Zp p)
 | 0=>Pol.X
 | k+1=>Pol.rm (Crg.pw (rx g k) p.toNat) g
theorem rx_cgr {g : Pol (Zp p)} (h0 : g ≠ 0) : ∀ k, Pol.Cgr g (rx g k) (Crg.pw Pol.X (p.toNat ^ k))
 | 0=>by rw[Nat.pow_zero,Crg.pw_one];exact Pol.Cgr.refl _ _
 | k+1=>by
  have h1:=((rx_cgr h0 k).pw p.toNat)
  rw[← Crg.pw_mul,← Nat.pow_succ]at h1
  exact(Pol.rm_spec _ h0).1.symm.trans h1
theorem rx_len {g : Pol (Zp p)} (h0 : g ≠ 0) (hl : g.len ≤ 1000) : ∀ k, (rx g k).len ≤ 1000
 | 0=>by show(Pol.X:Pol (Zp p)).len≤1000;rw[X_len];decide
 | k+1=>by have:(rx g (k+1)).len<g.len:=(Pol.rm_spec (Crg.pw (rx g k) p.toNat) h0).2;omega
noncomputable def rg (g:Pol (Zp p)) (k:Nat):Pol (Zp p):=Pol.gd g (rx g k-Pol.X)
theorem rg_gc (hm:Fp.md p) {g:Pol (Zp p)} (h0:g≠0) (hl:g.len≤1000) (k:Nat):Gc g (rx g k-Pol.X) (rg g k):=by
 refine(gd_P hm (by omega) ?_ (.inl h0)).1
 have h1:=rx_len h0 hl k
 have h2:=Pol.len_sub (rx g k) Pol.X
 rw[X_len]at h2
 omega
theorem rg_dvs (hm:Fp.md p) {g P:Pol (Zp p)} (h0:g≠0) (hl:g.len≤1000) (hP:Pol.Irr P) (k:Nat):Pol.Dvs P (rg g k)↔Pol.Dvs P g/\P.len-1∣k:=by
 rw[(rg_gc hm h0 hl k).irr]
 refine⟨fun⟨h1,h2⟩=>⟨h1,(irr_dvs_fro hP).1 ?_⟩,fun⟨h1,h2⟩=>⟨h1,?_⟩⟩
 ·have:=(rx_cgr h0 k).mono h1
  exact(this.symm.sub (Pol.Cgr.refl P Pol.X)).trans (Pol.Cgr.zero.2 h2) |> Pol.Cgr.zero.1
 ·have:=(rx_cgr h0 k).mono h1
  exact(this.sub (Pol.Cgr.refl P Pol.X)).trans (Pol.Cgr.zero.2 ((irr_dvs_fro hP).2 h2)) |> Pol.Cgr.zero.1
theorem rg_one (hm:Fp.md p) {g:Pol (Zp p)} (hg:Pol.Irr g) (hl:g.len≤1000) {k:Nat} (hk:1≤k) (hk2:2*k≤g.len-1):(rg g k).len=1:=by
 have hc:=rg_gc hm hg.ne hl k
 have h1:=Pol.len_pos hc.ne
 refine Classical.byContradiction fun hne=>?_
 obtain⟨P,hP,hd⟩:=Pol.ex_irr (rg g k).len (rg g k) (Nat.le_refl _) (by omega)
 obtain⟨h2,h3⟩:=(rg_dvs hm hg.ne hl hP k).1 hd
 have h4:=Nat.le_of_dvd (by omega) h3
 obtain⟨x,hx⟩:=h2
 have hx0:x≠0:=fun e=>hg.ne (by rw[hx,e,Crg.mul_zero])
 have h5:=Pol.len_mul hP.ne hx0
 rw[← hx]at h5
 have h6:=hP.two
 have h7:=hg.two
 rcases hg.irr P x hx with h8 | h8 <;> omega
theorem rg_more (hm:Fp.md p) {g:Pol (Zp p)} (h2:2≤g.len) (hl:g.len≤1000) (hn:¬ Pol.Irr g):∃ K,2*(K+1)≤g.len-1/\(rg g (K+1)).len≠1/\∀ j,j<K->(rg g (j+1)).len=1:=by
 have h0:g≠0:=Pol.ne_of_len (by omega)
 obtain⟨P,hP,x,hx⟩:=Pol.ex_irr g.len g (Nat.le_refl _) h2
 have hx0:x≠0:=fun e=>h0 (by rw[hx,e,Crg.mul_zero])
 have h5:=Pol.len_mul hP.ne hx0
 rw[← hx]at h5
 have hx1:=Pol.len_pos hx0
 have hx2:2≤x.len:=Nat.le_of_not_lt fun h=>hn (by
  refine irr_of_small hP ⟨x,hx⟩ h0 (by omega))
 obtain⟨S,hS,hSx⟩:=Pol.ex_irr x.len x (Nat.le_refl _) hx2
 have hSg:Pol.Dvs S g:=hSx.trans ⟨P,by rw[hx,Crg.mul_comm]⟩
 have h6:=hSx.len hx0
 have hP2:=hP.two
 have hS2:=hS.two
 have key:∀ Q:Pol (Zp p),Pol.Irr Q->Pol.Dvs Q g->(rg g (Q.len-1)).len≠1:=fun Q hQ hd e=>by
  have h7:=((rg_dvs hm h0 hl hQ (Q.len-1)).2 ⟨hd,Nat.dvd_refl _⟩).len (rg_gc hm h0 hl _).ne
  have:=hQ.two
  omega
 have hex:∃ k,2*(k+1)≤g.len-1/\(rg g (k+1)).len≠1:=by
  rcases Nat.le_total P.len S.len with h | h
  ·exact⟨P.len-2,by omega,by rw[show P.len-2+1=P.len-1 by omega];exact key P hP ⟨x,hx⟩⟩
  ·exact⟨S.len-2,by omega,by rw[show S.len-2+1=S.len-1 by omega];exact key S hS hSg⟩
 obtain⟨K,⟨k1,k2⟩,k3⟩:=ex_least hex
 exact⟨K,k1,k2,fun j hj=>Classical.byContradiction fun e=>k3 j hj ⟨by omega,e⟩⟩
end
end Go.Proofs.YtibaocbpeaejkaaGreat
/- The document's Irreducible, over polynomials: the walk. -/
namespace Go.Proofs.YtibaocbpeaejkaaGreat
open Go.RowKit
section
variable {p:Int} [hp:Prm p]
set_option maxHeartbeats 8000000 in
theorem rirr_yes (hm:Fp.md p) {g:Pol (Zp p)} (h2:2≤g.len) (hl:g.len≤200) (h:∀ k,1≤k->2*k≤g.len-1->(rg g k).len=1):FnOK Tryz.prog false 10 [.c (.int .i64 p),pl g] (.c (.bool true)):=by
 have hm1:=hm.1
 have hm2:=hm.2.1
 have h0:g≠0:=Pol.ne_of_len (by omega)
 have kd:=rdeg_P hm (a:=g) (by omega)
 have ko:=Fp.rof_ok (p:=p) (by omega) hm2
 have hrl:=rx_len h0 (by omega)
 have kp:=fun j=>rpow_P hm (a:=rx g j) (m:=g) (by have:=hrl j;omega) h0 (by omega)
 have ks:=fun j=>rsubX_P hm (a:=rx g (j+1)) (by have:=hrl (j+1);omega)
 have kg:=fun j=>rgcd_P hm (a:=g) (b:=rx g (j+1)-Pol.X) (by omega) (by
  have h1:=hrl (j+1)
  have h3:=Pol.len_sub (rx g (j+1)) Pol.X
  rw[X_len]at h3
  omega) (.inl h0)
 have kx:=fun j=>rdeg_P hm (a:=rg g (j+1)) (by have:=(rg_gc hm h0 (by omega) (j+1)).da.len h0;omega)
 obtain⟨D,hD⟩:∃ D:Nat,D=g.len-1:=⟨_,rfl⟩
 have hDi:(g.len:Int)-1=(D:Int):=by omega
 rw[hDi]at kd
 have hone:∀ j,2*(j+1)≤D->(rg g (j+1)).len=1:=fun j hj=>h (j+1) (by omega) (by omega)
 refine fn_ok (E:=E0) E0_ok Tryz.func10 rfl mixed (by kernel_rfl) (by kernel_rfl) ?_
 conv=>whnf
 refine⟨_,kd,?_⟩
 conv=>whnf
 refine loop_ints (fun j:Nat=>gst [(0,.c (.int .i64 p)),(1,pl g),(5,.c (.int .i64 D)),(6,pl (rx g j)),(7,.c (.int .i64 ((j:Int)+1)))] []) (fun j=>D-j) (fun j=>j≤D) 0 rfl ?_ (Nat.zero_le _) fun j hj=>?_
 ·exact Weak.gen [] rfl trivial ⟨⟨_,rfl,rfl⟩,.inl ⟨_,_,rfl,rfl,fun _ _ _ _=>rfl⟩,⟨_,rfl,rfl⟩,reg_X (p:=p) (k:=0) (B:=⟨3,1,2,0,0,rowF 1 [.int .i64 0,.int .i64 1]⟩) (e:=fun x=>V.c (.gs 0 0) = .c x) rfl rfl rfl rfl (Nat.zero_le _) rfl rfl rfl rfl (a:=rx g 0) rfl,⟨_,rfl,rfl⟩,trivial⟩
 have kp:=kp j
 have ks:=ks j
 have kg:=kg j
 have kx:=kx j
 have hone:=hone j
 rcases Nat.lt_or_ge D (2*(j+1))with c | c
 ·conv=>whnf
  refine⟨Fp.i64 (by omega) (by omega),?_⟩
  conv=>whnf
  refine bneg (show decide (2*((j:Int)+1)≤(D:Int))=false from decide_eq_false (by omega)) ?_
  conv=>whnf
  exact⟨rfl,Fp.subB (decide_eq_true (by omega))⟩
 ·have hone:=hone c
  conv=>whnf
  refine⟨Fp.i64 (by omega) (by omega),?_⟩
  conv=>whnf
  refine bpos (show decide (2*((j:Int)+1)≤(D:Int))=true from decide_eq_true (by omega)) ?_
  conv=>whnf
  refine⟨_,ko,?_⟩
  conv=>whnf
  refine⟨_,kp,?_⟩
  conv=>whnf
  refine⟨fun i y hi hy=>?_,?_⟩
  ·match i,y,hi,hy with
   | 0,0,_,_=>rfl
   | 1,0,_,_=>rfl
  conv=>whnf
  refine⟨_,ks,?_⟩
  conv=>whnf
  refine⟨_,kg,?_⟩
  conv=>whnf
  refine⟨_,kx,?_⟩
  conv=>whnf
  refine bneg (show(!decide (((rg g (j+1)).len:Int)-1=0))=false by rw[decide_eq_true (by omega)];rfl) ?_
  conv=>whnf
  refine⟨Fp.i64 (by omega) (by omega),?_⟩
  conv=>whnf
  exact⟨j+1,by omega,Weak.gen [] rfl trivial ⟨⟨_,rfl,rfl⟩,.inl ⟨_,_,rfl,rfl,fun _ _ _ _=>rfl⟩,⟨_,rfl,rfl⟩,.inl ⟨_,_,rfl,rfl,fun _ _ _ _=>rfl⟩,⟨_,rfl,by omega⟩,trivial⟩,by omega⟩
set_option maxHeartbeats 8000000 in
theorem rirr_no (hm:Fp.md p) {g:Pol (Zp p)} (h2:2≤g.len) (hl:g.len≤200) {K:Nat} (k1:2*(K+1)≤g.len-1) (k2:(rg g (K+1)).len≠1) (hone:∀ j,j<K->(rg g (j+1)).len=1):FnOK Tryz.prog false 10 [.c (.int .i64 p),pl g] (.c (.bool false)):=by
 have hm1:=hm.1
 have hm2:=hm.2.1
 have h0:g≠0:=Pol.ne_of_len (by omega)
 have kd:=rdeg_P hm (a:=g) (by omega)
 have ko:=Fp.rof_ok (p:=p) (by omega) hm2
 have hrl:=rx_len h0 (by omega)
 have kp:=fun j=>rpow_P hm (a:=rx g j) (m:=g) (by have:=hrl j;omega) h0 (by omega)
 have ks:=fun j=>rsubX_P hm (a:=rx g (j+1)) (by have:=hrl (j+1);omega)
 have kg:=fun j=>rgcd_P hm (a:=g) (b:=rx g (j+1)-Pol.X) (by omega) (by
  have h1:=hrl (j+1)
  have h3:=Pol.len_sub (rx g (j+1)) Pol.X
  rw[X_len]at h3
  omega) (.inl h0)
 have kx:=fun j=>rdeg_P hm (a:=rg g (j+1)) (by have:=(rg_gc hm h0 (by omega) (j+1)).da.len h0;omega)
 obtain⟨D,hD⟩:∃ D:Nat,D=g.len-1:=⟨_,rfl⟩
 have hDi:(g.len:Int)-1=(D:Int):=by omega
 rw[hDi]at kd
 refine fn_ok (E:=E0) E0_ok Tryz.func10 rfl mixed (by kernel_rfl) (by kernel_rfl) ?_
 conv=>whnf
 refine⟨_,kd,?_⟩
 conv=>whnf
 refine loop_ints (fun j:Nat=>gst [(0,.c (.int .i64 p)),(1,pl g),(5,.c (.int .i64 D)),(6,pl (rx g j)),(7,.c (.int .i64 ((j:Int)+1)))] []) (fun j=>K-j) (fun j=>j≤K) 0 rfl ?_ (Nat.zero_le _) fun j hj=>?_
 ·exact Weak.gen [] rfl trivial ⟨⟨_,rfl,rfl⟩,.inl ⟨_,_,rfl,rfl,fun _ _ _ _=>rfl⟩,⟨_,rfl,rfl⟩,reg_X (p:=p) (k:=0) (B:=⟨3,1,2,0,0,rowF 1 [.int .i64 0,.int .i64 1]⟩) (e:=fun x=>V.c (.gs 0 0) = .c x) rfl rfl rfl rfl (Nat.zero_le _) rfl rfl rfl rfl (a:=rx g 0) rfl,⟨_,rfl,rfl⟩,trivial⟩
 have kp:=kp j
 have ks:=ks j
 have kg:=kg j
 have kx:=kx j
 have hone:=hone j
 rcases Nat.lt_or_ge j K with c | c
 ·have hone:=hone c
  conv=>whnf
  refine⟨Fp.i64 (by omega) (by omega),?_⟩
  conv=>whnf
  refine bpos (show decide (2*((j:Int)+1)≤(D:Int))=true from decide_eq_true (by omega)) ?_
  conv=>whnf
  refine⟨_,ko,?_⟩
  conv=>whnf
  refine⟨_,kp,?_⟩
  conv=>whnf
  refine⟨fun i y hi hy=>?_,?_⟩
  ·match i,y,hi,hy with
   | 0,0,_,_=>rfl
   | 1,0,_,_=>rfl
  conv=>whnf
  refine⟨_,ks,?_⟩
  conv=>whnf
  refine⟨_,kg,?_⟩
  conv=>whnf
  refine⟨_,kx,?_⟩
  conv=>whnf
  refine bneg (show(!decide (((rg g (j+1)).len:Int)-1=0))=false by rw[decide_eq_true (by omega)];rfl) ?_
  conv=>whnf
  refine⟨Fp.i64 (by omega) (by omega),?_⟩
  conv=>whnf
  exact⟨j+1,by omega,Weak.gen [] rfl trivial ⟨⟨_,rfl,rfl⟩,.inl ⟨_,_,rfl,rfl,fun _ _ _ _=>rfl⟩,⟨_,rfl,rfl⟩,.inl ⟨_,_,rfl,rfl,fun _ _ _ _=>rfl⟩,⟨_,rfl,by omega⟩,trivial⟩,by omega⟩
 ·obtain rfl:j=K:=by omega
  conv=>whnf
  refine⟨Fp.i64 (by omega) (by omega),?_⟩
  conv=>whnf
  refine bpos (show decide (2*((j:Int)+1)≤(D:Int))=true from decide_eq_true (by omega)) ?_
  conv=>whnf
  refine⟨_,ko,?_⟩
  conv=>whnf
  refine⟨_,kp,?_⟩
  conv=>whnf
  refine⟨fun i y hi hy=>?_,?_⟩
  ·match i,y,hi,hy with
   | 0,0,_,_=>rfl
   | 1,0,_,_=>rfl
  conv=>whnf
  refine⟨_,ks,?_⟩
  conv=>whnf
  refine⟨_,kg,?_⟩
  conv=>whnf
  refine⟨_,kx,?_⟩
  conv=>whnf
  refine bpos (show(!decide (((rg g (j+1)).len:Int)-1=0))=true by rw[decide_eq_false (by omega)];rfl) ?_
  conv=>whnf
  exact⟨rfl,Sub.refl _⟩
theorem rirr_irr (hm:Fp.md p) {g:Pol (Zp p)} (hl:g.len≤200) (hg:Pol.Irr g):FnOK Tryz.prog false 10 [.c (.int .i64 p),pl g] (.c (.bool true)) :=
 rirr_yes hm hg.two hl fun _ h1 h2=>rg_one hm hg (by omega) h1 h2
theorem rirr_red (hm:Fp.md p) {g:Pol (Zp p)} (h2:2≤g.len) (hl:g.len≤200) (hg:¬ Pol.Irr g):FnOK Tryz.prog false 10 [.c (.int .i64 p),pl g] (.c (.bool false)):=by
 obtain⟨K,k1,k2,k3⟩:=rg_more hm h2 (by omega) hg
 exact rirr_no hm h2 hl k1 k2 k3
end
end Go.Proofs.YtibaocbpeaejkaaGreat
/- Trial division: what its rounds keep. -/
namespace Go.Proofs.YtibaocbpeaejkaaGreat
open Go.RowKit
theorem dig_mod {q:Nat} (hq:2≤q) {n k:Nat} (h:k<n) (i:Nat):i%q^n / q^k%q=i / q^k%q:=by
 obtain⟨d,rfl⟩:∃ d,n=k+(d+1):=⟨n-k-1,by omega⟩
 have e:=Nat.div_add_mod i (q^(k+(d+1)))
 generalize i%q^(k+(d+1))=r at *
 generalize i / q^(k+(d+1))=m at *
 rw[← e,Nat.pow_add,Nat.mul_assoc,Nat.mul_add_div (Nat.pow_pos (by omega)),Nat.pow_succ,Nat.mul_comm (q^d) q,Nat.mul_assoc,Nat.mul_add_mod_self_left]
theorem cmp_dig {q : Nat} (hq : 2 ≤ q) : ∀ (n i j : Nat), i < q ^ n → j < q ^ n → i < j → cmpF (fun k => ((i / q ^ k % q : Nat) : Int)) (fun k => ((j / q ^ k % q : Nat) : Int)) n < 0
 | 0,i,j,h1,h2,h=>by rw[Nat.pow_zero]at h1 h2;omega
 | n+1,i,j,h1,h2,h=>by
  have hp:0<q^n:=Nat.pow_pos (by omega)
  have top:∀ x,x<q^(n+1)->x / q^n%q=x / q^n:=fun x hx=>Nat.mod_eq_of_lt (Nat.div_lt_of_lt_mul (by rw[Nat.pow_succ]at hx;exact hx))
  show(if((i / q^n%q:Nat):Int)=((j / q^n%q:Nat):Int)then _ else Lib.compareInt ((i / q^n%q:Nat):Int) ((j / q^n%q:Nat):Int))<0
  rw[top i h1,top j h2]
  have ei:=Nat.div_add_mod i (q^n)
  have ej:=Nat.div_add_mod j (q^n)
  have mi:=Nat.mod_lt i hp
  have mj:=Nat.mod_lt j hp
  by_cases e:i / q^n=j / q^n
  ·rw[if_pos (by rw[e])]
   have h3:=cmp_dig hq n (i%q^n) (j%q^n) mi mj (by rw[e]at ei;omega)
   have cong:∀ {F F' G G':Nat->Int} (m:Nat),(∀ k,k<m->F k=F' k/\G k=G' k)->cmpF F G m=cmpF F' G' m:=fun {F F' G G'} m=>by
    induction m with
    | zero=>exact fun _=>rfl
    | succ m ih =>
     intro hk
     unfold cmpF
     rw[(hk m (Nat.lt_succ_self m)).1,(hk m (Nat.lt_succ_self m)).2,ih fun k hk'=>hk k (by omega)]
   rwa [cong n fun k hk=>⟨congrArg (fun x:Nat=>(x:Int)) (dig_mod hq hk i),congrArg (fun x:Nat=>(x:Int)) (dig_mod hq hk j)⟩]at h3
  ·rw[if_neg (by omega)]
   refine cI_lt.2 ?_
   generalize i%q^n=ri at *
   generalize j%q^n=rj at *
   generalize i / q^n=di at *
   generalize j / q^n=dj at *
   generalize q^n=Q at *
   rcases Nat.lt_or_ge di dj with h3 | h3
   ·omega
   ·have h4:dj+1≤di:=by omega
    have h5:=Nat.mul_le_mul_left Q h4
    rw[Nat.mul_add,Nat.mul_one]at h5
    omega
section
variable {p:Int} [hp:Prm p]
theorem mnp_cmp {n i j:Nat} (hi:i<p.toNat^n) (hj:j<p.toNat^n) (h:i<j):cmpP (mnp n i:Pol (Zp p)) (mnp n j)<0:=by
 have h2:=two_le (p:=p)
 unfold cmpP cmpV
 rw[mnp_len,mnp_len,if_pos rfl]
 unfold cmpF
 rw[mnp_top,mnp_top,if_pos rfl]
 have h3:=cmp_dig h2 n i j hi hj h
 have cong:∀ {F F' G G':Nat->Int} (m:Nat),(∀ k,k<m->F k=F' k/\G k=G' k)->cmpF F G m=cmpF F' G' m:=fun {F F' G G'} m=>by
  induction m with
  | zero=>exact fun _=>rfl
  | succ m ih =>
   intro hk
   unfold cmpF
   rw[(hk m (Nat.lt_succ_self m)).1,(hk m (Nat.lt_succ_self m)).2,ih fun k hk'=>hk k (by omega)]
 rwa [← cong n fun k hk=>⟨mnp_v hk,mnp_v hk⟩]at h3
structure TdI (L : List (Pol (Zp p) × Nat)) (g : Pol (Zp p)) (t : Nat) (a : Pol (Zp p)) : Prop where
 ne:a≠0
 lead:a.lead=1
 fac:FacL a 1 (L.drop t)
 lo:∀ c∈L.take t,cmpP c.1 g<0
 hi:∀ c∈L.drop t,¬ cmpP c.1 g<0
 le:t≤L.length
structure TdJ (L : List (Pol (Zp p) × Nat)) (g : Pol (Zp p)) (t : Nat) (a : Pol (Zp p)) : Prop where
 ne:a≠0
 lead:a.lead=1
 fac:FacL a 1 (L.drop t)
 lo:∀ c∈L.take t,cmpP c.1 g<0∨c.1=g
 hi:∀ c∈L.drop t,cmpP g c.1<0
 le:t≤L.length
theorem cmp_irr {a:Pol (Zp p)}:¬ cmpP a a<0:=by have:=cmpP_neg a a;omega
end
end Go.Proofs.YtibaocbpeaejkaaGreat
/- The document's insert, Divide; trial division: the walk. -/
namespace Go.Proofs.YtibaocbpeaejkaaGreat
open Go.RowKit
section
variable {p:Int} [hp:Prm p]
end
end Go.Proofs.YtibaocbpeaejkaaGreat
/- The document's trial division: the walk. -/
namespace Go.Proofs.YtibaocbpeaejkaaGreat
open Go.RowKit
section
variable {p:Int} [hp:Prm p]
end
end Go.Proofs.YtibaocbpeaejkaaGreat
/- The law's product and same. -/
namespace Go.Proofs.YtibaocbpeaejkaaGreat
open Go.RowKit
section
variable {p:Int} [hp:Prm p]
end
end Go.Proofs.YtibaocbpeaejkaaGreat
/- The law's same. -/
namespace Go.Proofs.YtibaocbpeaejkaaGreat
open Go.RowKit
section
variable {p:Int} [hp:Prm p]
end
end Go.Proofs.YtibaocbpeaejkaaGreat
/- The law's product. -/
namespace Go.Proofs.YtibaocbpeaejkaaGreat
open Go.RowKit
section
variable {p:Int} [hp:Prm p]
end
end Go.Proofs.YtibaocbpeaejkaaGreat
/- The law FpolyFactors, as a contract. -/
namespace Go.Proofs.YtibaocbpeaejkaaGreat
open Go.RowKit
section
variable {p x:Int} {n m l q:Nat} {a c:Nat->Int} {s:Bool}
end
end Go.Proofs.YtibaocbpeaejkaaGreat
/- Degrees up to 64: divisors and the Moebius function; what runs have to show. -/
namespace Go.Proofs.YtibaocbpeaejkaaGreat
open Go.RowKit
namespace Cn
def cIn:List FuncId:=[73,74,75,117,149,78,118,79]
def cI (f:FuncId):Bool:=cIn.contains f
def mbT:List Int:=[0,1,-1,-1,0,-1,1,-1,0,0,1,-1,0,-1,1,1,0,-1,0,-1,0,1,1,-1,0,0,1,0,0,-1,-1,-1,0,1,1,1,0,-1,1,1,0,-1,-1,-1,0,0,1,-1,0,0,0,1,0,-1,0,1,0,1,1,-1,0,-1,1,0,0]
def dvs (n:Nat):List Nat:=((List.range n).map Nat.succ).filter fun d=>n%d == 0
def dvf (n i:Nat):Nat:=(dvs n).getD i 0
def muf (n:Nat):Int:=mbT.getD n 0
noncomputable def divB (n:Nat):Bool:=(pureX orcC (runY ER orcC dvX okF cI 1000 40) 29 [.c (.int .i64 n)]).map (fun X=>sameV X (.t2 (.c (il (dvs n).length fun i=>(((dvs n).getD i 0:Nat):Int))) (.c (.int .i64 0)))) == some true
noncomputable def mobB (n:Nat):Bool:=(pureX orcC (runY ER orcC dvX okF cI 1000 40) 31 [.c (.int .i64 n)]).map (fun X=>sameV X (.t2 (.c (.int .i64 (mbT.getD n 0))) (.c (.int .i64 0)))) == some true
noncomputable def rdvB (n:Nat):Bool:=(pureX orcC (runX ER orcC okF (fun _=>false) 1000 40) 13 [.c (.int .i64 n)]).map (fun X=>sameV X (.c (il (dvs n).length fun i=>(((dvs n).getD i 0:Nat):Int)))) == some true
noncomputable def rmbB (n:Nat):Bool:=(pureX orcC (runX ER orcC okF (fun _=>false) 1000 40) 48 [.c (.int .i64 n)]).map (fun X=>sameV X (.c (.int .i64 (mbT.getD n 0)))) == some true
theorem run_at {B:Nat->Bool} {n c w s:Nat} (h1:1≤n) (h:(List.range w).all (fun k=>B (k+s))=true) (e:(n-1) / w=c) (h0:0<w:=by decide) (hs:s=w*c+1:=by rfl):B n=true:=by
 have d:=Nat.div_add_mod (n-1) w
 have l:=Nat.mod_lt (n-1) h0
 rw[e]at d
 have:=List.all_eq_true.1 h (n-s) (List.mem_range.2 (by omega))
 rwa [show n-s+s=n by omega]at this
end Cn
end Go.Proofs.YtibaocbpeaejkaaGreat
/- Gauss's formula for degrees up to 64: no program in sight. -/
namespace Go.Proofs.YtibaocbpeaejkaaGreat
namespace Cn
def su (f : Nat → Int) : Nat → Int
 | 0=>0
 | i+1=>su f i+f i
theorem su_head (f : Nat → Int) : ∀ n, su f (n + 1) = f 0 + su (fun i => f (i + 1)) n
 | 0=>by show(0:Int)+f 0=f 0+0;omega
 | n+1=>by
  show su f (n+1)+f (n+1)=f 0+(su (fun i=>f (i+1)) n+f (n+1))
  rw[su_head f n];omega
theorem su_congr {f g : Nat → Int} : ∀ {n : Nat}, (∀ i, i < n → f i = g i) → su f n = su g n
 | 0,_=>rfl
 | n+1,h=>by
  show su f n+f n=su g n+g n
  rw[su_congr fun i hi=>h i (by omega),h n (by omega)]
theorem su_add (f g : Nat → Int) : ∀ n, su (fun i => f i + g i) n = su f n + su g n
 | 0=>rfl
 | n+1=>by
  show su (fun i=>f i+g i) n+(f n+g n)=su f n+f n+(su g n+g n)
  rw[su_add f g n];omega
theorem su_zero : ∀ n, su (fun _ => 0) n = 0
 | 0=>rfl
 | n+1=>by show su (fun _=>0) n+0=0;rw[su_zero n];rfl
theorem su_one (k : Nat) (c : Int) (x : Int) : ∀ n, su (fun j => (if j = k then c else 0) * x ^ j) n = if k < n then c * x ^ k else 0
 | 0=>(if_neg (Nat.not_lt_zero k)).symm
 | n+1=>by
  show su (fun j=>(if j=k then c else 0)*x^j) n+(if n=k then c else 0)*x^n=_
  rw[su_one k c x n]
  by_cases h:n=k
  ·subst h
   rw[if_neg (Nat.lt_irrefl n),if_pos rfl,if_pos (Nat.lt_succ_self n)];omega
  ·rw[if_neg h,Int.zero_mul,Int.add_zero]
   by_cases h2:k<n
   ·rw[if_pos h2,if_pos (by omega)]
   ·rw[if_neg h2,if_neg (by omega)]
def ev (x : Int) : List (Nat × Int) → Int
 | []=>0
 | (k,c) :: l=>c*x^k+ev x l
theorem ev_append (x : Int) : ∀ l m, ev x (l ++ m) = ev x l + ev x m
 | [],m=>(Int.zero_add _).symm
 | (k,c) :: l,m=>by
  show c*x^k+ev x (l++m)=c*x^k+ev x l+ev x m
  rw[ev_append x l m];omega
def cf (k : Nat) : List (Nat × Int) → Int
 | []=>0
 | (j,c) :: l=>(if k=j then c else 0)+cf k l
theorem ev_cf (x : Int) {m : Nat} : ∀ l : List (Nat × Int), (∀ t, t ∈ l → t.1 < m) → ev x l = su (fun k => cf k l * x ^ k) m
 | [],_=>by
  show 0=su (fun k=>0*x^k) m
  rw[show(fun k=>(0:Int)*x^k)=fun _=>0 from funext fun k=>Int.zero_mul _,su_zero]
 | (j,c) :: l,h=>by
  show c*x^j+ev x l=su (fun k=>((if k=j then c else 0)+cf k l)*x^k) m
  rw[show(fun k=>((if k=j then c else 0)+cf k l)*x^k)=fun k=>(if k=j then c else 0)*x^k+cf k l*x^k from funext fun k=>Int.add_mul _ _ _]
  rw[su_add (fun k=>(if k=j then c else 0)*x^k) (fun k=>cf k l*x^k),su_one,if_pos (h (j,c) (List.mem_cons_self ..)),ev_cf x l fun t ht=>h t (List.mem_cons_of_mem _ ht)]
theorem pow_mod (x n : Int) : ∀ k : Nat, x ^ k % n = (x % n) ^ k % n
 | 0=>by rw[Int.pow_zero,Int.pow_zero]
 | k+1=>by
  rw[Int.pow_succ,Int.pow_succ,Int.mul_emod,pow_mod x n k,Int.mul_emod ((x%n)^k),Int.emod_emod_of_dvd x (Int.dvd_refl n)]
theorem ev_mod (x n : Int) : ∀ l, ev x l % n = ev (x % n) l % n
 | []=>rfl
 | (k,c) :: l=>by
  show(c*x^k+ev x l)%n=(c*(x%n)^k+ev (x%n) l)%n
  rw[Int.add_emod,Int.mul_emod,pow_mod,ev_mod x n l,← Int.mul_emod,← Int.add_emod]
def prs (n:Nat):List (Nat × Int):=(dvs n).map fun d=>(n / d,muf d)
def all (n:Nat):List (Nat × Int):=(dvs n).flatMap prs
def chM (n:Nat):Bool:=(List.range n).all fun r=>ev r (prs n)%n == 0
def chS (n:Nat):Bool:=let l:=all n;l.all (fun t=>Nat.ble t.1 64)&&(List.range 65).all fun k=>cf k l == if k=n then 1 else 0
theorem chM_all:(List.range 64).all (fun n=>chM (n+1))=true:=by decide +kernel
theorem chS_all:(List.range 64).all (fun n=>chS (n+1))=true:=by decide +kernel
theorem prs_mod {n:Nat} (h1:1≤n) (h2:n≤64) (p:Nat):ev p (prs n)%n=0:=by
 have h:=List.all_eq_true.1 chM_all (n-1) (List.mem_range.2 (by omega))
 rw[Nat.sub_add_cancel h1]at h
 have h:=List.all_eq_true.1 h (p%n) (List.mem_range.2 (Nat.mod_lt _ h1))
 rw[ev_mod]
 exact eq_of_beq h
theorem all_sum {n:Nat} (h1:1≤n) (h2:n≤64) (x:Int):ev x (all n)=x^n:=by
 have h:=List.all_eq_true.1 chS_all (n-1) (List.mem_range.2 (by omega))
 rw[Nat.sub_add_cancel h1]at h
 unfold chS at h
 simp only[Bool.and_eq_true]at h
 rw[ev_cf x (m:=65) (all n) fun t ht=>by
  have:=Nat.le_of_ble_eq_true (List.all_eq_true.1 h.1 t ht)
  omega]
 rw[su_congr (g:=fun k=>(if k=n then 1 else 0)*x^k) fun k hk=>by
  rw[eq_of_beq (List.all_eq_true.1 h.2 k (List.mem_range.2 hk))]]
 rw[su_one,if_pos (by omega),Int.one_mul]
theorem su_list {α : Type} (g : α → Int) (z : α) : ∀ l : List α, su (fun i => g (l.getD i z)) l.length = (l.map g).foldr (· + ·) 0
 | []=>rfl
 | a :: l=>by
  show su (fun i=>g ((a :: l).getD i z)) (l.length+1)=g a+(l.map g).foldr (·+·) 0
  rw[su_head,← su_list g z l]
  rfl
def gs (p n i:Nat):Int:=su (fun i=>muf (dvf n i)*((p^(n / dvf n i):Nat):Int)) i
def tot (p n:Nat):Int:=gs p n (dvs n).length
theorem ev_map (x : Int) (n : Nat) : ∀ l : List Nat, ev x (l.map fun d => (n / d, muf d)) = (l.map fun d => muf d * x ^ (n / d)).foldr (· + ·) 0
 | []=>rfl
 | d :: l=>by
  show muf d*x^(n / d)+ev x (l.map fun d=>(n / d,muf d))=_
  rw[ev_map x n l]
  rfl
theorem tot_ev (p n:Nat):tot p n=ev p (prs n):=by
 show su (fun i=>muf (dvf n i)*((p^(n / dvf n i):Nat):Int)) (dvs n).length=ev p ((dvs n).map fun d=>(n / d,muf d))
 rw[ev_map,← su_list (fun d=>muf d*(p:Int)^(n / d)) 0]
 exact su_congr fun i _=>by
  show muf (dvf n i)*((p^(n / dvf n i):Nat):Int)=muf (dvf n i)*(p:Int)^(n / dvf n i)
  rw[Int.natCast_pow]
theorem tot_mod (p:Nat) {n:Nat} (h1:1≤n) (h2:n≤64):tot p n%n=0:=by
 rw[tot_ev]
 exact prs_mod h1 h2 p
def cnt (p n:Nat):Int:=tot p n / n
theorem cnt_mul (p:Nat) {n:Nat} (h1:1≤n) (h2:n≤64):cnt p n*n=tot p n:=Int.ediv_mul_cancel (Int.dvd_of_emod_eq_zero (tot_mod p h1 h2))
theorem ev_flat (x : Int) : ∀ l : List Nat, ev x (l.flatMap prs) = (l.map fun d => ev x (prs d)).foldr (· + ·) 0
 | []=>rfl
 | d :: l=>by
  show ev x (prs d++l.flatMap prs)=ev x (prs d)+_
  rw[ev_append,ev_flat x l]
theorem gauss (p:Nat) {n:Nat} (h1:1≤n) (h2:n≤64) (hd:∀ i,i<(dvs n).length->1≤dvf n i/\dvf n i≤64):su (fun i=>cnt p (dvf n i)*dvf n i) (dvs n).length=((p^n:Nat):Int):=by
 rw[su_congr (g:=fun i=>ev p (prs ((dvs n).getD i 0))) fun i hi=>(cnt_mul p (hd i hi).1 (hd i hi).2).trans (tot_ev p _)]
 rw[su_list (fun d=>ev p (prs d)) 0,← ev_flat,Int.natCast_pow]
 exact all_sum h1 h2 p
end Cn
end Go.Proofs.YtibaocbpeaejkaaGreat
/- Runs at degrees up to 64. -/
namespace Go.Proofs.YtibaocbpeaejkaaGreat
namespace Cn
theorem div_r0:(List.range 8).all (fun k=>divB (k+1))=true:=by kernel_rfl
theorem div_r1:(List.range 8).all (fun k=>divB (k+9))=true:=by kernel_rfl
theorem div_r2:(List.range 8).all (fun k=>divB (k+17))=true:=by kernel_rfl
theorem div_r3:(List.range 8).all (fun k=>divB (k+25))=true:=by kernel_rfl
theorem div_r4:(List.range 8).all (fun k=>divB (k+33))=true:=by kernel_rfl
theorem div_r5:(List.range 8).all (fun k=>divB (k+41))=true:=by kernel_rfl
theorem div_r6:(List.range 8).all (fun k=>divB (k+49))=true:=by kernel_rfl
theorem div_r7:(List.range 8).all (fun k=>divB (k+57))=true:=by kernel_rfl
end Cn
end Go.Proofs.YtibaocbpeaejkaaGreat
/- Runs at degrees up to 64. -/
namespace Go.Proofs.YtibaocbpeaejkaaGreat
namespace Cn
theorem mob_r0:(List.range 16).all (fun k=>mobB (k+1))=true:=by kernel_rfl
theorem mob_r1:(List.range 16).all (fun k=>mobB (k+17))=true:=by kernel_rfl
theorem mob_r2:(List.range 16).all (fun k=>mobB (k+33))=true:=by kernel_rfl
theorem mob_r3:(List.range 16).all (fun k=>mobB (k+49))=true:=by kernel_rfl
theorem rmb_r0:(List.range 16).all (fun k=>rmbB (k+1))=true:=by kernel_rfl
theorem rmb_r1:(List.range 16).all (fun k=>rmbB (k+17))=true:=by kernel_rfl
theorem rmb_r2:(List.range 16).all (fun k=>rmbB (k+33))=true:=by kernel_rfl
theorem rmb_r3:(List.range 16).all (fun k=>rmbB (k+49))=true:=by kernel_rfl
end Cn
end Go.Proofs.YtibaocbpeaejkaaGreat
/- Runs at degrees up to 64. -/
namespace Go.Proofs.YtibaocbpeaejkaaGreat
namespace Cn
theorem rdv_r0:(List.range 16).all (fun k=>rdvB (k+1))=true:=by kernel_rfl
theorem rdv_r1:(List.range 16).all (fun k=>rdvB (k+17))=true:=by kernel_rfl
theorem rdv_r2:(List.range 16).all (fun k=>rdvB (k+33))=true:=by kernel_rfl
theorem rdv_r3:(List.range 16).all (fun k=>rdvB (k+49))=true:=by kernel_rfl
end Cn
end Go.Proofs.YtibaocbpeaejkaaGreat
/- Runs at degrees up to 64, joined. -/
namespace Go.Proofs.YtibaocbpeaejkaaGreat
open Go.RowKit
namespace Cn
theorem div_run {n:Nat} (h1:1≤n) (h2:n≤64):divB n=true:=by
 have hlt:(n-1) / 8<8:=by omega
 match hc:(n-1) / 8,hlt with
 | 0,_=>exact run_at h1 div_r0 hc
 | 1,_=>exact run_at h1 div_r1 hc
 | 2,_=>exact run_at h1 div_r2 hc
 | 3,_=>exact run_at h1 div_r3 hc
 | 4,_=>exact run_at h1 div_r4 hc
 | 5,_=>exact run_at h1 div_r5 hc
 | 6,_=>exact run_at h1 div_r6 hc
 | 7,_=>exact run_at h1 div_r7 hc
 | _+8,h=>exact absurd h (by omega)
theorem mob_run {n:Nat} (h1:1≤n) (h2:n≤64):mobB n=true:=by
 have hlt:(n-1) / 16<4:=by omega
 match hc:(n-1) / 16,hlt with
 | 0,_=>exact run_at h1 mob_r0 hc
 | 1,_=>exact run_at h1 mob_r1 hc
 | 2,_=>exact run_at h1 mob_r2 hc
 | 3,_=>exact run_at h1 mob_r3 hc
 | _+4,h=>exact absurd h (by omega)
theorem rmb_run {n:Nat} (h1:1≤n) (h2:n≤64):rmbB n=true:=by
 have hlt:(n-1) / 16<4:=by omega
 match hc:(n-1) / 16,hlt with
 | 0,_=>exact run_at h1 rmb_r0 hc
 | 1,_=>exact run_at h1 rmb_r1 hc
 | 2,_=>exact run_at h1 rmb_r2 hc
 | 3,_=>exact run_at h1 rmb_r3 hc
 | _+4,h=>exact absurd h (by omega)
theorem rdv_run {n:Nat} (h1:1≤n) (h2:n≤64):rdvB n=true:=by
 have hlt:(n-1) / 16<4:=by omega
 match hc:(n-1) / 16,hlt with
 | 0,_=>exact run_at h1 rdv_r0 hc
 | 1,_=>exact run_at h1 rdv_r1 hc
 | 2,_=>exact run_at h1 rdv_r2 hc
 | 3,_=>exact run_at h1 rdv_r3 hc
 | _+4,h=>exact absurd h (by omega)
theorem div_at {n:Nat} (h1:1≤n) (h2:n≤64):FnOK Tryz.prog false 29 [.c (.int .i64 n)] (.t2 (.c (il (dvs n).length fun i=>(dvf n i:Int))) (.c (.int .i64 0))):=runY_same orcC_ok (inl:=cI) (beq_iff_eq.1 (div_run h1 h2))
theorem mob_at {n:Nat} (h1:1≤n) (h2:n≤64):FnOK Tryz.prog false 31 [.c (.int .i64 n)] (.t2 (.c (.int .i64 (muf n))) (.c (.int .i64 0))):=runY_same orcC_ok (inl:=cI) (beq_iff_eq.1 (mob_run h1 h2))
theorem rdv_at {n:Nat} (h1:1≤n) (h2:n≤64):FnOK Tryz.prog false 13 [.c (.int .i64 n)] (.c (il (dvs n).length fun i=>(dvf n i:Int))):=run_same (inl:=fun _=>false) (beq_iff_eq.1 (rdv_run h1 h2))
theorem rmb_at {n:Nat} (h1:1≤n) (h2:n≤64):FnOK Tryz.prog false 48 [.c (.int .i64 n)] (.c (.int .i64 (muf n))):=run_same (inl:=fun _=>false) (beq_iff_eq.1 (rmb_run h1 h2))
theorem dvs_mem {n i:Nat} (h:i<(dvs n).length):1≤dvf n i/\dvf n i≤n/\n%dvf n i=0:=by
 unfold dvf
 have hm:(dvs n).getD i 0∈dvs n:=by
  rw[List.getD_eq_getElem?_getD,List.getElem?_eq_getElem h]
  exact List.getElem_mem h
 generalize (dvs n).getD i 0=d at hm
 unfold dvs at hm
 rw[List.mem_filter,List.mem_map]at hm
 obtain⟨⟨a,ha,rfl⟩,hb⟩:=hm
 have ha:=List.mem_range.1 ha
 exact⟨by omega,by show a+1≤n;omega,by simpa using hb⟩
end Cn
end Go.Proofs.YtibaocbpeaejkaaGreat
/- The program's Count. -/
namespace Go.Proofs.YtibaocbpeaejkaaGreat
open Go.RowKit
namespace Cn
open Rf
theorem muf_le (n:Nat) (h:n≤64):(muf n).natAbs≤1:=by
 have t:(List.range 65).all (fun n=>Nat.ble (muf n).natAbs 1)=true:=by decide +kernel
 exact Nat.le_of_ble_eq_true (List.all_eq_true.1 t n (List.mem_range.2 (by omega)))
theorem dvs_len {n:Nat} (h:n≤64):(dvs n).length≤12:=by
 have t:(List.range 65).all (fun n=>Nat.ble (dvs n).length 12)=true:=by decide +kernel
 exact Nat.le_of_ble_eq_true (List.all_eq_true.1 t n (List.mem_range.2 (by omega)))
theorem zlen_muf {n:Nat} (h:n≤64):zlen (muf n)≤1:=zlen_le (Nat.lt_of_le_of_lt (muf_le n h) (by decide))
theorem term_zl {q n i:Nat} (hq:q<65536) (hn:n≤64) (hi:i<(dvs n).length):zlen (((q^(n / dvf n i):Nat):Int))≤129/\zlen (muf (dvf n i))≤1/\zlen (muf (dvf n i)*((q^(n / dvf n i):Nat):Int))≤130:=by
 have h1:=zlen_pw (x:=q) (e:=n / dvf n i) hq (by have:=Nat.div_le_self n (dvf n i);omega)
 have h2:=zlen_muf (n:=dvf n i) (by have:=(dvs_mem hi).2.1;omega)
 have h3:=zlen_mul (muf (dvf n i)) ((q^(n / dvf n i):Nat):Int)
 exact⟨h1,h2,by omega⟩
theorem gs_zl {q n : Nat} (hq : q < 65536) (hn : n ≤ 64) : ∀ {i : Nat}, i ≤ (dvs n).length → zlen (gs q n i) ≤ 130 + i
 | 0,_=>Nat.le_trans (show zlen (0:Int)≤0 by exact zlen_le (by decide)) (by omega)
 | i+1,h=>by
  show zlen (gs q n i+muf (dvf n i)*((q^(n / dvf n i):Nat):Int))≤_
  have h1:=gs_zl hq hn (i:=i) (by omega)
  have h2:=(term_zl hq hn (i:=i) (by omega)).2.2
  have:=zlen_add (gs q n i) (muf (dvf n i)*((q^(n / dvf n i):Nat):Int))
  omega
set_option maxHeartbeats 16000000 in
theorem count_ok {q n:Nat} (hm:Fp.md (q:Int)) (hn1:1≤n) (hn:n≤64):FnOK Tryz.prog true 7 [.c (.int .i64 q),.c (.int .i64 n)] (.t2 (.g (nz (cnt q n))) (.c (.int .i64 0))):=by
 have hm1:=hm.1
 have hm2:=hm.2.1
 have km:=(Fp.modulus_ok hm).weak (r:=true)
 have kD:=(div_at hn1 hn).weak (r:=true)
 have hN:=dvs_len hn
 have hdv:=fun i hi=>dvs_mem (n:=n) (i:=i) hi
 have k0:=of_ok (x:=0) (by decide) (by decide)
 have kq:=of_ok (x:=(q:Int)) (by omega) (by omega)
 have kn:=of_ok (x:=(n:Int)) (by omega) (by omega)
 have hz:=fun i hi=>gs_zl (q:=q) (n:=n) (by omega) hn (i:=i) hi
 have ht:=fun i hi=>term_zl (q:=q) (n:=n) (by omega) hn (i:=i) hi
 have hzn:zlen (n:Int)≤1:=zlen_nat n 1 (by rw[Nat.pow_one];omega)
 have kx:=exact_nz (tot q n) (n:Int) (by have:=hz _ (Nat.le_refl _);show zlen (gs q n (dvs n).length)+2≤LIM;unfold LIM;omega) (by unfold LIM;omega) (by omega) (tot_mod q hn1 hn)
 have kM:=fun i (hi:i<(dvs n).length)=>(mob_at (n:=dvf n i) (hdv i hi).1 (by have:=(hdv i hi).2.1;omega)).weak (r:=true)
 have kP:=fun i (hi:i<(dvs n).length)=>pow_ok (x:=q) (n:=n / dvf n i) (by omega) (by omega) (Nat.div_pos (hdv i hi).2.1 (hdv i hi).1) (by have:=Nat.div_le_self n (dvf n i);omega)
 have kO:=fun i (hi:i<(dvs n).length)=>of_ok (x:=muf (dvf n i)) (by have:=muf_le (dvf n i) (by have:=(hdv i hi).2.1;omega);omega) (by have:=muf_le (dvf n i) (by have:=(hdv i hi).2.1;omega);omega)
 have kW:=fun i (hi:i<(dvs n).length)=>mul_nz (muf (dvf n i)) ((q^(n / dvf n i):Nat):Int) (by have:=ht i hi;unfold LIM;omega)
 have kA:=fun i (hi:i<(dvs n).length)=>add_nz (gs q n i) (muf (dvf n i)*((q^(n / dvf n i):Nat):Int)) (by have:=hz i (by omega);unfold LIM;omega) (by have:=ht i hi;unfold LIM;omega)
 have eT:=fun i (hi:i<(dvs n).length)=>show Int.tdiv (n:Int) (dvf n i:Int)=((n / dvf n i:Nat):Int)by
  rw[Int.tdiv_eq_ediv_of_nonneg (by omega)];exact(Int.natCast_ediv n (dvf n i)).symm
 refine fn_ok (E:=E1) E1_ok Tryz.func7 rfl mixed (by kernel_rfl) (by kernel_rfl) ?_
 conv=>whnf
 refine⟨_,km,?_⟩
 conv=>whnf
 refine bpos (show gw false (decide ((n:Int)<1))=true by rw[decide_eq_false (by omega)];rfl) ?_
 conv=>whnf
 refine bneg (show decide ((64:Int)<(n:Int))=false from decide_eq_false (by omega)) ?_
 conv=>whnf
 refine⟨_,kD,?_⟩
 conv=>whnf
 refine⟨_,k0,?_⟩
 conv=>whnf
 refine loop_ints (fun i:Nat=>gst [(0,.c (.int .i64 q)),(1,.c (.int .i64 n)),(4,.c (.p 0 0 2 0 0)),(9,.c (.p 1 0 2 0 0)),(37,.c (il (dvs n).length fun i=>(dvf n i:Int))),(38,.c (.int .i64 ((dvs n).length:Nat))),(39,.c (.int .i64 i))] [⟨30,2,1,boxF [.bool false,.nil]⟩,⟨30,2,1,boxF (nz (gs q n i))⟩]) (fun i=>(dvs n).length-i) (fun i=>i≤(dvs n).length) 0 rfl ?start (Nat.zero_le _) ?round
 case start =>
  exact Weak.gen [some 0,some 1] rfl ⟨Rf.boxK rfl rfl,Rf.boxU rfl rfl rfl,trivial⟩ ⟨⟨_,rfl,rfl⟩,⟨_,rfl,rfl⟩,⟨_,rfl,rfl,rfl⟩,⟨_,rfl,rfl,rfl⟩,.inl ⟨_,_,rfl,rfl,fun _ _ _ _=>rfl⟩,⟨_,rfl,rfl⟩,⟨_,rfl,rfl⟩,trivial⟩
 case round =>
  intro i hi
  by_cases hlt:i<(dvs n).length
  ·have hdv:=hdv i hlt
   have kM:=kM i hlt
   have kP:=kP i hlt
   have kO:=kO i hlt
   have kW:=kW i hlt
   have kA:=kA i hlt
   have eT:=eT i hlt
   rw[← eT]at kP
   have hT : -9223372036854775808≤Int.tdiv (n:Int) (dvf n i:Int)/\Int.tdiv (n:Int) (dvf n i:Int)<9223372036854775808:=by
    rw[eT];have:=Nat.div_le_self n (dvf n i);have:=Int.natCast_nonneg (n / dvf n i);omega
   conv=>whnf
   refine bpos (show decide ((i:Int)<((dvs n).length:Nat))=true from decide_eq_true (by omega)) ?_
   conv=>whnf
   refine⟨by omega,by show(i:Int)<((dvs n).length:Nat);omega,?_⟩
   conv=>whnf
   refine⟨_,kM,?_⟩
   conv=>whnf
   refine⟨_,kq,?_⟩
   conv=>whnf
   refine⟨by show((dvf n i:Nat):Int)≠0;omega,hT,?_⟩
   conv=>whnf
   refine⟨_,kP,?_⟩
   conv=>whnf
   refine⟨_,kO,?_⟩
   conv=>whnf
   refine⟨_,kW,?_⟩
   conv=>whnf
   refine⟨_,kA,?_⟩
   conv=>whnf
   refine⟨Fp.i64 (by omega) (by omega),?_⟩
   conv=>whnf
   exact⟨i+1,by omega,Weak.gen [some 0,some 1] rfl ⟨Rf.boxK rfl rfl,Rf.boxU rfl rfl rfl,trivial⟩ ⟨⟨_,rfl,rfl⟩,⟨_,rfl,rfl⟩,⟨_,rfl,rfl,rfl⟩,⟨_,rfl,rfl,rfl⟩,.inl ⟨_,_,rfl,rfl,fun _ _ _ _=>rfl⟩,⟨_,rfl,rfl⟩,⟨_,rfl,rfl⟩,trivial⟩,by omega⟩
  ·obtain rfl:i=(dvs n).length:=by omega
   conv=>whnf
   refine bneg (show decide (((dvs n).length:Int)<((dvs n).length:Nat))=false from decide_eq_false (by omega)) ?_
   conv=>whnf
   refine⟨_,kn,?_⟩
   conv=>whnf
   refine⟨_,kx,?_⟩
   conv=>whnf
   exact⟨rfl,Sub.refl _⟩
end Cn
end Go.Proofs.YtibaocbpeaejkaaGreat
/- Calls that are handed a list that is written again behind them; the program's First. -/
namespace Go.Proofs.YtibaocbpeaejkaaGreat
open Go.RowKit
def V.flat : V → Bool
 | .c (.int _ _)=>true
 | .c (.bool _)=>true
 | .t2 a b=>a.flat&&b.flat
 | _=>false
theorem VRel.flat {D D' : Nat → Prop} {w w' : World} {ρ ρ' : List Loc} : ∀ {x : V} {v : Value}, x.flat = true → VRel D w ρ x v → VRel D' w' ρ' x v
 | .c (.int _ _),_,_,h=>h
 | .c (.bool _),_,_,h=>h
 | .t2 a b,_,hf,h=>by
  have hf:(a.flat&&b.flat)=true:=hf
  simp only[Bool.and_eq_true]at hf
  obtain⟨x,y,e,h1,h2⟩:=h
  exact⟨x,y,e,VRel.flat hf.1 h1,VRel.flat hf.2 h2⟩
 | .c .any,_,hf,_=>by cases hf
 | .c .nil,_,hf,_=>by cases hf
 | .c (.row ..),_,hf,_=>by cases hf
 | .c (.p ..),_,hf,_=>by cases hf
 | .c (.gs ..),_,hf,_=>by cases hf
 | .c (.sl ..),_,hf,_=>by cases hf
 | .c (.xp ..),_,hf,_=>by cases hf
 | .c (.fn _),_,hf,_=>by cases hf
 | .c (.str _),_,hf,_=>by cases hf
 | .c (.cl ..),_,hf,_=>by cases hf
 | .g _,_,hf,_=>by cases hf
 | .t3 ..,_,hf,_=>by cases hf
 | .t4 ..,_,hf,_=>by cases hf
 | .un,_,hf,_=>by cases hf
theorem FnM.of_int {P : Program} {r : Bool} {f : FuncId} {c : V} {X : V} {T n : Nat} {a : Nat → Int} (h : FnOK P r f [c, .c (il n a)] X) (hX : X.flat = true) (hc : c.flat = true) :
  FnM P r f ⟨T,1,n,0,0,fun i _ => .int .i64 (a i)⟩ [c,.c (.gs 0 0)] X ⟨T,1,n,0,0,fun i _ => .int .i64 (a i)⟩ []:=by
 refine⟨h.1,fun D w0 l w vs hs hargs=>?_⟩
 match vs,hargs with
 | [v0,v1],⟨h0,h1,_⟩ =>
  obtain⟨l',e1,_,hv⟩:=h1
  obtain rfl:l=l':=by cases e1;rfl
  have hat:=hs.at_ 0 l _ rfl rfl (Nat.zero_le _)
  have hv:=hv hat.1
  have h1':VRel (fun _=>False) w [] (.c (il n a)) v1:=by
   rcases hat.2 with⟨p1,p2,p3⟩ | ⟨b,cap,cs,p2,p3,p4,p5,p6,p7,p8,p9⟩
   ·have p1:n=0:=p1
    exact⟨none,0,by rw[hv,p3,p1],by omega,fun h=>by omega⟩
   ·refine⟨some ⟨b,0,none⟩,cap,by rw[hv,p4],p7,fun hn=>⟨b,0,rfl,heap_lt p5,id,fun i j hi hj=>?_⟩⟩
    obtain⟨u,hu,hr⟩:=p9 i j hi hj
    refine⟨u,?_,hr⟩
    have hu:cs[i*1+j]? = some u:=hu
    rw[Nat.mul_one]at hu
    simp only[World.cell?,p5]
    simp[hu]
  refine(h.2 (fun _=>False) w [v0,v1] (fun b hb=>hb.elim) (fun _ b o d hb=>hb.elim) ⟨VRel.flat hc h0,h1',trivial⟩).mono ?_
  rintro e w' ⟨v,rfl,hv',hb⟩
  exact⟨v,l,[],rfl,hs.ext hb,LocsLe.refl _,VRel.flat hX hv'⟩
theorem FnM.of_int1 {P : Program} {r : Bool} {f : FuncId} {X : V} {T n m : Nat} {a b : Nat → Int} (h : FnOK P r f [.c (il n a), .c (il m b)] X) (hX : X.flat = true) :
  FnM P r f ⟨T,1,n,0,0,fun i _ => .int .i64 (a i)⟩ [.c (.gs 0 0),.c (il m b)] X ⟨T,1,n,0,0,fun i _ => .int .i64 (a i)⟩ []:=by
 refine⟨h.1,fun D w0 l w vs hs hargs=>?_⟩
 match vs,hargs with
 | [v1,v0],⟨h1,h0,_⟩ =>
  obtain⟨l',e1,_,hv⟩:=h1
  obtain rfl:l=l':=by cases e1;rfl
  have hat:=hs.at_ 0 l _ rfl rfl (Nat.zero_le _)
  have hv:=hv hat.1
  have h1':VRel (fun _=>False) w [] (.c (il n a)) v1:=by
   rcases hat.2 with⟨p1,p2,p3⟩ | ⟨b,cap,cs,p2,p3,p4,p5,p6,p7,p8,p9⟩
   ·have p1:n=0:=p1
    exact⟨none,0,by rw[hv,p3,p1],by omega,fun h=>by omega⟩
   ·refine⟨some ⟨b,0,none⟩,cap,by rw[hv,p4],p7,fun hn=>⟨b,0,rfl,heap_lt p5,id,fun i j hi hj=>?_⟩⟩
    obtain⟨u,hu,hr⟩:=p9 i j hi hj
    refine⟨u,?_,hr⟩
    have hu:cs[i*1+j]? = some u:=hu
    rw[Nat.mul_one]at hu
    simp only[World.cell?,p5]
    simp[hu]
  have h0':VRel (fun _=>False) w [] (.c (il m b)) v0:=(VRel.clos (ρ':=[]) h0 rfl).step (Ext.refl _ _) (fun b _ hb=>hb.elim) (LocsLe.refl _)
  refine(h.2 (fun _=>False) w [v1,v0] (fun b hb=>hb.elim) (fun _ b o d hb=>hb.elim) ⟨h1',h0',trivial⟩).mono ?_
  rintro e w' ⟨v,rfl,hv',hb⟩
  exact⟨v,l,[],rfl,hs.ext hb,LocsLe.refl _,VRel.flat hX hv'⟩
section
variable {p:Int} [hp:Prm p]
theorem first_ex {n:Nat} (hn:1≤n):∃ J,J<p.toNat^n/\Pol.Irr (mnp n J:Pol (Zp p))/\∀ j,j<J->¬ Pol.Irr (mnp n j:Pol (Zp p)):=by
 have hex:∃ j,j<p.toNat^n/\Pol.Irr (mnp n j:Pol (Zp p)):=by
  obtain⟨P,hP,hl⟩:=ex_irr_deg (p:=p) hn
  obtain⟨M,lM,mM,g1,g2⟩:=monic_of hP.ne
  obtain⟨j,hj,e⟩:=mnp_ex (p:=p) (n:=n) (a:=M) (by omega) mM
  exact⟨j,hj,e ▸ hP.assoc g1 g2 lM⟩
 obtain⟨J,⟨h1,h2⟩,h3⟩:=ex_least hex
 exact⟨J,h1,h2,fun j hj hi=>h3 j hj ⟨by omega,hi⟩⟩
theorem irredM (hm:Fp.md p) {n j:Nat} (hn1:1≤n) (hn:n≤60):∃ b:Bool,(b=true↔Pol.Irr (mnp n j:Pol (Zp p)))/\FnOK Tryz.prog true 28 [.c (.int .i64 p),pl (mnp n j:Pol (Zp p))] (.t2 (.c (.bool b)) (.c (.int .i64 0))):=by
 have hl:=mnp_len (p:=p) n j
 have h0:(mnp n j:Pol (Zp p))≠0:=Pol.ne_of_len (by omega)
 obtain⟨L,sL,_,kF⟩:=Factor_P hm (x:=ofP (mnp n j)) (show(mnp n j:Pol (Zp p)).len≤4096 by omega) (Fp.nfL_id (ofP_NL (mnp n j) (by omega))) h0 (by omega)
 exact⟨isI L,isI_iff sL.f h0,irred_ok kF⟩
theorem mnp_pl (n j:Nat):pl (mnp n j:Pol (Zp p)) = .c (il (n+1) fun k=>((mnp n j:Pol (Zp p)).f k).v):=by
 show V.c (il (mnp n j:Pol (Zp p)).len fun i=>((mnp n j:Pol (Zp p)).f i).v)=_
 rw[mnp_len]
theorem start_cell {n k y:Nat} (hk:k<n+1) (hy:y<1):updF (zeroF [.int .i64 0]) n 0 [.int .i64 1] k y = .int .i64 ((mnp n 0:Pol (Zp p)).f k).v:=by
 obtain rfl:y=0:=by omega
 unfold updF
 by_cases e:k=n
 ·rw[if_pos ⟨e,Nat.le_refl _,by decide⟩,e,mnp_top];rfl
 ·rw[if_neg (fun h=>e h.1),mnp_v (show k<n by omega),Nat.zero_div,Nat.zero_mod];rfl
set_option maxRecDepth 100000 in
set_option maxHeartbeats 16000000 in
theorem First_ok (hm:Fp.md p) {n J:Nat} (hn1:1≤n) (hn:n≤12) (hJ:J<p.toNat^n) (hJi:Pol.Irr (mnp n J:Pol (Zp p))) (hJm:∀ j,j<J->¬ Pol.Irr (mnp n j:Pol (Zp p))):FnOK Tryz.prog true 6 [.c (.int .i64 p),.c (.int .i64 n)] (.t2 (pl (mnp n J:Pol (Zp p))) (.c (.int .i64 0))):=by
 have hm1:=hm.1
 have hm2:=hm.2.1
 have h2:=two_le (p:=p)
 have km:=(Fp.modulus_ok hm).weak (r:=true)
 have kI:∀ j,j≤J->FnM Tryz.prog true 28 ⟨3,1,n+1,0,0,fun k _ => .int .i64 ((mnp n j:Pol (Zp p)).f k).v⟩ [.c (.int .i64 p),.c (.gs 0 0)] (.t2 (.c (.bool (decide (j=J)))) (.c (.int .i64 0))) ⟨3,1,n+1,0,0,fun k _ => .int .i64 ((mnp n j:Pol (Zp p)).f k).v⟩ []:=fun j hj=>by
  obtain⟨b,hb,k⟩:=irredM hm (n:=n) (j:=j) hn1 (by omega)
  rw[mnp_pl]at k
  have e:b=decide (j=J):=by
   by_cases c:j=J
   ·rw[decide_eq_true c]
    exact hb.2 (c ▸ hJi)
   ·rw[decide_eq_false c]
    cases b with
    | true=>exact absurd (hb.1 rfl) (hJm j (by omega))
    | false=>rfl
  rw[e]at k
  exact FnM.of_int k rfl rfl
 refine fn_ok (E:=E1) E1_ok Tryz.func6 rfl mixed (by kernel_rfl) (by kernel_rfl) ?_
 conv=>whnf
 refine⟨_,km,?_⟩
 conv=>whnf
 refine bpos (show gw false (decide ((n:Int)<1))=true by rw[decide_eq_false (by omega)];rfl) ?_
 conv=>whnf
 refine bneg (show decide ((12:Int)<(n:Int))=false from decide_eq_false (by omega)) ?_
 conv=>whnf
 refine⟨Fp.i64 (by omega) (by omega),?_⟩
 conv=>whnf
 refine⟨by omega,by omega,by omega,by show(8:Int)*((n:Int)+1)≤281474976710656;omega,?_⟩
 conv=>whnf
 refine⟨by omega,by show(n:Int)<(((n:Int)+1).toNat:Int);omega,?_⟩
 conv=>whnf
 refine loop_ints (fun j:Nat=>gst [(0,.c (.int .i64 p)),(7,.c (.gs 0 0))] [⟨3,1,n+1,fun k _ => .int .i64 ((mnp n j:Pol (Zp p)).f k).v⟩]) (fun j=>J-j) (fun j=>j≤J) 0 rfl ?_ (Nat.zero_le _) fun j hj=>?_
 ·exact Weak.gen [some 0] rfl ⟨⟨_,rfl,rfl,rfl,(show((n:Int)+1).toNat=n+1 by omega),rfl,fun k y hk hy=>⟨_,start_cell (p:=p) (n:=n) hk hy,rfl⟩⟩,trivial⟩ ⟨⟨_,rfl,rfl⟩,⟨_,rfl,rfl,rfl⟩,trivial⟩
 have kI:=kI j hj
 rcases Nat.lt_or_ge j J with c | c
 ·rw[decide_eq_false (show ¬ j=J by omega)]at kI
  have hdig:=fun k (hk:k<n)=>mnp_v (p:=p) (n:=n) (j:=j) hk
  have hq:(p.toNat:Int)=p:=by omega
  have hcar:=fun i=>carry h2 i j
  have htop:=all_top h2 n j (by omega)
  have hfin:¬ ∀ k,k<n->j / p.toNat^k%p.toNat=p.toNat-1:=fun hx=>by have:=htop hx;omega
  have e0:∀ k,((mnp n j:Pol (Zp p)).f k).v=nxF (p:=p) n j 0 k:=fun k=>(if_neg (Nat.not_lt_zero k)).symm
  conv=>whnf
  refine .inl ⟨[],false,?_⟩
  conv=>whnf
  refine⟨0,_,[.c (.int .i64 p),.c (.gs 0 0)],_,_,[],kI,rfl,.inl rfl,fun _ _ _ _ _=>rfl,fun _ _ _ _ _=>rfl,fun F hF=>absurd hF List.not_mem_nil,rfl,rfl,?_⟩
  conv=>whnf
  refine loop_ints (fun i:Nat=>gst [(0,.c (.int .i64 p)),(7,.c (.gs 0 0)),(10,.c (.int .i64 i))] [⟨3,1,n+1,fun k _ => .int .i64 (nxF (p:=p) n j i k)⟩]) (fun i=>n-i) (fun i=>i≤n/\∀ k,k<i->j / p.toNat^k%p.toNat=p.toNat-1) 0 rfl ?_ ⟨Nat.zero_le _,fun k hk=>absurd hk (Nat.not_lt_zero k)⟩ fun i hi=>?_
  ·exact Weak.gen [some 0] rfl ⟨⟨_,rfl,rfl,rfl,rfl,rfl,fun k y hk hy=>⟨_,congrArg (Cell.int .i64) (e0 k),rfl⟩⟩,trivial⟩ ⟨⟨_,rfl,rfl⟩,⟨_,rfl,rfl,rfl⟩,⟨_,rfl,rfl⟩,trivial⟩
  obtain⟨hi1,hi2⟩:=hi
  have hlt:i<n:=by
   rcases Nat.lt_or_ge i n with h | h
   ·exact h
   ·exact absurd (fun k hk=>hi2 k (by omega)) hfin
  have hd:=hdig i hlt
  have hnx:nxF (p:=p) n j i i=((j / p.toNat^i%p.toNat:Nat):Int):=(if_neg (Nat.lt_irrefl i)).trans hd
  have hdl:j / p.toNat^i%p.toNat<p.toNat:=Nat.mod_lt _ (by omega)
  have hr1 : -9223372036854775808≤nxF (p:=p) n j i i+1:=by rw[hnx];omega
  have hr2:nxF (p:=p) n j i i+1<9223372036854775808:=by rw[hnx];omega
  have hcar:=hcar i hi2
  by_cases cc:j / p.toNat^i%p.toNat+1<p.toNat
  ·have hres:∀ k,k<n+1->(if k=i then nxF (p:=p) n j i i+1 else nxF (p:=p) n j i k)=((mnp n (j+1):Pol (Zp p)).f k).v:=fun k hk=>by
    rcases Nat.lt_or_ge k n with h3 | h3
    ·rw[mnp_v h3,hcar cc k]
     by_cases e:k=i
     ·rw[if_pos e,hnx,if_neg (show ¬ k<i by omega),if_pos e,e];omega
     ·rw[if_neg e]
      unfold nxF
      by_cases e2:k<i
      ·rw[if_pos e2,if_pos e2];rfl
      ·rw[if_neg e2,if_neg e2,if_neg e,mnp_v h3]
    ·obtain rfl:k=n:=by omega
     rw[if_neg (show ¬ k=i by omega),mnp_top]
     unfold nxF
     rw[if_neg (show ¬ k<i by omega),mnp_top]
   conv=>whnf
   refine⟨by omega,by show(i:Int)<((n+1:Nat):Int);omega,?_⟩
   conv=>whnf
   refine⟨Fp.i64 (by omega) (by omega),?_⟩
   conv=>whnf
   refine bneg (show decide (nxF (p:=p) n j i (i:Int).toNat=p-1)=false from decide_eq_false (by rw[show(i:Int).toNat=i from rfl,hnx];omega)) ?_
   conv=>whnf
   refine⟨by omega,by show(i:Int)<((n+1:Nat):Int);omega,?_⟩
   conv=>whnf
   refine⟨Fp.i64 hr1 hr2,?_⟩
   conv=>whnf
   refine⟨by omega,by show(i:Int)<((n+1:Nat):Int);omega,?_⟩
   conv=>whnf
   exact⟨j+1,by omega,Weak.gen [some 0] rfl ⟨⟨_,rfl,rfl,rfl,rfl,rfl,fun k y hk hy=>⟨_,updI' (f:=nxF (p:=p) n j i) (g:=fun k=>((mnp n (j+1):Pol (Zp p)).f k).v) (hres k hk) hy,rfl⟩⟩,trivial⟩ ⟨⟨_,rfl,rfl⟩,⟨_,rfl,rfl,rfl⟩,trivial⟩,by omega⟩
  ·conv=>whnf
   refine⟨by omega,by show(i:Int)<((n+1:Nat):Int);omega,?_⟩
   conv=>whnf
   refine⟨Fp.i64 (by omega) (by omega),?_⟩
   conv=>whnf
   refine bpos (show decide (nxF (p:=p) n j i (i:Int).toNat=p-1)=true from decide_eq_true (by rw[show(i:Int).toNat=i from rfl,hnx];omega)) ?_
   conv=>whnf
   refine⟨by omega,by show(i:Int)<((n+1:Nat):Int);omega,?_⟩
   conv=>whnf
   refine⟨Fp.i64 (by omega) (by omega),?_⟩
   conv=>whnf
   refine⟨i+1,by omega,Weak.gen [some 0] rfl ⟨⟨_,rfl,rfl,rfl,rfl,rfl,fun k y hk hy=>⟨_,updI' (f:=nxF (p:=p) n j i) (g:=nxF (p:=p) n j (i+1)) ?_ hy,rfl⟩⟩,trivial⟩ ⟨⟨_,rfl,rfl⟩,⟨_,rfl,rfl,rfl⟩,⟨_,rfl,rfl⟩,trivial⟩,by omega,fun k hk=>?_⟩
   ·show(if k=(i:Int).toNat then 0 else nxF (p:=p) n j i k)=nxF (p:=p) n j (i+1) k
    unfold nxF
    by_cases e:k=i
    ·rw[if_pos (show k=(i:Int).toNat from e),if_pos (show k<i+1 by omega)]
    ·rw[if_neg (show ¬ k=(i:Int).toNat from e)]
     by_cases e2:k<i
     ·rw[if_pos e2,if_pos (show k<i+1 by omega)]
     ·rw[if_neg e2,if_neg (show ¬ k<i+1 by omega)]
   ·rcases Nat.lt_or_ge k i with h3 | h3
    ·exact hi2 k h3
    ·rw[show k=i by omega];omega
 ·obtain rfl:j=J:=by omega
  rw[decide_eq_true rfl]at kI
  conv=>whnf
  refine .inl ⟨[],false,?_⟩
  conv=>whnf
  refine⟨0,_,[.c (.int .i64 p),.c (.gs 0 0)],_,_,[],kI,rfl,.inl rfl,fun _ _ _ _ _=>rfl,fun _ _ _ _ _=>rfl,fun F hF=>absurd hF List.not_mem_nil,rfl,rfl,?_⟩
  conv=>whnf
  refine⟨fun k y hk hy=>rfl,?_⟩
  conv=>whnf
  exact⟨rfl,subT2 (subRowG (mnp_len n j).symm fun k y hk hy=>rfl) (Sub.refl _)⟩
end
end Go.Proofs.YtibaocbpeaejkaaGreat
/- The document's Count; the errors of First and Count. -/
namespace Go.Proofs.YtibaocbpeaejkaaGreat
open Go.RowKit
namespace Cn
open Rf
set_option maxHeartbeats 16000000 in
theorem rcount_ok {q n:Nat} (hm:Fp.md (q:Int)) (hn1:1≤n) (hn:n≤64):FnOK Tryz.prog false 17 [.c (.int .i64 q),.c (.int .i64 n)] (.g (nz (cnt q n))):=by
 have hm1:=hm.1
 have hm2:=hm.2.1
 have kD:=rdv_at hn1 hn
 have hN:=dvs_len hn
 have hdv:=fun i hi=>dvs_mem (n:=n) (i:=i) hi
 have k0:=rof_ok (x:=0) (by decide) (by decide)
 have kq:=rof_ok (x:=(q:Int)) (by omega) (by omega)
 have kn:=rof_ok (x:=(n:Int)) (by omega) (by omega)
 have hz:=fun i hi=>gs_zl (q:=q) (n:=n) (by omega) hn (i:=i) hi
 have ht:=fun i hi=>term_zl (q:=q) (n:=n) (by omega) hn (i:=i) hi
 have hzn:zlen (n:Int)≤1:=zlen_nat n 1 (by rw[Nat.pow_one];omega)
 have kx:=zdiv_c (x:=tot q n) (y:=(n:Int)) (by have:=hz _ (Nat.le_refl _);show zlen (gs q n (dvs n).length)≤524286;omega) (by omega) (by omega)
 have kM:=fun i (hi:i<(dvs n).length)=>rmb_at (n:=dvf n i) (hdv i hi).1 (by have:=(hdv i hi).2.1;omega)
 have kP:=fun i (hi:i<(dvs n).length)=>raised_ok (x:=q) (n:=n / dvf n i) (by omega) (by have:=Nat.div_le_self n (dvf n i);omega)
 have kO:=fun i (hi:i<(dvs n).length)=>rof_ok (x:=muf (dvf n i)) (by have:=muf_le (dvf n i) (by have:=(hdv i hi).2.1;omega);omega) (by have:=muf_le (dvf n i) (by have:=(hdv i hi).2.1;omega);omega)
 have kW:=fun i (hi:i<(dvs n).length)=>zmul_c (a:=muf (dvf n i)) (b:=((q^(n / dvf n i):Nat):Int)) (by have:=ht i hi;omega)
 have kA:=fun i (hi:i<(dvs n).length)=>zadd_c (x:=gs q n i) (y:=muf (dvf n i)*((q^(n / dvf n i):Nat):Int)) (by have:=hz i (by omega);omega) (by have:=ht i hi;omega)
 have eT:=fun i (hi:i<(dvs n).length)=>show Int.tdiv (n:Int) (dvf n i:Int)=((n / dvf n i:Nat):Int)by
  rw[Int.tdiv_eq_ediv_of_nonneg (by omega)];exact(Int.natCast_ediv n (dvf n i)).symm
 refine fn_ok (E:=E0) E0_ok Tryz.func17 rfl mixed (by kernel_rfl) (by kernel_rfl) ?_
 conv=>whnf
 refine⟨_,k0,?_⟩
 conv=>whnf
 refine⟨_,kD,?_⟩
 conv=>whnf
 refine loop_ints (fun i:Nat=>gst [(0,.c (.int .i64 q)),(1,.c (.int .i64 n)),(4,.c (.p 0 0 2 0 0)),(5,.c (.p 1 0 2 0 0)),(6,.c (il (dvs n).length fun i=>(dvf n i:Int))),(7,.c (.int .i64 i))] [⟨30,2,1,boxF [.bool false,.nil]⟩,⟨30,2,1,boxF (nz (gs q n i))⟩]) (fun i=>(dvs n).length-i) (fun i=>i≤(dvs n).length) 0 rfl ?start (Nat.zero_le _) ?round
 case start =>
  exact Weak.gen [some 0,some 1] rfl ⟨Rf.boxK rfl rfl,Rf.boxU rfl rfl rfl,trivial⟩ ⟨⟨_,rfl,rfl⟩,⟨_,rfl,rfl⟩,⟨_,rfl,rfl,rfl⟩,⟨_,rfl,rfl,rfl⟩,.inl ⟨_,_,rfl,rfl,fun _ _ _ _=>rfl⟩,⟨_,rfl,rfl⟩,trivial⟩
 case round =>
  intro i hi
  by_cases hlt:i<(dvs n).length
  ·have hdv:=hdv i hlt
   have kM:=kM i hlt
   have kP:=kP i hlt
   have kO:=kO i hlt
   have kW:=kW i hlt
   have kA:=kA i hlt
   have eT:=eT i hlt
   rw[← eT]at kP
   have hT : -9223372036854775808≤Int.tdiv (n:Int) (dvf n i:Int)/\Int.tdiv (n:Int) (dvf n i:Int)<9223372036854775808:=by
    rw[eT];have:=Nat.div_le_self n (dvf n i);have:=Int.natCast_nonneg (n / dvf n i);omega
   conv=>whnf
   refine bpos (show decide ((i:Int)<((dvs n).length:Nat))=true from decide_eq_true (by omega)) ?_
   conv=>whnf
   refine⟨by omega,by show(i:Int)<((dvs n).length:Nat);omega,?_⟩
   conv=>whnf
   refine⟨_,kM,?_⟩
   conv=>whnf
   refine⟨_,kO,?_⟩
   conv=>whnf
   refine⟨_,kq,?_⟩
   conv=>whnf
   refine⟨by omega,by show(i:Int)<((dvs n).length:Nat);omega,?_⟩
   conv=>whnf
   refine⟨by show((dvf n i:Nat):Int)≠0;omega,hT,?_⟩
   conv=>whnf
   refine⟨_,kP,?_⟩
   conv=>whnf
   refine⟨_,kW,?_⟩
   conv=>whnf
   refine⟨_,kA,?_⟩
   conv=>whnf
   refine⟨Fp.i64 (by omega) (by omega),?_⟩
   conv=>whnf
   exact⟨i+1,by omega,Weak.gen [some 0,some 1] rfl ⟨Rf.boxK rfl rfl,Rf.boxU rfl rfl rfl,trivial⟩ ⟨⟨_,rfl,rfl⟩,⟨_,rfl,rfl⟩,⟨_,rfl,rfl,rfl⟩,⟨_,rfl,rfl,rfl⟩,.inl ⟨_,_,rfl,rfl,fun _ _ _ _=>rfl⟩,⟨_,rfl,rfl⟩,trivial⟩,by omega⟩
  ·obtain rfl:i=(dvs n).length:=by omega
   conv=>whnf
   refine bneg (show decide (((dvs n).length:Int)<((dvs n).length:Nat))=false from decide_eq_false (by omega)) ?_
   conv=>whnf
   refine⟨_,kn,?_⟩
   conv=>whnf
   refine⟨_,kx,?_⟩
   conv=>whnf
   exact⟨rfl,Sub.refl _⟩
set_option maxHeartbeats 16000000 in
theorem count_bad {p n:Int} (hm:¬ Fp.md p):FnOK Tryz.prog true 7 [.c (.int .i64 p),.c (.int .i64 n)] (.t2 (.g [.bool false,.nil]) (.c (.int .i64 8))):=by
 have km:=(Fp.modulus_bad hm).weak (r:=true)
 refine fn_ok (E:=E1) E1_ok Tryz.func7 rfl mixed (by kernel_rfl) (by kernel_rfl) ?_
 conv=>whnf
 refine⟨_,km,?_⟩
 conv=>whnf
 exact⟨rfl,Sub.refl _⟩
set_option maxHeartbeats 16000000 in
theorem count_out {p n:Int} (hm:Fp.md p) (h:n<1∨64<n):FnOK Tryz.prog true 7 [.c (.int .i64 p),.c (.int .i64 n)] (.t2 (.g [.bool false,.nil]) (.c (.int .i64 2))):=by
 have km:=(Fp.modulus_ok hm).weak (r:=true)
 refine fn_ok (E:=E1) E1_ok Tryz.func7 rfl mixed (by kernel_rfl) (by kernel_rfl) ?_
 conv=>whnf
 refine⟨_,km,?_⟩
 conv=>whnf
 by_cases h1:n<1
 ·refine bneg (show gw false (decide (n<1))=false by rw[decide_eq_true h1];rfl) ?_
  conv=>whnf
  exact⟨rfl,Sub.refl _⟩
 ·refine bpos (show gw false (decide (n<1))=true by rw[decide_eq_false h1];rfl) ?_
  conv=>whnf
  refine bpos (show decide (64<n)=true from decide_eq_true (by omega)) ?_
  conv=>whnf
  exact⟨rfl,Sub.refl _⟩
set_option maxHeartbeats 16000000 in
theorem first_bad {p n:Int} (hm:¬ Fp.md p):FnOK Tryz.prog true 6 [.c (.int .i64 p),.c (.int .i64 n)] (.t2 (.c .nil) (.c (.int .i64 8))):=by
 have km:=(Fp.modulus_bad hm).weak (r:=true)
 refine fn_ok (E:=E1) E1_ok Tryz.func6 rfl mixed (by kernel_rfl) (by kernel_rfl) ?_
 conv=>whnf
 refine⟨_,km,?_⟩
 conv=>whnf
 exact⟨rfl,Sub.refl _⟩
set_option maxHeartbeats 16000000 in
theorem first_out {p n:Int} (hm:Fp.md p) (h:n<1∨12<n):FnOK Tryz.prog true 6 [.c (.int .i64 p),.c (.int .i64 n)] (.t2 (.c .nil) (.c (.int .i64 2))):=by
 have km:=(Fp.modulus_ok hm).weak (r:=true)
 refine fn_ok (E:=E1) E1_ok Tryz.func6 rfl mixed (by kernel_rfl) (by kernel_rfl) ?_
 conv=>whnf
 refine⟨_,km,?_⟩
 conv=>whnf
 by_cases h1:n<1
 ·refine bneg (show gw false (decide (n<1))=false by rw[decide_eq_true h1];rfl) ?_
  conv=>whnf
  exact⟨rfl,Sub.refl _⟩
 ·refine bpos (show gw false (decide (n<1))=true by rw[decide_eq_false h1];rfl) ?_
  conv=>whnf
  refine bpos (show decide (12<n)=true from decide_eq_true (by omega)) ?_
  conv=>whnf
  exact⟨rfl,Sub.refl _⟩
end Cn
end Go.Proofs.YtibaocbpeaejkaaGreat
/- The law's look at what lies ahead of the first irreducible polynomial. -/
namespace Go.Proofs.YtibaocbpeaejkaaGreat
open Go.RowKit
namespace Cn
theorem copy_cell {f g:Nat->Nat->Cell} (k y:Nat):appF 0 f g k y=g k y:=by
  unfold appF
  rw[if_neg (Nat.not_lt_zero k),Nat.sub_zero]
section
variable {p:Int} [hp:Prm p]
set_option maxRecDepth 100000 in
set_option maxHeartbeats 16000000 in
theorem least_ok (hm:Fp.md p) {n J:Nat} (hn1:1≤n) (hn:n≤12) (hJ:J<p.toNat^n) (hJm:∀ j,j<J->¬ Pol.Irr (mnp n j:Pol (Zp p))):FnOK Tryz.prog true 11 [.c (.int .i64 p),pl (mnp n J:Pol (Zp p))] (.c (.bool true)):=by
  have hm1:=hm.1
  have hm2:=hm.2.1
  have h2:=two_le (p:=p)
  rw[mnp_pl]
  have kB:∀ j,j≤J->FnM Tryz.prog true 42 ⟨3,1,n+1,0,0,fun k _ => .int .i64 ((mnp n j:Pol (Zp p)).f k).v⟩ [.c (.gs 0 0),.c (il (n+1) fun k=>((mnp n J:Pol (Zp p)).f k).v)] (.c (.bool (decide (j<J)))) ⟨3,1,n+1,0,0,fun k _ => .int .i64 ((mnp n j:Pol (Zp p)).f k).v⟩ []:=fun j hj=>by
    have k:=(before_ok (a:=(mnp n j:Pol (Zp p))) (b:=(mnp n J:Pol (Zp p))) (by rw[mnp_len];omega) (by rw[mnp_len];omega)).weak (r:=true)
    rw[mnp_pl,mnp_pl]at k
    have e:decide (cmpP (mnp n j:Pol (Zp p)) (mnp n J)<0)=decide (j<J):=by
      rcases Nat.lt_or_ge j J with c | c
      · rw[decide_eq_true c,decide_eq_true (mnp_cmp (by omega) hJ c)]
      · obtain rfl:j=J:=by omega
        rw[decide_eq_false (Nat.lt_irrefl j),decide_eq_false fun h=>cmp_irr h]
    rw[e]at k
    exact FnM.of_int1 k rfl
  have kI:∀ j,j<J->FnM Tryz.prog true 10 ⟨3,1,n+1,0,0,fun k _ => .int .i64 ((mnp n j:Pol (Zp p)).f k).v⟩ [.c (.int .i64 p),.c (.gs 0 0)] (.c (.bool false)) ⟨3,1,n+1,0,0,fun k _ => .int .i64 ((mnp n j:Pol (Zp p)).f k).v⟩ []:=fun j hj=>by
    have k:=(rirr_red hm (g:=(mnp n j:Pol (Zp p))) (by rw[mnp_len];omega) (by rw[mnp_len];omega) (hJm j hj)).weak (r:=true)
    rw[mnp_pl]at k
    exact FnM.of_int k rfl rfl
  refine fn_ok (E:=E1) E1_ok Tryz.func11 rfl mixed (by kernel_rfl) (by kernel_rfl) ?_
  conv=>whnf
  refine⟨by show 0+(n+1)≤16777216;omega,fun x y hx hy=>⟨rfl,fun _=>rfl⟩,?_⟩
  conv=>whnf
  refine loop_ints (fun i:Nat=>gst [(0,.c (.int .i64 p)),(1,.c (il (n+1) fun k=>((mnp n J:Pol (Zp p)).f k).v)),(5,.c (.gs 0 0)),(6,.c (.int .i64 i))] [⟨3,1,n+1,fun k _ => .int .i64 (if k<i then 0 else((mnp n J:Pol (Zp p)).f k).v)⟩]) (fun i=>n-i) (fun i=>i≤n) 0 rfl ?start1 (Nat.zero_le _) ?round1
  case start1 =>
    exact Weak.gen [some 0] rfl ⟨⟨_,rfl,rfl,rfl,(show 0+(n+1)=n+1 by omega),rfl,fun k y hk hy=>⟨_,(copy_cell (f:=rowF 1 []) (g:=fun k _ => .int .i64 ((mnp n J:Pol (Zp p)).f k).v) k y).trans (congrArg (Cell.int .i64) (if_neg (Nat.not_lt_zero k)).symm),rfl⟩⟩,trivial⟩ ⟨⟨_,rfl,rfl⟩,.inl ⟨_,_,rfl,rfl,fun _ _ _ _=>rfl⟩,⟨_,rfl,rfl,rfl⟩,⟨_,rfl,rfl⟩,trivial⟩
  case round1 =>
    intro i hi
    by_cases hlt:i<n
    · have hup:∀ k,(if k=i then 0 else if k<i then 0 else((mnp n J:Pol (Zp p)).f k).v)=if k<i+1 then 0 else((mnp n J:Pol (Zp p)).f k).v:=fun k=>by
        by_cases c:k=i
        · rw[if_pos c,if_pos (by omega)]
        · rw[if_neg c]
          by_cases c2:k<i
          · rw[if_pos c2,if_pos (by omega)]
          · rw[if_neg c2,if_neg (by omega)]
      conv=>whnf
      refine⟨Fp.i64 (by show -9223372036854775808≤((n+1:Nat):Int)-1;omega) (by show((n+1:Nat):Int)-1<9223372036854775808;omega),?_⟩
      conv=>whnf
      refine bpos (show decide ((i:Int)<((n+1:Nat):Int)-1)=true from decide_eq_true (by omega)) ?_
      conv=>whnf
      refine⟨by omega,by show(i:Int)<((n+1:Nat):Int);omega,?_⟩
      conv=>whnf
      refine⟨Fp.i64 (by omega) (by omega),?_⟩
      conv=>whnf
      exact⟨i+1,by omega,Weak.gen [some 0] rfl ⟨⟨_,rfl,rfl,rfl,rfl,rfl,fun k y hk hy=>⟨_,updI' (f:=fun k=>if k<i then 0 else((mnp n J:Pol (Zp p)).f k).v) (g:=fun k=>if k<i+1 then 0 else((mnp n J:Pol (Zp p)).f k).v) (hup k) hy,rfl⟩⟩,trivial⟩ ⟨⟨_,rfl,rfl⟩,.inl ⟨_,_,rfl,rfl,fun _ _ _ _=>rfl⟩,⟨_,rfl,rfl,rfl⟩,⟨_,rfl,rfl⟩,trivial⟩,by omega⟩
    · have e:i=n:=by omega
      subst e
      have h0:∀ k,k<i+1->(if k<i then 0 else((mnp i J:Pol (Zp p)).f k).v)=((mnp i 0:Pol (Zp p)).f k).v:=fun k hk=>by
        by_cases c:k<i
        · rw[if_pos c,mnp_v c,Nat.zero_div,Nat.zero_mod];rfl
        · rw[if_neg c,show k=i by omega,mnp_top,mnp_top]
      conv=>whnf
      refine⟨Fp.i64 (by show -9223372036854775808≤((i+1:Nat):Int)-1;omega) (by show((i+1:Nat):Int)-1<9223372036854775808;omega),?_⟩
      conv=>whnf
      refine bneg (show decide ((i:Int)<((i+1:Nat):Int)-1)=false from decide_eq_false (by omega)) ?_
      conv=>whnf
      refine loop_ints (fun j:Nat=>gst [(0,.c (.int .i64 p)),(1,.c (il (i+1) fun k=>((mnp i J:Pol (Zp p)).f k).v)),(5,.c (.gs 0 0)),(7,.c (.int .i64 j))] [⟨3,1,i+1,fun k _ => .int .i64 ((mnp i j:Pol (Zp p)).f k).v⟩]) (fun j=>J-j) (fun j=>j≤J/\j≤400) 0 rfl ?start2 ⟨Nat.zero_le _,Nat.zero_le _⟩ ?round2
      case start2 =>
        exact Weak.gen [some 0] rfl ⟨⟨_,rfl,rfl,rfl,rfl,rfl,fun k y hk hy=>⟨_,congrArg (Cell.int .i64) (h0 k hk),rfl⟩⟩,trivial⟩ ⟨⟨_,rfl,rfl⟩,.inl ⟨_,_,rfl,rfl,fun _ _ _ _=>rfl⟩,⟨_,rfl,rfl,rfl⟩,⟨_,rfl,rfl⟩,trivial⟩
      case round2 =>
        rintro j ⟨hj,hj4⟩
        by_cases h4:j<400
        · have kB:=kB j hj
          rcases Nat.lt_or_ge j J with c | c
          · rw[decide_eq_true c]at kB
            have kI:=kI j c
            have hdig:=fun k (hk:k<i)=>mnp_v (p:=p) (n:=i) (j:=j) hk
            have hq:(p.toNat:Int)=p:=by omega
            have hcar:=fun a=>carry h2 a j
            have htop:=all_top h2 i j (by omega)
            have hfin:¬ ∀ k,k<i->j / p.toNat^k%p.toNat=p.toNat-1:=fun hx=>by have:=htop hx;omega
            have e0:∀ k,((mnp i j:Pol (Zp p)).f k).v=nxF (p:=p) i j 0 k:=fun k=>(if_neg (Nat.not_lt_zero k)).symm
            conv=>whnf
            refine bpos (show gw true (decide ((j:Int)<400))=true by rw[decide_eq_true (by omega)];rfl) ?_
            conv=>whnf
            refine .inl ?_
            conv=>whnf
            refine⟨[],false,?_⟩
            conv=>whnf
            refine⟨0,_,[.c (.gs 0 0),.c (il (i+1) fun k=>((mnp i J:Pol (Zp p)).f k).v)],_,_,[],kB,rfl,.inl rfl,fun _ _ _ _ _=>rfl,fun _ _ _ _ _=>rfl,fun F hF=>absurd hF List.not_mem_nil,rfl,rfl,?_⟩
            conv=>whnf
            refine .inl ⟨[],false,?_⟩
            conv=>whnf
            refine⟨0,_,[.c (.int .i64 p),.c (.gs 0 0)],_,_,[],kI,rfl,.inl rfl,fun _ _ _ _ _=>rfl,fun _ _ _ _ _=>rfl,fun F hF=>absurd hF List.not_mem_nil,rfl,rfl,?_⟩
            conv=>whnf
            refine loop_ints (fun a:Nat=>gst [(0,.c (.int .i64 p)),(1,.c (il (i+1) fun k=>((mnp i J:Pol (Zp p)).f k).v)),(5,.c (.gs 0 0)),(7,.c (.int .i64 j)),(8,.c (.int .i64 a))] [⟨3,1,i+1,fun k _ => .int .i64 (nxF (p:=p) i j a k)⟩]) (fun a=>i-a) (fun a=>a≤i/\∀ k,k<a->j / p.toNat^k%p.toNat=p.toNat-1) 0 rfl ?start3 ⟨Nat.zero_le _,fun k hk=>absurd hk (Nat.not_lt_zero k)⟩ ?round3
            case start3 =>
              exact Weak.gen [some 0] rfl ⟨⟨_,rfl,rfl,rfl,rfl,rfl,fun k y hk hy=>⟨_,congrArg (Cell.int .i64) (e0 k),rfl⟩⟩,trivial⟩ ⟨⟨_,rfl,rfl⟩,.inl ⟨_,_,rfl,rfl,fun _ _ _ _=>rfl⟩,⟨_,rfl,rfl,rfl⟩,⟨_,rfl,rfl⟩,⟨_,rfl,rfl⟩,trivial⟩
            case round3 =>
              rintro a ⟨ha1,ha2⟩
              have hlt:a<i:=by
                rcases Nat.lt_or_ge a i with h | h
                · exact h
                · exact absurd (fun k hk=>ha2 k (by omega)) hfin
              have hd:=hdig a hlt
              have hnx:nxF (p:=p) i j a a=((j / p.toNat^a%p.toNat:Nat):Int):=(if_neg (Nat.lt_irrefl a)).trans hd
              have hdl:j / p.toNat^a%p.toNat<p.toNat:=Nat.mod_lt _ (by omega)
              have hr1 : -9223372036854775808≤nxF (p:=p) i j a a+1:=by rw[hnx];omega
              have hr2:nxF (p:=p) i j a a+1<9223372036854775808:=by rw[hnx];omega
              have hcar:=hcar a ha2
              have q1 : -9223372036854775808≤((i+1:Nat):Int)-1:=by omega
              have q2:((i+1:Nat):Int)-1<9223372036854775808:=by omega
              have h12:a=0∨a=1∨a=2∨a=3∨a=4∨a=5∨a=6∨a=7∨a=8∨a=9∨a=10∨a=11:=by omega
              by_cases cc:j / p.toNat^a%p.toNat+1<p.toNat
              · have env:Int.tmod (nxF (p:=p) i j a a+1) p=((j / p.toNat^a%p.toNat:Nat):Int)+1:=by
                  rw[hnx,Int.tmod_eq_emod_of_nonneg (by omega),Int.emod_eq_of_lt (by omega) (by omega)]
                have hA:decide (0<Int.tmod (nxF (p:=p) i j a a+1) p)=true:=decide_eq_true (by rw[env];omega)
                have hres:∀ k,k<i+1->(if k=a then Int.tmod (nxF (p:=p) i j a a+1) p else nxF (p:=p) i j a k)=((mnp i (j+1):Pol (Zp p)).f k).v:=fun k hk=>by
                  rcases Nat.lt_or_ge k i with h3 | h3
                  · rw[mnp_v h3,hcar cc k]
                    by_cases e:k=a
                    · rw[if_pos e,env,if_neg (show ¬ k<a by omega),if_pos e,e];omega
                    · rw[if_neg e]
                      unfold nxF
                      by_cases e2:k<a
                      · rw[if_pos e2,if_pos e2];rfl
                      · rw[if_neg e2,if_neg e2,if_neg e,mnp_v h3]
                  · obtain rfl:k=i:=by omega
                    rw[if_neg (show ¬ k=a by omega),mnp_top]
                    unfold nxF
                    rw[if_neg (show ¬ k<a by omega),mnp_top]
                have hU:∀ k y,k<i+1->y<1->updF (fun k _ => .int .i64 (nxF (p:=p) i j a k)) a 0 [.int .i64 (Int.tmod (nxF (p:=p) i j a a+1) p)] k y = .int .i64 ((mnp i (j+1):Pol (Zp p)).f k).v:=fun k y hk hy=>updI' (g:=fun k=>((mnp i (j+1):Pol (Zp p)).f k).v) (hres k hk) hy
                clear hnx hcar hd hdl env cc
                rcases h12 with rfl | rfl | rfl | rfl | rfl | rfl | rfl | rfl | rfl | rfl | rfl | rfl <;>
                (conv => whnf
                 refine⟨Fp.i64 q1 q2,?_⟩
                 conv=>whnf
                 refine bpos (show decide (_<((i+1:Nat):Int)-1)=true from decide_eq_true (by omega)) ?_
                 conv=>whnf
                 refine⟨by omega,by show _<((i+1:Nat):Int);omega,?_⟩
                 conv=>whnf
                 refine⟨Fp.i64 hr1 hr2,?_⟩
                 conv=>whnf
                 refine⟨by omega,?_⟩
                 conv=>whnf
                 refine⟨by omega,by show _<((i+1:Nat):Int);omega,?_⟩
                 conv=>whnf
                 refine⟨by omega,by show _<((i+1:Nat):Int);omega,?_⟩
                 conv=>whnf
                 refine bpos hA ?_
                 conv=>whnf
                 refine⟨Fp.i64 (by omega) (by omega),?_⟩
                 conv=>whnf
                 exact⟨j+1,by omega,Weak.gen [some 0] rfl ⟨⟨_,rfl,rfl,rfl,rfl,rfl,fun k y hk hy=>⟨_,hU k y hk hy,rfl⟩⟩,trivial⟩ ⟨⟨_,rfl,rfl⟩,.inl ⟨_,_,rfl,rfl,fun _ _ _ _=>rfl⟩,⟨_,rfl,rfl,rfl⟩,⟨_,rfl,rfl⟩,trivial⟩,by omega,by omega⟩)
              · have env:Int.tmod (nxF (p:=p) i j a a+1) p=0:=by
                  rw[hnx,show((j / p.toNat^a%p.toNat:Nat):Int)+1=p by omega]
                  exact Int.tmod_self
                obtain⟨b,eb⟩:∃ b,b=a+1:=⟨_,rfl⟩
                have hA:decide (0<Int.tmod (nxF (p:=p) i j a a+1) p)=false:=decide_eq_false (by rw[env];omega)
                have hres:∀ k,(if k=a then Int.tmod (nxF (p:=p) i j a a+1) p else nxF (p:=p) i j a k)=nxF (p:=p) i j b k:=fun k=>by
                  by_cases e:k=a
                  · rw[if_pos e,env]
                    unfold nxF
                    rw[if_pos (show k<b by omega)]
                  · rw[if_neg e]
                    unfold nxF
                    by_cases e2:k<a
                    · rw[if_pos e2,if_pos (show k<b by omega)]
                    · rw[if_neg e2,if_neg (show ¬ k<b by omega)]
                have hB:∀ k,k<b->j / p.toNat^k%p.toNat=p.toNat-1:=fun k hk=>by
                  rcases Nat.lt_or_ge k a with h3 | h3
                  · exact ha2 k h3
                  · rw[show k=a by omega];omega
                have hU:∀ k y,y<1->updF (fun k _ => .int .i64 (nxF (p:=p) i j a k)) a 0 [.int .i64 (Int.tmod (nxF (p:=p) i j a a+1) p)] k y = .int .i64 (nxF (p:=p) i j b k):=fun k y hy=>updI' (g:=nxF (p:=p) i j b) (hres k) hy
                clear hnx hcar hd hdl env cc
                rcases h12 with rfl | rfl | rfl | rfl | rfl | rfl | rfl | rfl | rfl | rfl | rfl | rfl <;>
                (conv => whnf
                 refine⟨Fp.i64 q1 q2,?_⟩
                 conv=>whnf
                 refine bpos (show decide (_<((i+1:Nat):Int)-1)=true from decide_eq_true (by omega)) ?_
                 conv=>whnf
                 refine⟨by omega,by show _<((i+1:Nat):Int);omega,?_⟩
                 conv=>whnf
                 refine⟨Fp.i64 hr1 hr2,?_⟩
                 conv=>whnf
                 refine⟨by omega,?_⟩
                 conv=>whnf
                 refine⟨by omega,by show _<((i+1:Nat):Int);omega,?_⟩
                 conv=>whnf
                 refine⟨by omega,by show _<((i+1:Nat):Int);omega,?_⟩
                 conv=>whnf
                 refine bneg hA ?_
                 conv=>whnf
                 refine⟨Fp.i64 (by omega) (by omega),?_⟩
                 conv=>whnf
                 exact⟨b,by omega,Weak.gen [some 0] rfl ⟨⟨_,rfl,rfl,rfl,rfl,rfl,fun k y hk hy=>⟨_,hU k y hy,rfl⟩⟩,trivial⟩ ⟨⟨_,rfl,rfl⟩,.inl ⟨_,_,rfl,rfl,fun _ _ _ _=>rfl⟩,⟨_,rfl,rfl,rfl⟩,⟨_,rfl,rfl⟩,⟨_,rfl,by omega⟩,trivial⟩,by omega,hB⟩)
          · obtain rfl:j=J:=by omega
            rw[decide_eq_false (Nat.lt_irrefl j)]at kB
            conv=>whnf
            refine bpos (show gw true (decide ((j:Int)<400))=true by rw[decide_eq_true (by omega)];rfl) ?_
            conv=>whnf
            refine .inl ?_
            conv=>whnf
            refine⟨[],false,?_⟩
            conv=>whnf
            refine⟨0,_,[.c (.gs 0 0),.c (il (i+1) fun k=>((mnp i j:Pol (Zp p)).f k).v)],_,_,[],kB,rfl,.inl rfl,fun _ _ _ _ _=>rfl,fun _ _ _ _ _=>rfl,fun F hF=>absurd hF List.not_mem_nil,rfl,rfl,?_⟩
            conv=>whnf
            exact⟨rfl,Sub.refl _⟩
        · conv=>whnf
          refine bneg (show gw true (decide ((j:Int)<400))=false by rw[decide_eq_false (by omega)];rfl) ?_
          conv=>whnf
          exact⟨rfl,Sub.refl _⟩
end
end Cn
end Go.Proofs.YtibaocbpeaejkaaGreat
/- The law FpolyCounts. -/
namespace Go.Proofs.YtibaocbpeaejkaaGreat
open Go.RowKit
namespace Cn
open Rf
theorem cz {D : Nat → Prop} {w : World} : ∀ us : List Value, CRels D w [] [.bool false, .nil] us → CRels D w [] [.bool false, dn 0 fun _ => 0] us
 | [_,b],⟨h1,h2,h3⟩=>⟨h1,subNil _ D w b h2,h3⟩
theorem sign_z:FnOK Tryz.prog false 9 [.g [.bool false,.nil]] (.c (.int .i64 0)):=by
 have k:=rsign_ok (n:=0) (a:=fun _=>0) (s:=false) (fun i hi=>absurd hi (Nat.not_lt_zero i)) (by decide)
 refine arg_ok (X := .c (.int .i64 0)) k fun D w vs h=>?_
 match vs,h with
 | [v],⟨⟨us,e,h⟩,t⟩=>exact⟨⟨us,e,cz _ h⟩,t⟩
open Classical in
theorem refM_yes {p:Int} (hm:Fp.md p):FnOK Tryz.prog true 8 [.c (.int .i64 p)] (.c (.bool true)):=by
 have k:=(Fp.refModulus_ok (p:=p)).weak (r:=true)
 rwa [decide_eq_true hm]at k
open Classical in
theorem refM_no {p:Int} (hm:¬ Fp.md p):FnOK Tryz.prog true 8 [.c (.int .i64 p)] (.c (.bool false)):=by
 have k:=(Fp.refModulus_ok (p:=p)).weak (r:=true)
 rwa [decide_eq_false hm]at k
set_option maxRecDepth 100000 in
set_option maxHeartbeats 16000000 in
theorem big (hw:FnOK Tryz.prog true 5 [] (.c (.bool true))) {p n:Int} (h1:1000<p) (h2:p≤65521) (h3:4<n) (h4:n≤12):FnOK Tryz.prog true 3 [.c (.int .i64 p),.c (.int .i64 n)] (.c (.bool true)):=by
 refine fn_ok (E:=E1) E1_ok Tryz.func3 rfl mixed (by kernel_rfl) (by kernel_rfl) ?_
 conv=>whnf
 refine⟨_,hw,?_⟩
 conv=>whnf
 refine bpos (show gw true (decide ((1000:Int)<p))=true by rw[decide_eq_true (by omega)];rfl) ?_
 conv=>whnf
 refine bpos (show gw true (decide (p≤(65521:Int)))=true by rw[decide_eq_true (by omega)];rfl) ?_
 conv=>whnf
 refine bpos (show gw true (decide ((4:Int)<n))=true by rw[decide_eq_true (by omega)];rfl) ?_
 conv=>whnf
 refine bpos (show decide (n≤(12:Int))=true from decide_eq_true (by omega)) ?_
 conv=>whnf
 exact⟨rfl,Sub.refl _⟩
set_option maxRecDepth 100000 in
set_option maxHeartbeats 16000000 in
theorem bad1 (hw:FnOK Tryz.prog true 5 [] (.c (.bool true))) {p n:Int} (hm:¬ Fp.md p) (g1:p≤1000):FnOK Tryz.prog true 3 [.c (.int .i64 p),.c (.int .i64 n)] (.c (.bool true)):=by
 have kF:=first_bad (n:=n) hm
 have kC:=count_bad (n:=n) hm
 have kM:=refM_no hm
 have kS:=sign_z.weak (r:=true)
 refine fn_ok (E:=E1) E1_ok Tryz.func3 rfl mixed (by kernel_rfl) (by kernel_rfl) ?_
 conv=>whnf
 refine⟨_,hw,?_⟩
 conv=>whnf
 refine bneg (show gw true (decide ((1000:Int)<p))=false by rw[decide_eq_false (by omega)];rfl) ?_
 conv=>whnf
 refine⟨_,kF,?_⟩
 conv=>whnf
 refine⟨_,kC,?_⟩
 conv=>whnf
 refine⟨_,kM,?_⟩
 conv=>whnf
 refine⟨_,kS,?_⟩
 conv=>whnf
 exact⟨rfl,Sub.refl _⟩
set_option maxRecDepth 100000 in
set_option maxHeartbeats 16000000 in
theorem bad2 (hw:FnOK Tryz.prog true 5 [] (.c (.bool true))) {p n:Int} (hm:¬ Fp.md p) (g1:1000<p) (g2:65521<p):FnOK Tryz.prog true 3 [.c (.int .i64 p),.c (.int .i64 n)] (.c (.bool true)):=by
 have kF:=first_bad (n:=n) hm
 have kC:=count_bad (n:=n) hm
 have kM:=refM_no hm
 have kS:=sign_z.weak (r:=true)
 refine fn_ok (E:=E1) E1_ok Tryz.func3 rfl mixed (by kernel_rfl) (by kernel_rfl) ?_
 conv=>whnf
 refine⟨_,hw,?_⟩
 conv=>whnf
 refine bpos (show gw true (decide ((1000:Int)<p))=true by rw[decide_eq_true (by omega)];rfl) ?_
 conv=>whnf
 refine bneg (show gw true (decide (p≤(65521:Int)))=false by rw[decide_eq_false (by omega)];rfl) ?_
 conv=>whnf
 refine⟨_,kF,?_⟩
 conv=>whnf
 refine⟨_,kC,?_⟩
 conv=>whnf
 refine⟨_,kM,?_⟩
 conv=>whnf
 refine⟨_,kS,?_⟩
 conv=>whnf
 exact⟨rfl,Sub.refl _⟩
set_option maxRecDepth 100000 in
set_option maxHeartbeats 16000000 in
theorem bad3 (hw:FnOK Tryz.prog true 5 [] (.c (.bool true))) {p n:Int} (hm:¬ Fp.md p) (g1:1000<p) (g2:p≤65521) (g3:n≤4):FnOK Tryz.prog true 3 [.c (.int .i64 p),.c (.int .i64 n)] (.c (.bool true)):=by
 have kF:=first_bad (n:=n) hm
 have kC:=count_bad (n:=n) hm
 have kM:=refM_no hm
 have kS:=sign_z.weak (r:=true)
 refine fn_ok (E:=E1) E1_ok Tryz.func3 rfl mixed (by kernel_rfl) (by kernel_rfl) ?_
 conv=>whnf
 refine⟨_,hw,?_⟩
 conv=>whnf
 refine bpos (show gw true (decide ((1000:Int)<p))=true by rw[decide_eq_true (by omega)];rfl) ?_
 conv=>whnf
 refine bpos (show gw true (decide (p≤(65521:Int)))=true by rw[decide_eq_true (by omega)];rfl) ?_
 conv=>whnf
 refine bneg (show gw true (decide ((4:Int)<n))=false by rw[decide_eq_false (by omega)];rfl) ?_
 conv=>whnf
 refine⟨_,kF,?_⟩
 conv=>whnf
 refine⟨_,kC,?_⟩
 conv=>whnf
 refine⟨_,kM,?_⟩
 conv=>whnf
 refine⟨_,kS,?_⟩
 conv=>whnf
 exact⟨rfl,Sub.refl _⟩
set_option maxRecDepth 100000 in
set_option maxHeartbeats 16000000 in
theorem bad4 (hw:FnOK Tryz.prog true 5 [] (.c (.bool true))) {p n:Int} (hm:¬ Fp.md p) (g1:1000<p) (g2:p≤65521) (g3:4<n) (g4:12<n):FnOK Tryz.prog true 3 [.c (.int .i64 p),.c (.int .i64 n)] (.c (.bool true)):=by
 have kF:=first_bad (n:=n) hm
 have kC:=count_bad (n:=n) hm
 have kM:=refM_no hm
 have kS:=sign_z.weak (r:=true)
 refine fn_ok (E:=E1) E1_ok Tryz.func3 rfl mixed (by kernel_rfl) (by kernel_rfl) ?_
 conv=>whnf
 refine⟨_,hw,?_⟩
 conv=>whnf
 refine bpos (show gw true (decide ((1000:Int)<p))=true by rw[decide_eq_true (by omega)];rfl) ?_
 conv=>whnf
 refine bpos (show gw true (decide (p≤(65521:Int)))=true by rw[decide_eq_true (by omega)];rfl) ?_
 conv=>whnf
 refine bpos (show gw true (decide ((4:Int)<n))=true by rw[decide_eq_true (by omega)];rfl) ?_
 conv=>whnf
 refine bneg (show decide (n≤(12:Int))=false from decide_eq_false (by omega)) ?_
 conv=>whnf
 refine⟨_,kF,?_⟩
 conv=>whnf
 refine⟨_,kC,?_⟩
 conv=>whnf
 refine⟨_,kM,?_⟩
 conv=>whnf
 refine⟨_,kS,?_⟩
 conv=>whnf
 exact⟨rfl,Sub.refl _⟩
set_option maxRecDepth 100000 in
set_option maxHeartbeats 16000000 in
theorem out10 (hw:FnOK Tryz.prog true 5 [] (.c (.bool true))) {p n:Int} (hm:Fp.md p) (hn:n<1) (g1:p≤1000):FnOK Tryz.prog true 3 [.c (.int .i64 p),.c (.int .i64 n)] (.c (.bool true)):=by
 have kF:=first_out (n:=n) hm (by omega)
 have kC:=count_out (n:=n) hm (by omega)
 have kM:=refM_yes hm
 have kS:=sign_z.weak (r:=true)
 refine fn_ok (E:=E1) E1_ok Tryz.func3 rfl mixed (by kernel_rfl) (by kernel_rfl) ?_
 conv=>whnf
 refine⟨_,hw,?_⟩
 conv=>whnf
 refine bneg (show gw true (decide ((1000:Int)<p))=false by rw[decide_eq_false (by omega)];rfl) ?_
 conv=>whnf
 refine⟨_,kF,?_⟩
 conv=>whnf
 refine⟨_,kC,?_⟩
 conv=>whnf
 refine⟨_,kM,?_⟩
 conv=>whnf
 refine bneg (show gw false (decide (n<1))=false by rw[decide_eq_true (by omega)];rfl) ?_
 conv=>whnf
 refine bneg (show gw false (decide (n<1))=false by rw[decide_eq_true (by omega)];rfl) ?_
 conv=>whnf
 refine⟨_,kS,?_⟩
 conv=>whnf
 exact⟨rfl,Sub.refl _⟩
set_option maxRecDepth 100000 in
set_option maxHeartbeats 16000000 in
theorem out11 (hw:FnOK Tryz.prog true 5 [] (.c (.bool true))) {p n:Int} (hm:Fp.md p) (hn:64<n) (g1:p≤1000):FnOK Tryz.prog true 3 [.c (.int .i64 p),.c (.int .i64 n)] (.c (.bool true)):=by
 have kF:=first_out (n:=n) hm (by omega)
 have kC:=count_out (n:=n) hm (by omega)
 have kM:=refM_yes hm
 have kS:=sign_z.weak (r:=true)
 refine fn_ok (E:=E1) E1_ok Tryz.func3 rfl mixed (by kernel_rfl) (by kernel_rfl) ?_
 conv=>whnf
 refine⟨_,hw,?_⟩
 conv=>whnf
 refine bneg (show gw true (decide ((1000:Int)<p))=false by rw[decide_eq_false (by omega)];rfl) ?_
 conv=>whnf
 refine⟨_,kF,?_⟩
 conv=>whnf
 refine⟨_,kC,?_⟩
 conv=>whnf
 refine⟨_,kM,?_⟩
 conv=>whnf
 refine bpos (show gw false (decide (n<1))=true by rw[decide_eq_false (by omega)];rfl) ?_
 conv=>whnf
 refine bpos (show decide ((12:Int)<n)=true from decide_eq_true (by omega)) ?_
 conv=>whnf
 refine bpos (show gw false (decide (n<1))=true by rw[decide_eq_false (by omega)];rfl) ?_
 conv=>whnf
 refine bpos (show decide ((64:Int)<n)=true from decide_eq_true (by omega)) ?_
 conv=>whnf
 refine⟨_,kS,?_⟩
 conv=>whnf
 exact⟨rfl,Sub.refl _⟩
set_option maxRecDepth 100000 in
set_option maxHeartbeats 16000000 in
theorem out30 (hw:FnOK Tryz.prog true 5 [] (.c (.bool true))) {p n:Int} (hm:Fp.md p) (hn:n<1) (g1:1000<p) (g2:p≤65521) (_:n≤4):FnOK Tryz.prog true 3 [.c (.int .i64 p),.c (.int .i64 n)] (.c (.bool true)):=by
 have kF:=first_out (n:=n) hm (by omega)
 have kC:=count_out (n:=n) hm (by omega)
 have kM:=refM_yes hm
 have kS:=sign_z.weak (r:=true)
 refine fn_ok (E:=E1) E1_ok Tryz.func3 rfl mixed (by kernel_rfl) (by kernel_rfl) ?_
 conv=>whnf
 refine⟨_,hw,?_⟩
 conv=>whnf
 refine bpos (show gw true (decide ((1000:Int)<p))=true by rw[decide_eq_true (by omega)];rfl) ?_
 conv=>whnf
 refine bpos (show gw true (decide (p≤(65521:Int)))=true by rw[decide_eq_true (by omega)];rfl) ?_
 conv=>whnf
 refine bneg (show gw true (decide ((4:Int)<n))=false by rw[decide_eq_false (by omega)];rfl) ?_
 conv=>whnf
 refine⟨_,kF,?_⟩
 conv=>whnf
 refine⟨_,kC,?_⟩
 conv=>whnf
 refine⟨_,kM,?_⟩
 conv=>whnf
 refine bneg (show gw false (decide (n<1))=false by rw[decide_eq_true (by omega)];rfl) ?_
 conv=>whnf
 refine bneg (show gw false (decide (n<1))=false by rw[decide_eq_true (by omega)];rfl) ?_
 conv=>whnf
 refine⟨_,kS,?_⟩
 conv=>whnf
 exact⟨rfl,Sub.refl _⟩
set_option maxRecDepth 100000 in
set_option maxHeartbeats 16000000 in
theorem out41 (hw:FnOK Tryz.prog true 5 [] (.c (.bool true))) {p n:Int} (hm:Fp.md p) (hn:64<n) (g1:1000<p) (g2:p≤65521) (_:4<n) (g4:12<n):FnOK Tryz.prog true 3 [.c (.int .i64 p),.c (.int .i64 n)] (.c (.bool true)):=by
 have kF:=first_out (n:=n) hm (by omega)
 have kC:=count_out (n:=n) hm (by omega)
 have kM:=refM_yes hm
 have kS:=sign_z.weak (r:=true)
 refine fn_ok (E:=E1) E1_ok Tryz.func3 rfl mixed (by kernel_rfl) (by kernel_rfl) ?_
 conv=>whnf
 refine⟨_,hw,?_⟩
 conv=>whnf
 refine bpos (show gw true (decide ((1000:Int)<p))=true by rw[decide_eq_true (by omega)];rfl) ?_
 conv=>whnf
 refine bpos (show gw true (decide (p≤(65521:Int)))=true by rw[decide_eq_true (by omega)];rfl) ?_
 conv=>whnf
 refine bpos (show gw true (decide ((4:Int)<n))=true by rw[decide_eq_true (by omega)];rfl) ?_
 conv=>whnf
 refine bneg (show decide (n≤(12:Int))=false from decide_eq_false (by omega)) ?_
 conv=>whnf
 refine⟨_,kF,?_⟩
 conv=>whnf
 refine⟨_,kC,?_⟩
 conv=>whnf
 refine⟨_,kM,?_⟩
 conv=>whnf
 refine bpos (show gw false (decide (n<1))=true by rw[decide_eq_false (by omega)];rfl) ?_
 conv=>whnf
 refine bpos (show decide ((12:Int)<n)=true from decide_eq_true (by omega)) ?_
 conv=>whnf
 refine bpos (show gw false (decide (n<1))=true by rw[decide_eq_false (by omega)];rfl) ?_
 conv=>whnf
 refine bpos (show decide ((64:Int)<n)=true from decide_eq_true (by omega)) ?_
 conv=>whnf
 refine⟨_,kS,?_⟩
 conv=>whnf
 exact⟨rfl,Sub.refl _⟩
def sg (q n i:Nat):Int:=su (fun i=>cnt q (dvf n i)*dvf n i) i
theorem cnt_zl {q n:Nat} (hq:q<65536) (hn:n≤64):zlen (cnt q n)≤142:=by
 have h1:=gs_zl (q:=q) (n:=n) hq hn (Nat.le_refl _)
 have h2:=dvs_len hn
 have h3:zlen (cnt q n)≤zlen (tot q n):=zlen_natAbs_le (Int.natAbs_ediv_le_natAbs (tot q n) n)
 have h4:zlen (tot q n)=zlen (gs q n (dvs n).length):=rfl
 omega
theorem sgt_zl {q n i:Nat} (hq:q<65536) (hn:n≤64) (hi:i<(dvs n).length):zlen (cnt q (dvf n i))≤142/\zlen ((dvf n i:Nat):Int)≤1/\zlen (cnt q (dvf n i)*dvf n i)≤143:=by
 have hd:=dvs_mem hi
 have h1:=cnt_zl (q:=q) (n:=dvf n i) hq (by omega)
 have h2:zlen ((dvf n i:Nat):Int)≤1:=zlen_nat _ 1 (by rw[Nat.pow_one];omega)
 have h3:=zlen_mul (cnt q (dvf n i)) ((dvf n i:Nat):Int)
 exact⟨h1,h2,by omega⟩
theorem sg_zl {q n : Nat} (hq : q < 65536) (hn : n ≤ 64) : ∀ {i : Nat}, i ≤ (dvs n).length → zlen (sg q n i) ≤ 143 + i
 | 0,_=>Nat.le_trans (show zlen (0:Int)≤0 by exact zlen_le (by decide)) (by omega)
 | i+1,h=>by
  show zlen (sg q n i+cnt q (dvf n i)*dvf n i)≤_
  have h1:=sg_zl hq hn (i:=i) (by omega)
  have h2:=(sgt_zl hq hn (i:=i) (by omega)).2.2
  have:=zlen_add (sg q n i) (cnt q (dvf n i)*dvf n i)
  omega
set_option maxRecDepth 100000 in
set_option maxHeartbeats 16000000 in
theorem mid1 (hw:FnOK Tryz.prog true 5 [] (.c (.bool true))) {q n:Nat} (hm:Fp.md (q:Int)) (hn1:1≤n) (hn:n≤64) (h12:12<n) (g1:q≤1000):FnOK Tryz.prog true 3 [.c (.int .i64 (q:Int)),.c (.int .i64 (n:Int))] (.c (.bool true)):=by
 have hm1:=hm.1
 have hm2:=hm.2.1
 have kM:=refM_yes hm
 have kC:=count_ok hm hn1 hn
 have kD:=(rdv_at hn1 hn).weak (r:=true)
 have hN:=dvs_len hn
 have hdv:=fun i hi=>dvs_mem (n:=n) (i:=i) hi
 have k0:=(rof_ok (x:=0) (by decide) (by decide)).weak (r:=true)
 have kq:=(rof_ok (x:=(q:Int)) (by omega) (by omega)).weak (r:=true)
 have hz:=fun i hi=>sg_zl (q:=q) (n:=n) (by omega) hn (i:=i) hi
 have ht:=fun i hi=>sgt_zl (q:=q) (n:=n) (by omega) hn (i:=i) hi
 have kR:=(rcount_ok hm hn1 hn).weak (r:=true)
 have kP:=(raised_ok (x:=q) (n:=n) (by omega) hn).weak (r:=true)
 have s1:=(same_nz (x:=cnt q n) (y:=cnt q n) (by have:=cnt_zl (q:=q) (n:=n) (by omega) hn;omega)).weak (r:=true)
 rw[decide_eq_true rfl]at s1
 have s2:=(same_nz (x:=sg q n (dvs n).length) (y:=((q^n:Nat):Int)) (by have:=hz _ (Nat.le_refl _);omega)).weak (r:=true)
 rw[decide_eq_true (show sg q n (dvs n).length=((q^n:Nat):Int)from gauss q hn1 hn fun i hi=>⟨(hdv i hi).1,by have:=(hdv i hi).2.1;omega⟩)]at s2
 have kC':=fun i (hi:i<(dvs n).length)=>count_ok (n:=dvf n i) hm (hdv i hi).1 (by have:=(hdv i hi).2.1;omega)
 have kO:=fun i (hi:i<(dvs n).length)=>(rof_ok (x:=(dvf n i:Int)) (by omega) (by have:=(hdv i hi).2.1;omega)).weak (r:=true)
 have kW:=fun i (hi:i<(dvs n).length)=>(zmul_c (a:=cnt q (dvf n i)) (b:=(dvf n i:Int)) (by have:=ht i hi;omega)).weak (r:=true)
 have kA:=fun i (hi:i<(dvs n).length)=>(zadd_c (x:=sg q n i) (y:=cnt q (dvf n i)*dvf n i) (by have:=hz i (by omega);omega) (by have:=ht i hi;omega)).weak (r:=true)
 have kF:=first_out (n:=(n:Int)) hm (by omega)
 refine fn_ok (E:=E1) E1_ok Tryz.func3 rfl mixed (by kernel_rfl) (by kernel_rfl) ?_
 conv=>whnf
 refine⟨_,hw,?_⟩
 conv=>whnf
 refine bneg (show gw true (decide ((1000:Int)<(q:Int)))=false by rw[decide_eq_false (by omega)];rfl) ?_
 conv=>whnf
 refine⟨_,kF,?_⟩
 conv=>whnf
 refine⟨_,kC,?_⟩
 conv=>whnf
 refine⟨_,kM,?_⟩
 conv=>whnf
 refine bpos (show gw false (decide ((n:Int)<1))=true by rw[decide_eq_false (by omega)];rfl) ?_
 conv=>whnf
 refine bpos (show decide ((12:Int)<(n:Int))=true from decide_eq_true (by omega)) ?_
 conv=>whnf
 refine bpos (show gw false (decide ((n:Int)<1))=true by rw[decide_eq_false (by omega)];rfl) ?_
 conv=>whnf
 refine bneg (show decide ((64:Int)<(n:Int))=false from decide_eq_false (by omega)) ?_
 conv=>whnf
 refine⟨_,k0,?_⟩
 conv=>whnf
 refine⟨_,kD,?_⟩
 conv=>whnf
 refine loop_ints (fun i:Nat=>gst [(0,.c (.int .i64 q)),(1,.c (.int .i64 n)),(7,.c (.p 0 0 2 0 0)),(8,.c (.int .i64 0)),(9,.c (.p 1 0 2 0 0)),(10,.c (il (dvs n).length fun i=>(dvf n i:Int))),(11,.c (.int .i64 i))] [⟨30,2,1,boxF (nz (cnt q n))⟩,⟨30,2,1,boxF (nz (sg q n i))⟩]) (fun i=>(dvs n).length-i) (fun i=>i≤(dvs n).length) 0 rfl ?start (Nat.zero_le _) ?round
 case start =>
  exact Weak.gen [some 0,some 1] rfl ⟨Rf.boxU rfl rfl rfl,Rf.boxU rfl rfl rfl,trivial⟩ ⟨⟨_,rfl,rfl⟩,⟨_,rfl,rfl⟩,⟨_,rfl,rfl,rfl⟩,⟨_,rfl,rfl⟩,⟨_,rfl,rfl,rfl⟩,.inl ⟨_,_,rfl,rfl,fun _ _ _ _=>rfl⟩,⟨_,rfl,rfl⟩,trivial⟩
 case round =>
  intro i hi
  by_cases hlt:i<(dvs n).length
  ·have kC':=kC' i hlt
   have kO:=kO i hlt
   have kW:=kW i hlt
   have kA:=kA i hlt
   conv=>whnf
   refine bpos (show decide ((i:Int)<((dvs n).length:Nat))=true from decide_eq_true (by omega)) ?_
   conv=>whnf
   refine⟨by omega,by show(i:Int)<((dvs n).length:Nat);omega,?_⟩
   conv=>whnf
   refine⟨_,kC',?_⟩
   conv=>whnf
   refine⟨by omega,by show(i:Int)<((dvs n).length:Nat);omega,?_⟩
   conv=>whnf
   refine⟨_,kO,?_⟩
   conv=>whnf
   refine⟨_,kW,?_⟩
   conv=>whnf
   refine⟨_,kA,?_⟩
   conv=>whnf
   refine⟨Fp.i64 (by omega) (by omega),?_⟩
   conv=>whnf
   exact⟨i+1,by omega,Weak.gen [some 0,some 1] rfl ⟨Rf.boxK rfl rfl,Rf.boxU rfl rfl rfl,trivial⟩ ⟨⟨_,rfl,rfl⟩,⟨_,rfl,rfl⟩,⟨_,rfl,rfl,rfl⟩,⟨_,rfl,rfl⟩,⟨_,rfl,rfl,rfl⟩,.inl ⟨_,_,rfl,rfl,fun _ _ _ _=>rfl⟩,⟨_,rfl,rfl⟩,trivial⟩,by omega⟩
  ·obtain rfl:i=(dvs n).length:=by omega
   conv=>whnf
   refine bneg (show decide (((dvs n).length:Int)<((dvs n).length:Nat))=false from decide_eq_false (by omega)) ?_
   conv=>whnf
   refine⟨_,kR,?_⟩
   conv=>whnf
   refine⟨_,s1,?_⟩
   conv=>whnf
   refine⟨_,kq,?_⟩
   conv=>whnf
   refine⟨_,kP,?_⟩
   conv=>whnf
   refine⟨_,s2,?_⟩
   conv=>whnf
   exact⟨rfl,Sub.refl _⟩
set_option maxRecDepth 100000 in
set_option maxHeartbeats 16000000 in
theorem mid4 (hw:FnOK Tryz.prog true 5 [] (.c (.bool true))) {q n:Nat} (hm:Fp.md (q:Int)) (hn1:1≤n) (hn:n≤64) (h12:12<n) (g1:1000<q) (_:12<n):FnOK Tryz.prog true 3 [.c (.int .i64 (q:Int)),.c (.int .i64 (n:Int))] (.c (.bool true)):=by
 have hm1:=hm.1
 have hm2:=hm.2.1
 have kM:=refM_yes hm
 have kC:=count_ok hm hn1 hn
 have kD:=(rdv_at hn1 hn).weak (r:=true)
 have hN:=dvs_len hn
 have hdv:=fun i hi=>dvs_mem (n:=n) (i:=i) hi
 have k0:=(rof_ok (x:=0) (by decide) (by decide)).weak (r:=true)
 have kq:=(rof_ok (x:=(q:Int)) (by omega) (by omega)).weak (r:=true)
 have hz:=fun i hi=>sg_zl (q:=q) (n:=n) (by omega) hn (i:=i) hi
 have ht:=fun i hi=>sgt_zl (q:=q) (n:=n) (by omega) hn (i:=i) hi
 have kR:=(rcount_ok hm hn1 hn).weak (r:=true)
 have kP:=(raised_ok (x:=q) (n:=n) (by omega) hn).weak (r:=true)
 have s1:=(same_nz (x:=cnt q n) (y:=cnt q n) (by have:=cnt_zl (q:=q) (n:=n) (by omega) hn;omega)).weak (r:=true)
 rw[decide_eq_true rfl]at s1
 have s2:=(same_nz (x:=sg q n (dvs n).length) (y:=((q^n:Nat):Int)) (by have:=hz _ (Nat.le_refl _);omega)).weak (r:=true)
 rw[decide_eq_true (show sg q n (dvs n).length=((q^n:Nat):Int)from gauss q hn1 hn fun i hi=>⟨(hdv i hi).1,by have:=(hdv i hi).2.1;omega⟩)]at s2
 have kC':=fun i (hi:i<(dvs n).length)=>count_ok (n:=dvf n i) hm (hdv i hi).1 (by have:=(hdv i hi).2.1;omega)
 have kO:=fun i (hi:i<(dvs n).length)=>(rof_ok (x:=(dvf n i:Int)) (by omega) (by have:=(hdv i hi).2.1;omega)).weak (r:=true)
 have kW:=fun i (hi:i<(dvs n).length)=>(zmul_c (a:=cnt q (dvf n i)) (b:=(dvf n i:Int)) (by have:=ht i hi;omega)).weak (r:=true)
 have kA:=fun i (hi:i<(dvs n).length)=>(zadd_c (x:=sg q n i) (y:=cnt q (dvf n i)*dvf n i) (by have:=hz i (by omega);omega) (by have:=ht i hi;omega)).weak (r:=true)
 have kF:=first_out (n:=(n:Int)) hm (by omega)
 refine fn_ok (E:=E1) E1_ok Tryz.func3 rfl mixed (by kernel_rfl) (by kernel_rfl) ?_
 conv=>whnf
 refine⟨_,hw,?_⟩
 conv=>whnf
 refine bpos (show gw true (decide ((1000:Int)<(q:Int)))=true by rw[decide_eq_true (by omega)];rfl) ?_
 conv=>whnf
 refine bpos (show gw true (decide ((q:Int)≤(65521:Int)))=true by rw[decide_eq_true (by omega)];rfl) ?_
 conv=>whnf
 refine bpos (show gw true (decide ((4:Int)<(n:Int)))=true by rw[decide_eq_true (by omega)];rfl) ?_
 conv=>whnf
 refine bneg (show decide ((n:Int)≤(12:Int))=false from decide_eq_false (by omega)) ?_
 conv=>whnf
 refine⟨_,kF,?_⟩
 conv=>whnf
 refine⟨_,kC,?_⟩
 conv=>whnf
 refine⟨_,kM,?_⟩
 conv=>whnf
 refine bpos (show gw false (decide ((n:Int)<1))=true by rw[decide_eq_false (by omega)];rfl) ?_
 conv=>whnf
 refine bpos (show decide ((12:Int)<(n:Int))=true from decide_eq_true (by omega)) ?_
 conv=>whnf
 refine bpos (show gw false (decide ((n:Int)<1))=true by rw[decide_eq_false (by omega)];rfl) ?_
 conv=>whnf
 refine bneg (show decide ((64:Int)<(n:Int))=false from decide_eq_false (by omega)) ?_
 conv=>whnf
 refine⟨_,k0,?_⟩
 conv=>whnf
 refine⟨_,kD,?_⟩
 conv=>whnf
 refine loop_ints (fun i:Nat=>gst [(0,.c (.int .i64 q)),(1,.c (.int .i64 n)),(7,.c (.p 0 0 2 0 0)),(8,.c (.int .i64 0)),(9,.c (.p 1 0 2 0 0)),(10,.c (il (dvs n).length fun i=>(dvf n i:Int))),(11,.c (.int .i64 i))] [⟨30,2,1,boxF (nz (cnt q n))⟩,⟨30,2,1,boxF (nz (sg q n i))⟩]) (fun i=>(dvs n).length-i) (fun i=>i≤(dvs n).length) 0 rfl ?start (Nat.zero_le _) ?round
 case start =>
  exact Weak.gen [some 0,some 1] rfl ⟨Rf.boxU rfl rfl rfl,Rf.boxU rfl rfl rfl,trivial⟩ ⟨⟨_,rfl,rfl⟩,⟨_,rfl,rfl⟩,⟨_,rfl,rfl,rfl⟩,⟨_,rfl,rfl⟩,⟨_,rfl,rfl,rfl⟩,.inl ⟨_,_,rfl,rfl,fun _ _ _ _=>rfl⟩,⟨_,rfl,rfl⟩,trivial⟩
 case round =>
  intro i hi
  by_cases hlt:i<(dvs n).length
  ·have kC':=kC' i hlt
   have kO:=kO i hlt
   have kW:=kW i hlt
   have kA:=kA i hlt
   conv=>whnf
   refine bpos (show decide ((i:Int)<((dvs n).length:Nat))=true from decide_eq_true (by omega)) ?_
   conv=>whnf
   refine⟨by omega,by show(i:Int)<((dvs n).length:Nat);omega,?_⟩
   conv=>whnf
   refine⟨_,kC',?_⟩
   conv=>whnf
   refine⟨by omega,by show(i:Int)<((dvs n).length:Nat);omega,?_⟩
   conv=>whnf
   refine⟨_,kO,?_⟩
   conv=>whnf
   refine⟨_,kW,?_⟩
   conv=>whnf
   refine⟨_,kA,?_⟩
   conv=>whnf
   refine⟨Fp.i64 (by omega) (by omega),?_⟩
   conv=>whnf
   exact⟨i+1,by omega,Weak.gen [some 0,some 1] rfl ⟨Rf.boxK rfl rfl,Rf.boxU rfl rfl rfl,trivial⟩ ⟨⟨_,rfl,rfl⟩,⟨_,rfl,rfl⟩,⟨_,rfl,rfl,rfl⟩,⟨_,rfl,rfl⟩,⟨_,rfl,rfl,rfl⟩,.inl ⟨_,_,rfl,rfl,fun _ _ _ _=>rfl⟩,⟨_,rfl,rfl⟩,trivial⟩,by omega⟩
  ·obtain rfl:i=(dvs n).length:=by omega
   conv=>whnf
   refine bneg (show decide (((dvs n).length:Int)<((dvs n).length:Nat))=false from decide_eq_false (by omega)) ?_
   conv=>whnf
   refine⟨_,kR,?_⟩
   conv=>whnf
   refine⟨_,s1,?_⟩
   conv=>whnf
   refine⟨_,kq,?_⟩
   conv=>whnf
   refine⟨_,kP,?_⟩
   conv=>whnf
   refine⟨_,s2,?_⟩
   conv=>whnf
   exact⟨rfl,Sub.refl _⟩
set_option maxRecDepth 100000 in
set_option maxHeartbeats 16000000 in
theorem low1 (hw:FnOK Tryz.prog true 5 [] (.c (.bool true))) {q n J:Nat} [hp:Prm (q:Int)] (hm:Fp.md (q:Int)) (hn1:1≤n) (hn:n≤64) (h12:n≤12) (hJ:J<(q:Int).toNat^n) (hJi:Pol.Irr (mnp n J:Pol (Zp (q:Int)))) (hJm:∀ j,j<J->¬ Pol.Irr (mnp n j:Pol (Zp (q:Int)))) (g1:q≤1000):FnOK Tryz.prog true 3 [.c (.int .i64 (q:Int)),.c (.int .i64 (n:Int))] (.c (.bool true)):=by
 have hm1:=hm.1
 have hm2:=hm.2.1
 have kM:=refM_yes hm
 have kC:=count_ok hm hn1 hn
 have kD:=(rdv_at hn1 hn).weak (r:=true)
 have hN:=dvs_len hn
 have hdv:=fun i hi=>dvs_mem (n:=n) (i:=i) hi
 have k0:=(rof_ok (x:=0) (by decide) (by decide)).weak (r:=true)
 have kq:=(rof_ok (x:=(q:Int)) (by omega) (by omega)).weak (r:=true)
 have hz:=fun i hi=>sg_zl (q:=q) (n:=n) (by omega) hn (i:=i) hi
 have ht:=fun i hi=>sgt_zl (q:=q) (n:=n) (by omega) hn (i:=i) hi
 have kR:=(rcount_ok hm hn1 hn).weak (r:=true)
 have kP:=(raised_ok (x:=q) (n:=n) (by omega) hn).weak (r:=true)
 have s1:=(same_nz (x:=cnt q n) (y:=cnt q n) (by have:=cnt_zl (q:=q) (n:=n) (by omega) hn;omega)).weak (r:=true)
 rw[decide_eq_true rfl]at s1
 have s2:=(same_nz (x:=sg q n (dvs n).length) (y:=((q^n:Nat):Int)) (by have:=hz _ (Nat.le_refl _);omega)).weak (r:=true)
 rw[decide_eq_true (show sg q n (dvs n).length=((q^n:Nat):Int)from gauss q hn1 hn fun i hi=>⟨(hdv i hi).1,by have:=(hdv i hi).2.1;omega⟩)]at s2
 have kC':=fun i (hi:i<(dvs n).length)=>count_ok (n:=dvf n i) hm (hdv i hi).1 (by have:=(hdv i hi).2.1;omega)
 have kO:=fun i (hi:i<(dvs n).length)=>(rof_ok (x:=(dvf n i:Int)) (by omega) (by have:=(hdv i hi).2.1;omega)).weak (r:=true)
 have kW:=fun i (hi:i<(dvs n).length)=>(zmul_c (a:=cnt q (dvf n i)) (b:=(dvf n i:Int)) (by have:=ht i hi;omega)).weak (r:=true)
 have kA:=fun i (hi:i<(dvs n).length)=>(zadd_c (x:=sg q n i) (y:=cnt q (dvf n i)*dvf n i) (by have:=hz i (by omega);omega) (by have:=ht i hi;omega)).weak (r:=true)
 have kF:=First_ok hm hn1 h12 hJ hJi hJm
 have kI:=(rirr_irr hm (g:=(mnp n J:Pol (Zp (q:Int)))) (by rw[mnp_len];omega) hJi).weak (r:=true)
 have kL:=least_ok hm hn1 h12 hJ hJm
 rw[mnp_pl]at kF kI kL
 have top:((mnp n J:Pol (Zp (q:Int))).f n).v=1:=by rw[mnp_top]
 refine fn_ok (E:=E1) E1_ok Tryz.func3 rfl mixed (by kernel_rfl) (by kernel_rfl) ?_
 conv=>whnf
 refine⟨_,hw,?_⟩
 conv=>whnf
 refine bneg (show gw true (decide ((1000:Int)<(q:Int)))=false by rw[decide_eq_false (by omega)];rfl) ?_
 conv=>whnf
 refine⟨_,kF,?_⟩
 conv=>whnf
 refine⟨_,kC,?_⟩
 conv=>whnf
 refine⟨_,kM,?_⟩
 conv=>whnf
 refine bpos (show gw false (decide ((n:Int)<1))=true by rw[decide_eq_false (by omega)];rfl) ?_
 conv=>whnf
 refine bneg (show decide ((12:Int)<(n:Int))=false from decide_eq_false (by omega)) ?_
 conv=>whnf
 refine⟨Fp.i64 (by omega) (by omega),?_⟩
 conv=>whnf
 refine bpos (show gw false (!decide (((n+1:Nat):Int)=(n:Int)+1))=true by rw[decide_eq_true (by omega)];rfl) ?_
 conv=>whnf
 refine⟨by omega,by show(n:Int)<((n+1:Nat):Int);omega,?_⟩
 conv=>whnf
 refine bpos (show gw false (!decide (((mnp n J:Pol (Zp (q:Int))).f n).v=1))=true by rw[top];rfl) ?_
 conv=>whnf
 refine .inr ?_
 conv=>whnf
 refine⟨_,kI,?_⟩
 conv=>whnf
 refine⟨_,kL,?_⟩
 conv=>whnf
 refine bpos (show gw false (decide ((n:Int)<1))=true by rw[decide_eq_false (by omega)];rfl) ?_
 conv=>whnf
 refine bneg (show decide ((64:Int)<(n:Int))=false from decide_eq_false (by omega)) ?_
 conv=>whnf
 refine⟨_,k0,?_⟩
 conv=>whnf
 refine⟨_,kD,?_⟩
 conv=>whnf
 refine loop_ints (fun i:Nat=>gst [(0,.c (.int .i64 q)),(1,.c (.int .i64 n)),(7,.c (.p 0 0 2 0 0)),(8,.c (.int .i64 0)),(9,.c (.p 1 0 2 0 0)),(10,.c (il (dvs n).length fun i=>(dvf n i:Int))),(11,.c (.int .i64 i))] [⟨30,2,1,boxF (nz (cnt q n))⟩,⟨30,2,1,boxF (nz (sg q n i))⟩]) (fun i=>(dvs n).length-i) (fun i=>i≤(dvs n).length) 0 rfl ?start (Nat.zero_le _) ?round
 case start =>
  exact Weak.gen [some 0,some 1] rfl ⟨Rf.boxU rfl rfl rfl,Rf.boxU rfl rfl rfl,trivial⟩ ⟨⟨_,rfl,rfl⟩,⟨_,rfl,rfl⟩,⟨_,rfl,rfl,rfl⟩,⟨_,rfl,rfl⟩,⟨_,rfl,rfl,rfl⟩,.inl ⟨_,_,rfl,rfl,fun _ _ _ _=>rfl⟩,⟨_,rfl,rfl⟩,trivial⟩
 case round =>
  intro i hi
  by_cases hlt:i<(dvs n).length
  ·have kC':=kC' i hlt
   have kO:=kO i hlt
   have kW:=kW i hlt
   have kA:=kA i hlt
   conv=>whnf
   refine bpos (show decide ((i:Int)<((dvs n).length:Nat))=true from decide_eq_true (by omega)) ?_
   conv=>whnf
   refine⟨by omega,by show(i:Int)<((dvs n).length:Nat);omega,?_⟩
   conv=>whnf
   refine⟨_,kC',?_⟩
   conv=>whnf
   refine⟨by omega,by show(i:Int)<((dvs n).length:Nat);omega,?_⟩
   conv=>whnf
   refine⟨_,kO,?_⟩
   conv=>whnf
   refine⟨_,kW,?_⟩
   conv=>whnf
   refine⟨_,kA,?_⟩
   conv=>whnf
   refine⟨Fp.i64 (by omega) (by omega),?_⟩
   conv=>whnf
   exact⟨i+1,by omega,Weak.gen [some 0,some 1] rfl ⟨Rf.boxK rfl rfl,Rf.boxU rfl rfl rfl,trivial⟩ ⟨⟨_,rfl,rfl⟩,⟨_,rfl,rfl⟩,⟨_,rfl,rfl,rfl⟩,⟨_,rfl,rfl⟩,⟨_,rfl,rfl,rfl⟩,.inl ⟨_,_,rfl,rfl,fun _ _ _ _=>rfl⟩,⟨_,rfl,rfl⟩,trivial⟩,by omega⟩
  ·obtain rfl:i=(dvs n).length:=by omega
   conv=>whnf
   refine bneg (show decide (((dvs n).length:Int)<((dvs n).length:Nat))=false from decide_eq_false (by omega)) ?_
   conv=>whnf
   refine⟨_,kR,?_⟩
   conv=>whnf
   refine⟨_,s1,?_⟩
   conv=>whnf
   refine⟨_,kq,?_⟩
   conv=>whnf
   refine⟨_,kP,?_⟩
   conv=>whnf
   refine⟨_,s2,?_⟩
   conv=>whnf
   exact⟨rfl,Sub.refl _⟩
set_option maxRecDepth 100000 in
set_option maxHeartbeats 16000000 in
theorem low3 (hw:FnOK Tryz.prog true 5 [] (.c (.bool true))) {q n J:Nat} [hp:Prm (q:Int)] (hm:Fp.md (q:Int)) (hn1:1≤n) (hn:n≤64) (h12:n≤12) (hJ:J<(q:Int).toNat^n) (hJi:Pol.Irr (mnp n J:Pol (Zp (q:Int)))) (hJm:∀ j,j<J->¬ Pol.Irr (mnp n j:Pol (Zp (q:Int)))) (g1:1000<q) (g3:n≤4):FnOK Tryz.prog true 3 [.c (.int .i64 (q:Int)),.c (.int .i64 (n:Int))] (.c (.bool true)):=by
 have hm1:=hm.1
 have hm2:=hm.2.1
 have kM:=refM_yes hm
 have kC:=count_ok hm hn1 hn
 have kD:=(rdv_at hn1 hn).weak (r:=true)
 have hN:=dvs_len hn
 have hdv:=fun i hi=>dvs_mem (n:=n) (i:=i) hi
 have k0:=(rof_ok (x:=0) (by decide) (by decide)).weak (r:=true)
 have kq:=(rof_ok (x:=(q:Int)) (by omega) (by omega)).weak (r:=true)
 have hz:=fun i hi=>sg_zl (q:=q) (n:=n) (by omega) hn (i:=i) hi
 have ht:=fun i hi=>sgt_zl (q:=q) (n:=n) (by omega) hn (i:=i) hi
 have kR:=(rcount_ok hm hn1 hn).weak (r:=true)
 have kP:=(raised_ok (x:=q) (n:=n) (by omega) hn).weak (r:=true)
 have s1:=(same_nz (x:=cnt q n) (y:=cnt q n) (by have:=cnt_zl (q:=q) (n:=n) (by omega) hn;omega)).weak (r:=true)
 rw[decide_eq_true rfl]at s1
 have s2:=(same_nz (x:=sg q n (dvs n).length) (y:=((q^n:Nat):Int)) (by have:=hz _ (Nat.le_refl _);omega)).weak (r:=true)
 rw[decide_eq_true (show sg q n (dvs n).length=((q^n:Nat):Int)from gauss q hn1 hn fun i hi=>⟨(hdv i hi).1,by have:=(hdv i hi).2.1;omega⟩)]at s2
 have kC':=fun i (hi:i<(dvs n).length)=>count_ok (n:=dvf n i) hm (hdv i hi).1 (by have:=(hdv i hi).2.1;omega)
 have kO:=fun i (hi:i<(dvs n).length)=>(rof_ok (x:=(dvf n i:Int)) (by omega) (by have:=(hdv i hi).2.1;omega)).weak (r:=true)
 have kW:=fun i (hi:i<(dvs n).length)=>(zmul_c (a:=cnt q (dvf n i)) (b:=(dvf n i:Int)) (by have:=ht i hi;omega)).weak (r:=true)
 have kA:=fun i (hi:i<(dvs n).length)=>(zadd_c (x:=sg q n i) (y:=cnt q (dvf n i)*dvf n i) (by have:=hz i (by omega);omega) (by have:=ht i hi;omega)).weak (r:=true)
 have kF:=First_ok hm hn1 h12 hJ hJi hJm
 have kI:=(rirr_irr hm (g:=(mnp n J:Pol (Zp (q:Int)))) (by rw[mnp_len];omega) hJi).weak (r:=true)
 have kL:=least_ok hm hn1 h12 hJ hJm
 rw[mnp_pl]at kF kI kL
 have top:((mnp n J:Pol (Zp (q:Int))).f n).v=1:=by rw[mnp_top]
 refine fn_ok (E:=E1) E1_ok Tryz.func3 rfl mixed (by kernel_rfl) (by kernel_rfl) ?_
 conv=>whnf
 refine⟨_,hw,?_⟩
 conv=>whnf
 refine bpos (show gw true (decide ((1000:Int)<(q:Int)))=true by rw[decide_eq_true (by omega)];rfl) ?_
 conv=>whnf
 refine bpos (show gw true (decide ((q:Int)≤(65521:Int)))=true by rw[decide_eq_true (by omega)];rfl) ?_
 conv=>whnf
 refine bneg (show gw true (decide ((4:Int)<(n:Int)))=false by rw[decide_eq_false (by omega)];rfl) ?_
 conv=>whnf
 refine⟨_,kF,?_⟩
 conv=>whnf
 refine⟨_,kC,?_⟩
 conv=>whnf
 refine⟨_,kM,?_⟩
 conv=>whnf
 refine bpos (show gw false (decide ((n:Int)<1))=true by rw[decide_eq_false (by omega)];rfl) ?_
 conv=>whnf
 refine bneg (show decide ((12:Int)<(n:Int))=false from decide_eq_false (by omega)) ?_
 conv=>whnf
 refine⟨Fp.i64 (by omega) (by omega),?_⟩
 conv=>whnf
 refine bpos (show gw false (!decide (((n+1:Nat):Int)=(n:Int)+1))=true by rw[decide_eq_true (by omega)];rfl) ?_
 conv=>whnf
 refine⟨by omega,by show(n:Int)<((n+1:Nat):Int);omega,?_⟩
 conv=>whnf
 refine bpos (show gw false (!decide (((mnp n J:Pol (Zp (q:Int))).f n).v=1))=true by rw[top];rfl) ?_
 conv=>whnf
 refine .inr ?_
 conv=>whnf
 refine⟨_,kI,?_⟩
 conv=>whnf
 refine⟨_,kL,?_⟩
 conv=>whnf
 refine bpos (show gw false (decide ((n:Int)<1))=true by rw[decide_eq_false (by omega)];rfl) ?_
 conv=>whnf
 refine bneg (show decide ((64:Int)<(n:Int))=false from decide_eq_false (by omega)) ?_
 conv=>whnf
 refine⟨_,k0,?_⟩
 conv=>whnf
 refine⟨_,kD,?_⟩
 conv=>whnf
 refine loop_ints (fun i:Nat=>gst [(0,.c (.int .i64 q)),(1,.c (.int .i64 n)),(7,.c (.p 0 0 2 0 0)),(8,.c (.int .i64 0)),(9,.c (.p 1 0 2 0 0)),(10,.c (il (dvs n).length fun i=>(dvf n i:Int))),(11,.c (.int .i64 i))] [⟨30,2,1,boxF (nz (cnt q n))⟩,⟨30,2,1,boxF (nz (sg q n i))⟩]) (fun i=>(dvs n).length-i) (fun i=>i≤(dvs n).length) 0 rfl ?start (Nat.zero_le _) ?round
 case start =>
  exact Weak.gen [some 0,some 1] rfl ⟨Rf.boxU rfl rfl rfl,Rf.boxU rfl rfl rfl,trivial⟩ ⟨⟨_,rfl,rfl⟩,⟨_,rfl,rfl⟩,⟨_,rfl,rfl,rfl⟩,⟨_,rfl,rfl⟩,⟨_,rfl,rfl,rfl⟩,.inl ⟨_,_,rfl,rfl,fun _ _ _ _=>rfl⟩,⟨_,rfl,rfl⟩,trivial⟩
 case round =>
  intro i hi
  by_cases hlt:i<(dvs n).length
  ·have kC':=kC' i hlt
   have kO:=kO i hlt
   have kW:=kW i hlt
   have kA:=kA i hlt
   conv=>whnf
   refine bpos (show decide ((i:Int)<((dvs n).length:Nat))=true from decide_eq_true (by omega)) ?_
   conv=>whnf
   refine⟨by omega,by show(i:Int)<((dvs n).length:Nat);omega,?_⟩
   conv=>whnf
   refine⟨_,kC',?_⟩
   conv=>whnf
   refine⟨by omega,by show(i:Int)<((dvs n).length:Nat);omega,?_⟩
   conv=>whnf
   refine⟨_,kO,?_⟩
   conv=>whnf
   refine⟨_,kW,?_⟩
   conv=>whnf
   refine⟨_,kA,?_⟩
   conv=>whnf
   refine⟨Fp.i64 (by omega) (by omega),?_⟩
   conv=>whnf
   exact⟨i+1,by omega,Weak.gen [some 0,some 1] rfl ⟨Rf.boxK rfl rfl,Rf.boxU rfl rfl rfl,trivial⟩ ⟨⟨_,rfl,rfl⟩,⟨_,rfl,rfl⟩,⟨_,rfl,rfl,rfl⟩,⟨_,rfl,rfl⟩,⟨_,rfl,rfl,rfl⟩,.inl ⟨_,_,rfl,rfl,fun _ _ _ _=>rfl⟩,⟨_,rfl,rfl⟩,trivial⟩,by omega⟩
  ·obtain rfl:i=(dvs n).length:=by omega
   conv=>whnf
   refine bneg (show decide (((dvs n).length:Int)<((dvs n).length:Nat))=false from decide_eq_false (by omega)) ?_
   conv=>whnf
   refine⟨_,kR,?_⟩
   conv=>whnf
   refine⟨_,s1,?_⟩
   conv=>whnf
   refine⟨_,kq,?_⟩
   conv=>whnf
   refine⟨_,kP,?_⟩
   conv=>whnf
   refine⟨_,s2,?_⟩
   conv=>whnf
   exact⟨rfl,Sub.refl _⟩
end Cn
end Go.Proofs.YtibaocbpeaejkaaGreat
/- Integers as arguments, opened. -/
namespace Go.Proofs.YtibaocbpeaejkaaGreat
open Go.ChangeShapes Go.WideShapes Go.ChangeAt Go.RowKit
set_option maxRecDepth 100000
theorem open_i64 {H:Type} {enc:TypeId × Value->H} {w:World} {sp:Nat->Bool} {held:Bool} {r:Reach} {b0 t:Nat} {v:Value} {d:DataW H} {ps:List MemPlace} (ht:Tryz.prog.underlying t=some (.int .i64)) (hval:Value.okWide Tryz.prog w r b0 t v) (hd:DataW.Trod enc Tryz.prog w 0 sp held t v d ps):∃ n:Int,VRel (fun _=>False) w [] (.c (.int .i64 n)) v:=by
 obtain⟨fuel,hf⟩:=hd
 obtain⟨n,e,_⟩:=cell_int ht hf
 have hc:v.cells.toList=[v]:=by
  cases v with
  | agg cs=>simp[Value.okWide,ht,Cell.okWide,Cell.ok]at hval
  | _=>rfl
 rw[hc]at e
 cases e
 exact⟨n,rfl⟩
end Go.Proofs.YtibaocbpeaejkaaGreat
/- The law FpolyCounts: its call, under what its arguments read as. -/
namespace Go.Proofs.YtibaocbpeaejkaaGreat
open Go.ChangeShapes Go.WideShapes Go.ChangeAt Go.RowKit
namespace Cn
theorem counts_ok (p n:Int):FnOK Tryz.prog true 3 [.c (.int .i64 p),.c (.int .i64 n)] (.c (.bool true)):=by
 have hw:=awakeF
 by_cases hb:1000<p/\p≤65521/\4<n/\n≤12
 ·exact big hw hb.1 hb.2.1 hb.2.2.1 hb.2.2.2
 by_cases hm:Fp.md p
 ·have hm1:=hm.1
  have hm2:=hm.2.1
  by_cases hn:n<1∨64<n
  ·by_cases h1:p≤1000
   ·by_cases h2:n<1
    ·exact out10 hw hm h2 h1
    ·exact out11 hw hm (by omega) h1
   ·by_cases h2:n<1
    ·exact out30 hw hm h2 (by omega) (by omega) (by omega)
    ·exact out41 hw hm (by omega) (by omega) (by omega) (by omega) (by omega)
  ·obtain⟨q,rfl⟩:∃ q:Nat,p=q:=⟨p.toNat,by omega⟩
   obtain⟨m,rfl⟩:∃ m:Nat,n=m:=⟨n.toNat,by omega⟩
   have hn1:1≤m:=by omega
   have hn2:m≤64:=by omega
   by_cases h12:m≤12
   ·haveI:=md_prm hm
    obtain⟨J,hJ,hJi,hJm⟩:=first_ex (p:=(q:Int)) hn1
    by_cases h1:q≤1000
    ·exact low1 hw hm hn1 hn2 h12 hJ hJi hJm h1
    ·exact low3 hw hm hn1 hn2 h12 hJ hJi hJm (by omega) (by omega)
   ·by_cases h1:q≤1000
    ·exact mid1 hw hm hn1 hn2 (by omega) h1
    ·exact mid4 hw hm hn1 hn2 (by omega) (by omega) (by omega)
 ·by_cases h1:p≤1000
  ·exact bad1 hw hm h1
  by_cases h2:65521<p
  ·exact bad2 hw hm (by omega) h2
  by_cases h3:n≤4
  ·exact bad3 hw hm (by omega) (by omega) h3
  ·exact bad4 hw hm (by omega) (by omega) (by omega) (by omega)
end Cn
set_option maxRecDepth 100000 in
theorem walk_FpolyCounts {H : Type} {enc : TypeId × Value → H} {W : World} {base : Nat} {v0 v1 : Value} {d0 d1 : DataW H} {p0 p1 : List MemPlace}
  (u0:Value.okWide Tryz.prog W .any base 3 v0) (h0:DataW.Trod enc Tryz.prog W 0 (fun _=>true) true 3 v0 d0 p0)
  (u1:Value.okWide Tryz.prog W .any base 3 v1) (h1:DataW.Trod enc Tryz.prog W 0 (fun _=>true) true 3 v1 d1 p1) :
  Calls Tryz.prog 3 #[v0,v1] W fun e w'=>e = .returned (.bool true)/\Below W.heap.size W w':=by
 obtain⟨p,g0⟩:=open_i64 Tryz.underlying3 u0 h0
 obtain⟨n,g1⟩:=open_i64 Tryz.underlying3 u1 h1
 exact law_call (vs:=[v0,v1]) (Cn.counts_ok p n) ⟨g0,g1,trivial⟩
end Go.Proofs.YtibaocbpeaejkaaGreat
