/- The program's fpoly.halves, over polynomials. -/
import Derived.Test.YtibaocbpeaejkaaGreatUk11
import Derived.Shelf.SlSortCmp.WholeK
import Derived.Test.YtibaocbpeaejkaaGreatUk4
import Derived.Deep.Draws
namespace Go.Proofs.YtibaocbpeaejkaaGreat
open Go.RowKit
section
variable {p:Int} [hp:Prm p] (hm:Fp.md p)
theorem ofP_one:ofP (1:Pol (Zp p))=(1,fun i=>if i=0 then 1 else 0):=by
 have h1:(1:Int)%p=1:=Int.emod_eq_of_lt (by omega) (by have:=hp.two;omega)
 refine Prod.ext Pol.len_one (funext fun i=>?_)
 show(if i=0 then(1:Zp p)else 0).v=if i=0 then 1 else 0
 split
 ·exact h1
 ·exact Int.zero_emod p
theorem divmod_nz {x y:Int} (hx:zlen x≤1000000) (h0:y≠0) (hy:zlen y≤1000000:=by decide):FnOK Tryz.prog true 85 [.g (nz x),.g (nz y)] (.t3 (.g (nz (x / y))) (.g (nz (x%y))) (.c (.int .i64 0))):=by
 have:=divmod_ok (a:=ofZ x) (b:=ofZ y) (ofZ_ok x) (ofZ_ok y) (by show zlen x+2≤LIM;unfold LIM;omega) (by show zlen y+1≤LIM;unfold LIM;omega) (by rw[ofZ_val];exact h0)
 rw[ofZ_val,ofZ_val]at this
 exact this
abbrev oneV:V := .c (.row 1 1 (rowF 1 [.int .i64 1]))
theorem sub_oneV:Sub oneV (pl (1:Pol (Zp p))):=by
 show Sub _ (Fp.cl (ofP (1:Pol (Zp p))))
 rw[ofP_one]
 refine subRowG rfl fun i j hi hj=>?_
 match i,j,hi,hj with
 | 0,0,_,_=>rfl
include hm
theorem subs_one {a:Pol (Zp p)} (ha:a.len≤4096):FnOK Tryz.prog false 132 [.c (.int .i64 p),pl a,oneV,.c (.int .i64 (p-1))] (pl (a-1)):=by
 refine Fp.arg_ok (subs_P hm ha (by rw[Pol.len_one];omega)) fun D w vs h=>?_
 match vs,h with
 | [v0,v1,v2,v3],⟨h0,h1,h2,h3,h4⟩=>exact⟨h0,h1,sub_oneV D w v2 h2,h3,h4⟩
omit hp hm in
theorem digs_len {e k:Nat} (h:e<4294967296^k):(digs e).length≤k:=by
 have:=zlen_nat e k h
 unfold zlen at this
 rwa [Int.natAbs_natCast]at this
set_option maxHeartbeats 8000000 in
theorem halves_odd {d:Nat} {f t:Pol (Zp p)} (h2:p≠2) (hd:1≤d) (hd2:d≤64) (hf:f≠0) (lf:f.len≤1024) (lt:t.len≤4096):FnOK Tryz.prog true 133 [.c (.int .i64 p),.c (.int .i64 d),pl f,pl t] (pl (Pol.rm (Crg.pw t (p.toNat^d / 2)) f-1)):=by
 have hm1:=hm.1
 have hm2:=hm.2.1
 have hq:(p.toNat:Int)=p:=by omega
 have hlt:p.toNat^d<4294967296^d:=Nat.pow_lt_pow_left (by omega) (by omega)
 have k0:=of_ok (x:=p) (by omega) (by omega)
 have k1:=pow_ok (x:=p.toNat) (n:=d) (by omega) (by omega) hd hd2
 rw[hq]at k1
 have k2:=of_ok (x:=2) (by decide) (by decide)
 have z1:zlen ((p.toNat^d:Nat):Int)≤d:=zlen_nat _ _ hlt
 have k3:=divmod_nz (x:=((p.toNat^d:Nat):Int)) (y:=2) (by omega) (by decide)
 have e3:((p.toNat^d:Nat):Int) / 2=((p.toNat^d / 2:Nat):Int):=(Int.natCast_ediv _ 2).symm
 rw[e3]at k3
 have k4:=(powMod_P hm (a:=t) (m:=f) (e:=p.toNat^d / 2) lt hf lf (Nat.le_trans (digs_len (k:=d) (by have:=Nat.div_le_self (p.toNat^d) 2;omega)) (by omega))).weak (r:=true)
 have lr:(Pol.rm (Crg.pw t (p.toNat^d / 2)) f).len≤4096:=by have:=(Pol.rm_spec (Crg.pw t (p.toNat^d / 2)) hf).2;omega
 have k5:=(subs_one hm lr).weak (r:=true)
 generalize ((p.toNat^d:Nat):Int)%2=r at *
 generalize hP:((p.toNat^d:Nat):Int)=P at *
 generalize ((p.toNat^d / 2:Nat):Int)=H at *
 generalize Pol.rm (Crg.pw t (p.toNat^d / 2)) f-1=R at *
 generalize Pol.rm (Crg.pw t (p.toNat^d / 2)) f=R0 at *
 refine fn_ok (E:=E1) E1_ok Tryz.func133 rfl mixed (by kernel_rfl) (by kernel_rfl) ?_
 conv=>whnf
 refine bneg (show decide (p=2)=false from decide_eq_false h2) ?_
 conv=>whnf
 refine⟨_,k0,?_⟩
 conv=>whnf
 refine⟨_,k1,?_⟩
 conv=>whnf
 refine⟨_,k2,?_⟩
 conv=>whnf
 refine⟨_,k3,?_⟩
 conv=>whnf
 refine⟨_,k4,?_⟩
 conv=>whnf
 refine⟨Fp.i64 (by omega) (by omega),?_⟩
 conv=>whnf
 refine⟨fun i j hi hj=>?_,?_⟩
 ·match i,j,hi,hj with
  | 0,0,_,_=>rfl
 conv=>whnf
 refine⟨_,k5,?_⟩
 conv=>whnf
 exact⟨rfl,Sub.refl _⟩
noncomputable def hv2 (f t : Pol (Zp p)) : Nat → Pol (Zp p) × Pol (Zp p)
 | 0=>(t,t)
 | n+1=>((hv2 f t n).1+Pol.rm ((hv2 f t n).2*(hv2 f t n).2) f,Pol.rm ((hv2 f t n).2*(hv2 f t n).2) f)
omit hm in
theorem hv2_len {f t : Pol (Zp p)} (hf : f ≠ 0) (lt : t.len ≤ 1024) (lf : f.len ≤ 1024) : ∀ n, (hv2 f t n).1.len ≤ 1024 ∧ (hv2 f t n).2.len ≤ 1024
 | 0=>⟨lt,lt⟩
 | n+1=>by
  obtain⟨h1,h2⟩:=hv2_len hf lt lf n
  have h3:=(Pol.rm_spec ((hv2 f t n).2*(hv2 f t n).2) hf).2
  have h4:=Pol.len_add (hv2 f t n).1 (Pol.rm ((hv2 f t n).2*(hv2 f t n).2) f)
  exact⟨by show((hv2 f t n).1+Pol.rm ((hv2 f t n).2*(hv2 f t n).2) f).len≤1024;omega,by show(Pol.rm ((hv2 f t n).2*(hv2 f t n).2) f).len≤1024;omega⟩
set_option maxHeartbeats 8000000 in
theorem halves_two {d:Nat} {f t:Pol (Zp p)} (h2:p=2) (hd:1≤d) (hd2:d≤64) (hf:f≠0) (lf:f.len≤1024) (lt:t.len≤1024):FnOK Tryz.prog true 133 [.c (.int .i64 p),.c (.int .i64 d),pl f,pl t] (pl (hv2 f t (d-1)).1):=by
 have hl:=hv2_len hf lt lf
 have k1:=fun n=>(times_P hm (hl n).2 (hl n).2).weak (r:=true)
 have k2:∀ n,FnOK Tryz.prog true 104 [.c (.int .i64 p),pl ((hv2 f t n).2*(hv2 f t n).2),pl f] (.t2 (pl (Pol.qo ((hv2 f t n).2*(hv2 f t n).2) f)) (pl (hv2 f t (n+1)).2)):=fun n=>by
  have h3:=Pol.len_mul_le (hv2 f t n).2 (hv2 f t n).2
  have h4:=hl n
  exact(divide_P hm (by omega) (by omega) (Pol.qo_spec _ hf) (Pol.rm_spec _ hf).2).weak
 have k3:∀ n,FnOK Tryz.prog true 132 [.c (.int .i64 p),pl (hv2 f t n).1,pl (hv2 f t (n+1)).2,.c (.int .i64 1)] (pl (hv2 f t (n+1)).1):=fun n=>(adds_P hm (by have:=hl n;omega) (by have:=hl (n+1);omega)).weak
 clear hl
 refine fn_ok (E:=E1) E1_ok Tryz.func133 rfl mixed (by kernel_rfl) (by kernel_rfl) ?_
 conv=>whnf
 refine bpos (show decide (p=2)=true from decide_eq_true h2) ?_
 conv=>whnf
 refine⟨Fp.i64 (by omega) (by omega),?_⟩
 conv=>whnf
 refine loop_ints (fun j:Nat=>gst [(0,.c (.int .i64 p)),(2,pl f),(9,pl (hv2 f t j).1),(10,pl (hv2 f t j).2),(18,.c (.int .i64 ((d:Int)-1))),(19,.c (.int .i64 j))] []) (fun j=>d-j) (fun j=>j≤d-1) 0 rfl ?_ (Nat.zero_le _) fun j hj=>?_
 ·exact Weak.gen [] rfl trivial ⟨⟨_,rfl,rfl⟩,.inl ⟨_,_,rfl,rfl,fun _ _ _ _=>rfl⟩,.inl ⟨_,_,rfl,rfl,fun _ _ _ _=>rfl⟩,.inl ⟨_,_,rfl,rfl,fun _ _ _ _=>rfl⟩,⟨_,rfl,rfl⟩,⟨_,rfl,rfl⟩,trivial⟩
 have k1:=k1 j
 have k2:=k2 j
 have k3:=k3 j
 conv=>whnf
 refine bcase (fun(h:decide ((j:Int)<(d:Int)-1)=true)=>?_) fun(h:decide ((j:Int)<(d:Int)-1)=false)=>?_
 ·have h:=of_decide_eq_true h
  conv=>whnf
  refine⟨_,k1,?_⟩
  conv=>whnf
  refine⟨_,k2,?_⟩
  conv=>whnf
  refine⟨_,k3,?_⟩
  conv=>whnf
  refine⟨Fp.i64 (by omega) (by omega),?_⟩
  conv=>whnf
  exact⟨j+1,by omega,Weak.gen [] rfl trivial ⟨⟨_,rfl,rfl⟩,.inl ⟨_,_,rfl,rfl,fun _ _ _ _=>rfl⟩,.inl ⟨_,_,rfl,rfl,fun _ _ _ _=>rfl⟩,.inl ⟨_,_,rfl,rfl,fun _ _ _ _=>rfl⟩,⟨_,rfl,rfl⟩,⟨_,rfl,rfl⟩,trivial⟩,by omega⟩
 ·have h:=of_decide_eq_false h
  have hj1:j=d-1:=by omega
  subst hj1
  conv=>whnf
  exact⟨rfl,Sub.refl _⟩
end
end Go.Proofs.YtibaocbpeaejkaaGreat
/- The program's fpoly.byDegree, over polynomials. -/
namespace Go.Proofs.YtibaocbpeaejkaaGreat
open Go.RowKit
section
variable {p:Int} [hp:Prm p] (hm:Fp.md p)
noncomputable abbrev pc (a:Pol (Zp p)):Cell:=il (ofP a).1 (ofP a).2
structure ByD (f : Pol (Zp p)) (N : Nat) (o : Nat → Pol (Zp p)) : Prop where
 ne:∀ i,i<N->o i≠0/\(o i).lead=1/\Pol.Dvs (o i) f
 irr:∀ i,i<N->∀ P,Pol.Irr P->(Pol.Dvs P (o i)↔Pol.Dvs P f/\P.len=i+1)
theorem ByD.one {f:Pol (Zp p)}:ByD f 1 fun _=>1 :=
 ⟨fun i _=>⟨Pol.one_ne,lead_one,Pol.Dvs.one f⟩,fun i hi P hP=>⟨fun h=>absurd h hP.not_one,fun h=>by have:=hP.two;omega⟩⟩
theorem ByD.add {f g:Pol (Zp p)} {d:Nat} {o:Nat->Pol (Zp p)} (h:ByD f d o) (g0:g≠0) (gl:g.lead=1) (gd:Pol.Dvs g f) (gi:∀ P,Pol.Irr P->(Pol.Dvs P g↔Pol.Dvs P f/\P.len=d+1)):ByD f (d+1) fun i=>if i=d then g else o i:=by
 refine⟨fun i hi=>?_,fun i hi P hP=>?_⟩
 ·show(if i=d then g else o i)≠0/\(if i=d then g else o i).lead=1/\_
  by_cases e:i=d
  ·rw[if_pos e];exact⟨g0,gl,gd⟩
  ·rw[if_neg e];exact h.ne i (by omega)
 ·show Pol.Dvs P (if i=d then g else o i)↔_
  by_cases e:i=d
  ·rw[if_pos e,e];exact gi P hP
  ·rw[if_neg e];exact h.irr i (by omega) P hP
theorem ByD.fin {f c w:Pol (Zp p)} {d:Nat} {o:Nat->Pol (Zp p)} (_:ByD f d o) (b:BdI f d c w) (hc:c.len≤1):∀ P,Pol.Irr P->Pol.Dvs P f->P.len≤d:=fun P hP hd=>by
 rcases Nat.lt_or_ge d P.len with h | h
 ·have:=((b.irr P hP).2 ⟨hd,h⟩).len b.ne
  have:=hP.two
  omega
 ·exact h
theorem ByD.pad {f c w:Pol (Zp p)} {d m:Nat} {o:Nat->Pol (Zp p)} (h:ByD f m o) (b:BdI f d c w) (hi:Pol.Irr c) (hdm:d≤m) (hm:m<c.len-1):ByD f (m+1) fun i=>if i=m then 1 else o i:=by
 refine h.add Pol.one_ne lead_one (Pol.Dvs.one f) fun P hP=>⟨fun k=>absurd k hP.not_one,fun⟨k1,k2⟩=>?_⟩
 have k3:=(b.irr P hP).2 ⟨k1,by omega⟩
 obtain⟨x,hx⟩:=k3
 rcases hi.irr P x hx with h1 | h1
 ·have:=hP.two;omega
 ·have hx0:x≠0:=Pol.ne_of_len (by omega)
  have:=Pol.len_mul hP.ne hx0
  rw[← hx]at this
  omega
theorem ByD.last {f c w:Pol (Zp p)} {d m:Nat} {o:Nat->Pol (Zp p)} (h:ByD f m o) (b:BdI f d c w) (hi:Pol.Irr c) (hdm:d≤m) (hm:c.len=m+1):(ByD f (m+1) fun i=>if i=m then c else o i)/\∀ P,Pol.Irr P->Pol.Dvs P f->P.len≤m+1:=by
 have key:∀ P,Pol.Irr P->Pol.Dvs P c->P.len=m+1:=fun P hP ⟨x,hx⟩=>by
  rcases hi.irr P x hx with h1 | h1
  ·have:=hP.two;omega
  ·have hx0:x≠0:=Pol.ne_of_len (by omega)
   have:=Pol.len_mul hP.ne hx0
   rw[← hx]at this
   omega
 refine⟨h.add b.ne b.lead b.dv fun P hP=>⟨fun k=>⟨k.trans b.dv,key P hP k⟩,fun⟨k1,k2⟩=>(b.irr P hP).2 ⟨k1,by omega⟩⟩,fun P hP hd=>?_⟩
 rcases Nat.lt_or_ge P.len (d+1)with h1 | h1
 ·omega
 ·have:=key P hP ((b.irr P hP).2 ⟨hd,h1⟩)
  omega
theorem Gc.eq {a b g g':Pol (Zp p)} (h:Gc a b g) (h':Gc a b g'):g'=g:=by
 have h1:=h'.gr g h.da h.db
 have h2:=(h.gr g' h'.da h'.db).len h.ne
 obtain⟨x,hx⟩:=h1
 have hx0:x≠0:=fun e=>h'.ne (by rw[hx,e,Crg.mul_zero])
 have l1:=Pol.len_mul h.ne hx0
 rw[← hx]at l1
 have l5:=Pol.len_pos hx0
 have l6:=Pol.lead_mul h.ne hx0
 rw[← hx,h'.lead,h.lead,Crg.one_mul]at l6
 rw[hx,one_of_len hx0 (by omega) l6.symm,Crg.mul_one]
noncomputable def Pol.gd (a b:Pol (Zp p)):Pol (Zp p):=open Classical in if h:∃ g,Gc a b g then h.choose else 0
theorem Gc.gd {a b g:Pol (Zp p)} (h:Gc a b g):Pol.gd a b=g:=by
 have hx:∃ g,Gc a b g:=⟨g,h⟩
 unfold Pol.gd
 rw[dif_pos hx]
 exact h.eq hx.choose_spec
theorem qo_dvs {a g:Pol (Zp p)} (hg:g≠0) (h:Pol.Dvs g a):a=Pol.qo a g*g:=by
 obtain⟨x,hx⟩:=h
 obtain⟨e,_⟩:=div_unique (a:=a) (b:=g) (q:=x) (r:=0) (by rw[Crg.add_zero,Crg.mul_comm];exact hx) (by rw[Pol.len_zero];exact Pol.len_pos hg) (Pol.qo_spec a hg) (Pol.rm_spec a hg).2
 rw[e,Crg.mul_comm]
 exact hx
include hm in
theorem gd_P {a b:Pol (Zp p)} (ha:a.len≤4096) (hb:b.len≤4096) (hne:a≠0∨b≠0):Gc a b (Pol.gd a b)/\FnOK Tryz.prog false 103 [.c (.int .i64 p),pl a,pl b] (pl (Pol.gd a b)):=by
 obtain⟨g,h1,h2⟩:=gcd_P hm ha hb hne
 rw[h1.gd]
 exact⟨h1,h2⟩
theorem qo_P (hm:Fp.md p) {a g:Pol (Zp p)} (ha:a.len≤4096) (hg:g≠0) (hl:g.len≤4096) (h:Pol.Dvs g a):FnOK Tryz.prog false 104 [.c (.int .i64 p),pl a,pl g] (.t2 (pl (Pol.qo a g)) (pl (0:Pol (Zp p)))) :=
 divide_P hm ha hl (by rw[Crg.add_zero];exact qo_dvs hg h) (by rw[Pol.len_zero];exact Pol.len_pos hg)
theorem rm_P (hm:Fp.md p) {a m:Pol (Zp p)} (ha:a.len≤4096) (h0:m≠0) (hl:m.len≤4096):FnOK Tryz.prog false 104 [.c (.int .i64 p),pl a,pl m] (.t2 (pl (Pol.qo a m)) (pl (Pol.rm a m))) :=
 divide_P hm ha hl (Pol.qo_spec a h0) (Pol.rm_spec a h0).2
theorem X_len:(Pol.X:Pol (Zp p)).len=2:=congrArg Prod.fst (ofP_X (p:=p))
noncomputable def bdS (f : Pol (Zp p)) : Nat → Pol (Zp p) × Pol (Zp p) × (Nat → Pol (Zp p))
 | 0=>(f,Pol.X,fun _=>1)
 | j+1=>(Pol.qo (bdS f j).1 (Pol.gd (bdS f j).1 (Pol.rm (Crg.pw (bdS f j).2.1 p.toNat) (bdS f j).1-Pol.X)),Pol.rm (Pol.rm (Crg.pw (bdS f j).2.1 p.toNat) (bdS f j).1) (Pol.qo (bdS f j).1 (Pol.gd (bdS f j).1 (Pol.rm (Crg.pw (bdS f j).2.1 p.toNat) (bdS f j).1-Pol.X))),fun i=>if i=j+1 then Pol.gd (bdS f j).1 (Pol.rm (Crg.pw (bdS f j).2.1 p.toNat) (bdS f j).1-Pol.X)else(bdS f j).2.2 i)
structure BdR (f : Pol (Zp p)) (j : Nat) (c w : Pol (Zp p)) (o : Nat → Pol (Zp p)) : Prop where
 i:BdI f (j+1) c w
 o:ByD f (j+1) o
 cl:c.len≤f.len
 wl:w.len≤1024
theorem bdS_step {f c w : Pol (Zp p)} {j : Nat} {o : Nat → Pol (Zp p)} (hm : Fp.md p) (hs : Pol.Sqf f) (lf : f.len ≤ 1024) (h : BdR f j c w o) :
  let w':=Pol.rm (Crg.pw w p.toNat) c
  let g:=Pol.gd c (w'-Pol.X)
  BdR f (j+1) (Pol.qo c g) (Pol.rm w' (Pol.qo c g)) (fun i=>if i=j+1 then g else o i)/\FnOK Tryz.prog false 131 [.c (.int .i64 p),pl w,.g (nz p),pl c] (pl w')/\FnOK Tryz.prog false 132 [.c (.int .i64 p),pl w',pl (Pol.X:Pol (Zp p)),.c (.int .i64 (p-1))] (pl (w'-Pol.X))/\FnOK Tryz.prog false 103 [.c (.int .i64 p),pl c,pl (w'-Pol.X)] (pl g)/\FnOK Tryz.prog false 104 [.c (.int .i64 p),pl c,pl g] (.t2 (pl (Pol.qo c g)) (pl (0:Pol (Zp p))))/\FnOK Tryz.prog false 104 [.c (.int .i64 p),pl w',pl (Pol.qo c g)] (.t2 (pl (Pol.qo w' (Pol.qo c g))) (pl (Pol.rm w' (Pol.qo c g)))):=by
 intro w' g
 have hm1:=hm.1
 have hm2:=hm.2.1
 have hX:=X_len (p:=p)
 have lc:c.len≤1024:=Nat.le_trans h.cl lf
 have k1:=powMod_P hm (a:=w) (m:=c) (e:=p.toNat) (by have:=h.wl;omega) h.i.ne lc (by rw[digs_one (x:=p.toNat) (by omega) (by omega)];exact Nat.le_of_ble_eq_true rfl)
 rw[show((p.toNat:Nat):Int)=p by omega]at k1
 obtain⟨s1,s2⟩:=Pol.rm_spec (Crg.pw w p.toNat) h.i.ne
 have s2:w'.len<c.len:=s2
 have k2:=subs_P hm (a:=w') (b:=(Pol.X:Pol (Zp p))) (by omega) (by omega)
 have l2:(w'-Pol.X).len≤4096:=by
  have:=Pol.len_sub w' (Pol.X:Pol (Zp p))
  omega
 obtain⟨gg,k3⟩:=gd_P hm (a:=c) (b:=w'-Pol.X) (by omega) l2 (.inl h.i.ne)
 have gg:Gc c (w'-Pol.X) g:=gg
 have lg:=gg.da.len h.i.ne
 have k4:=qo_P hm (a:=c) (g:=g) (by omega) gg.ne (by omega) gg.da
 have ec:=qo_dvs gg.ne gg.da
 have q0:Pol.qo c g≠0:=(lead_quo ec h.i.ne h.i.lead gg.lead).1
 have lq:(Pol.qo c g).len≤c.len:=Pol.Dvs.len ⟨g,ec⟩ h.i.ne
 have k5:=rm_P hm (a:=w') (m:=Pol.qo c g) (by omega) q0 (by omega)
 obtain⟨t1,t2⟩:=Pol.rm_spec w' q0
 obtain⟨b1,b2,b3,b4⟩:=h.i.step (by omega) hs s1.symm gg ec t1.symm
 exact⟨⟨b1,h.o.add gg.ne gg.lead b3 b4,Nat.le_trans lq h.cl,by omega⟩,k1,k2,k3,k4,k5⟩
theorem bdS_inv (hm : Fp.md p) {f : Pol (Zp p)} (hs : Pol.Sqf f) (h0 : f ≠ 0) (h1 : f.lead = 1) (lf : f.len ≤ 1024) : ∀ j, BdR f j (bdS f j).1 (bdS f j).2.1 (bdS f j).2.2
 | 0=>⟨BdI.start h0 h1,ByD.one,Nat.le_refl _,by show(Pol.X:Pol (Zp p)).len≤1024;rw[X_len];decide⟩
 | j+1=>(bdS_step hm hs lf (bdS_inv hm hs h0 h1 lf j)).1
end
end Go.Proofs.YtibaocbpeaejkaaGreat
/- The program's fpoly.byDegree: the walk. -/
namespace Go.Proofs.YtibaocbpeaejkaaGreat
open Go.RowKit
theorem ex_least {Q:Nat->Prop} (h:∃ k,Q k):∃ k,Q k/\∀ i,i<k->¬ Q i:=by
  obtain⟨k,hk⟩:=h
  induction k using Nat.strongRecOn with
  | ind k ih =>
    by_cases hx:∃ i,i<k/\Q i
    · obtain⟨i,hi,hq⟩:=hx
      exact ih i hi hq
    · exact⟨k,hk,fun i hi hq=>hx ⟨i,hi,hq⟩⟩
section
variable {p:Int} [hp:Prm p]
theorem pc_one:pc (1:Pol (Zp p))=il 1 fun i=>if i=0 then 1 else 0:=by
  show il (ofP (1:Pol (Zp p))).1 (ofP (1:Pol (Zp p))).2=_
  rw[ofP_one]
theorem reg_one {q:Nat} {bl:List Blk} {ks:List (Option Nat)} {k:Nat} {B:Blk} {e:Cell->Prop} (hB:bl[k]? = some B) (he:e (.gs k B.u)) (hq:q.ble k=true) (hk:(ks.any fun x=>x == some k)=false) (h1:B.st≤1) (h2:B.sz=1) (h3:B.n=1) (h4:B.f 0 0 = .int .i64 1) {a:Pol (Zp p)} (ha:a=1):regC q bl ks (pc a) e:=by
  rw[ha,pc_one]
  refine .inr (.inr ⟨k,B,hB,he,hq,hk,h1,h2,h3,fun i j hi hj=>?_⟩)
  obtain rfl:i=0:=by omega
  obtain rfl:j=0:=by omega
  exact⟨h4,rfl⟩
noncomputable abbrev pcs (h:Nat->Pol (Zp p)):Nat->Nat->Cell:=fun i y=>([pc (h i)]:List Cell).getD y .any
theorem pcs_clos (h:Nat->Pol (Zp p)) {i y:Nat} (hy:y<1):(pcs h i y).clos=true:=by
  obtain rfl:y=0:=by omega
  rfl
theorem app_pcs {h h':Nat->Pol (Zp p)} {a:Pol (Zp p)} {k i y:Nat} (hi:i<k+1) (hy:y<1) (e:h' k=a) (e2:∀ i,i<k->h' i=h i):appF k (pcs h) (rowF 1 [pc a]) i y=pcs h' i y:=by
  obtain rfl:y=0:=by omega
  unfold appF
  by_cases hk:i=k
  · rw[if_neg (by omega),hk,Nat.sub_self,← e];rfl
  · rw[if_pos (by omega)]
    show pc (h i)=pc (h' i)
    rw[e2 i (by omega)]
theorem reg_pc {q:Nat} {bl:List Blk} {ks:List (Option Nat)} {e:Cell->Prop} {a:Pol (Zp p)} (h:e (pc a)):regC q bl ks (pc a) e:=regE h rfl
theorem app_clos {h:Nat->Pol (Zp p)} {a:Pol (Zp p)} {k i y:Nat} (hy:y<1):(appF k (pcs h) (rowF 1 [pc a]) i y).clos=true:=by
  obtain rfl:y=0:=by omega
  unfold appF
  split
  · rfl
  · unfold rowF
    rcases Nat.eq_zero_or_pos (i-k)with e | e
    · rw[e];rfl
    · obtain⟨d,hd⟩:∃ d,(i-k)*1+0=d+1:=⟨(i-k)-1,by omega⟩
      rw[hd];rfl
theorem reg_app1 {q:Nat} {bl:List Blk} {ks:List (Option Nat)} {k:Nat} {B:Blk} (hB:bl[k]? = some B) (hq:q.ble k=true) (hk:(ks.any fun x=>x == some k)=false) (h1:B.st≤1) (h2:B.sz=1) (h3:B.n=1) (h4:B.f 0 0 = .int .i64 1) {h:Nat->Pol (Zp p)} {m i y d:Nat} (hi:i<m+1) (hy:y<1) (hd:d≤m):regC q bl ks (pcs (fun i=>if i<d then h i else 1) i y) fun c=>appF m (pcs fun i=>if i<d then h i else 1) (rowF 1 [.gs k B.u]) i y=c:=by
  obtain rfl:y=0:=by omega
  by_cases e:i<m
  · exact reg_pc (by unfold appF;rw[if_pos e];rfl)
  · obtain rfl:i=m:=by omega
    refine reg_one hB ?_ hq hk h1 h2 h3 h4 (if_neg (by omega))
    unfold appF
    rw[if_neg (Nat.lt_irrefl _),Nat.sub_self]
    rfl
theorem ByD.congr {f:Pol (Zp p)} {N:Nat} {o o':Nat->Pol (Zp p)} (h:ByD f N o) (e:∀ i,i<N->o' i=o i):ByD f N o' :=
  ⟨fun i hi=>by rw[e i hi];exact h.ne i hi,fun i hi=>by rw[e i hi];exact h.irr i hi⟩
structure BdW (f : Pol (Zp p)) (K : Nat) (c w v u g q : Nat → Pol (Zp p)) (o : Nat → Nat → Pol (Zp p)) : Prop where
  c0:c 0=f
  w0:w 0=Pol.X
  o0:o 0=fun _=>1
  os:∀ j i,o (j+1) i=if i=j+1 then g j else o j i
  k1:∀ j,FnOK Tryz.prog true 131 [.c (.int .i64 p),pl (w j),.g (nz p),pl (c j)] (pl (v j))
  k2:∀ j,FnOK Tryz.prog true 132 [.c (.int .i64 p),pl (v j),pl (Pol.X:Pol (Zp p)),.c (.int .i64 (p-1))] (pl (u j))
  k3:∀ j,FnOK Tryz.prog true 103 [.c (.int .i64 p),pl (c j),pl (u j)] (pl (g j))
  k4:∀ j,FnOK Tryz.prog true 104 [.c (.int .i64 p),pl (c j),pl (g j)] (.t2 (pl (c (j+1))) (pl (0:Pol (Zp p))))
  k5:∀ j,FnOK Tryz.prog true 104 [.c (.int .i64 p),pl (v j),pl (c (j+1))] (.t2 (pl (q j)) (pl (w (j+1))))
  lc:∀ j,(c j).len≤1024
  kk:K≤1024
  ex:∀ j,j<K->1<(c j).len/\2*(j+1)≤(c j).len-1
set_option maxHeartbeats 8000000 in
theorem bd_walk1 (hm:Fp.md p) {f:Pol (Zp p)} {K:Nat} {c w v u g q:Nat->Pol (Zp p)} {o:Nat->Nat->Pol (Zp p)} (H:BdW f K c w v u g q o) (hK:(c K).len≤1):FnOK Tryz.prog true 105 [.c (.int .i64 p),pl f] (.c (.row 1 (K+1) (pcs (o K)))):=by
  have hm1:=hm.1
  have hm2:=hm.2.1
  have kv:=(var_P (p:=p)).weak (r:=true)
  have ko:=of_ok (x:=p) (by omega) (by omega)
  obtain⟨c0,w0,o0,os,k1,k2,k3,k4,k5,lc,kk,ex⟩:=H
  obtain rfl:=c0
  have kv0:FnOK Tryz.prog true 130 [] (pl (w 0)):=by rw[w0];exact kv
  have o00:o 0 0=1:=by rw[o0]
  refine fn_ok (E:=E1) E1_ok Tryz.func105 rfl mixed (by kernel_rfl) (by kernel_rfl) ?_
  conv=>whnf
  refine⟨_,kv0,?_⟩
  conv=>whnf
  refine loop_ints (fun j:Nat=>gst [(0,.c (.int .i64 p)),(1,pl (c j)),(5,.c (.gs 0 0)),(6,pl (w j)),(7,.c (.int .i64 ((j:Int)+1)))] [⟨24,1,j+1,pcs (o j)⟩]) (fun j=>K-j) (fun j=>j≤K) 0 rfl ?_ (Nat.zero_le _) fun j hj=>?_
  · refine Weak.gen [some 1] rfl ⟨⟨_,rfl,rfl,rfl,rfl,rfl,fun i j hi hj=>?_⟩,trivial⟩ ⟨⟨_,rfl,rfl⟩,.inl ⟨_,_,rfl,rfl,fun _ _ _ _=>rfl⟩,⟨_,rfl,rfl,rfl⟩,.inl ⟨_,_,rfl,rfl,fun _ _ _ _=>rfl⟩,⟨_,rfl,rfl⟩,trivial⟩
    obtain rfl : i = 0 := by have h : i < 0 + 1 := hi
                             omega
    obtain rfl : j = 0 := by have h : j < 1 := hj
                             omega
    exact reg_one (p:=p) (k:=0) (B:=⟨3,1,1,0,0,rowF 1 [.int .i64 1]⟩) rfl rfl rfl rfl (Nat.zero_le _) rfl rfl rfl o00
  have k1:=k1 j
  have k2:=k2 j
  have k3:=k3 j
  have k4:=k4 j
  have k5:=k5 j
  have os:=os j
  have lj:=lc j
  have ex:=ex j
  have hL:(ofP (c j)).1=(c j).len:=rfl
  conv=>whnf
  refine bcase (fun(h:decide ((1:Int)<((c j).len:Int))=true)=>?_) fun(h:decide ((1:Int)<((c j).len:Int))=false)=>?_
  · have h:=of_decide_eq_true h
    have hjK:j<K:=by
      rcases Nat.lt_or_ge j K with h1 | h1
      · exact h1
      · obtain rfl:j=K:=by omega
        omega
    have ex:=ex hjK
    conv=>whnf
    refine⟨Fp.i64 (by omega) (by omega),?_⟩
    conv=>whnf
    refine⟨Fp.i64 (by omega) (by omega),?_⟩
    conv=>whnf
    refine bneg (show decide (((c j).len:Int)-1<2*((j:Int)+1))=false from decide_eq_false (by omega)) ?_
    conv=>whnf
    refine⟨_,ko,?_⟩
    conv=>whnf
    refine⟨_,k1,?_⟩
    conv=>whnf
    refine⟨_,kv,?_⟩
    conv=>whnf
    refine⟨Fp.i64 (by omega) (by omega),?_⟩
    conv=>whnf
    refine⟨_,k2,?_⟩
    conv=>whnf
    refine⟨_,k3,?_⟩
    conv=>whnf
    refine⟨by show j+1+1≤16777216;omega,fun x y hx hy=>?_,?_⟩
    · obtain rfl : x = 0 := by have h : x < 1 := hx
                               omega
      obtain rfl : y = 0 := by have h : y < 1 := hy
                               omega
      exact⟨rfl,fun h=>rfl⟩
    conv=>whnf
    refine⟨_,k4,?_⟩
    conv=>whnf
    refine⟨_,k5,?_⟩
    conv=>whnf
    refine⟨Fp.i64 (by omega) (by omega),?_⟩
    conv=>whnf
    refine⟨j+1,by omega,Weak.gen [some 0] rfl ⟨⟨_,rfl,rfl,rfl,rfl,rfl,fun i y hi hy=>?_⟩,trivial⟩ ⟨⟨_,rfl,rfl⟩,.inl ⟨_,_,rfl,rfl,fun _ _ _ _=>rfl⟩,⟨_,rfl,rfl,rfl⟩,.inl ⟨_,_,rfl,rfl,fun _ _ _ _=>rfl⟩,⟨_,rfl,by omega⟩,trivial⟩,by omega⟩
    exact regE (app_pcs (h:=o j) (h':=o (j+1)) (a:=g j) (k:=j+1) hi hy ((os _).trans (if_pos rfl)) fun i hi=>(os i).trans (if_neg (by omega))) (pcs_clos _ hy)
  · have h:=of_decide_eq_false h
    obtain rfl:j=K:=by
      rcases Nat.lt_or_ge j K with h1 | h1
      · have:=ex h1;omega
      · omega
    conv=>whnf
    refine⟨fun i j _ hj=>pcs_clos _ hj,?_⟩
    conv=>whnf
    exact⟨rfl,Sub.refl _⟩
set_option maxHeartbeats 8000000 in
theorem bd_walk2 (hm:Fp.md p) {f:Pol (Zp p)} {K:Nat} {c w v u g q:Nat->Pol (Zp p)} {o:Nat->Nat->Pol (Zp p)} (H:BdW f K c w v u g q o) (hK:1<(c K).len) (hK2:(c K).len-1<2*(K+1)) (hK3:K+1≤(c K).len-1):FnOK Tryz.prog true 105 [.c (.int .i64 p),pl f] (.c (.row 1 (c K).len (pcs fun i=>if i=(c K).len-1 then c K else if i<K+1 then o K i else 1))):=by
  have hm1:=hm.1
  have hm2:=hm.2.1
  have kv:=(var_P (p:=p)).weak (r:=true)
  have ko:=of_ok (x:=p) (by omega) (by omega)
  obtain⟨c0,w0,o0,os,k1,k2,k3,k4,k5,lc,kk,ex⟩:=H
  obtain rfl:=c0
  have kv0:FnOK Tryz.prog true 130 [] (pl (w 0)):=by rw[w0];exact kv
  have o00:o 0 0=1:=by rw[o0]
  refine fn_ok (E:=E1) E1_ok Tryz.func105 rfl mixed (by kernel_rfl) (by kernel_rfl) ?_
  conv=>whnf
  refine⟨_,kv0,?_⟩
  conv=>whnf
  refine loop_ints (fun j:Nat=>gst [(0,.c (.int .i64 p)),(1,pl (c j)),(5,.c (.gs 0 0)),(6,pl (w j)),(7,.c (.int .i64 ((j:Int)+1)))] [⟨24,1,j+1,pcs (o j)⟩]) (fun j=>K-j) (fun j=>j≤K) 0 rfl ?_ (Nat.zero_le _) fun j hj=>?_
  · refine Weak.gen [some 1] rfl ⟨⟨_,rfl,rfl,rfl,rfl,rfl,fun i j hi hj=>?_⟩,trivial⟩ ⟨⟨_,rfl,rfl⟩,.inl ⟨_,_,rfl,rfl,fun _ _ _ _=>rfl⟩,⟨_,rfl,rfl,rfl⟩,.inl ⟨_,_,rfl,rfl,fun _ _ _ _=>rfl⟩,⟨_,rfl,rfl⟩,trivial⟩
    obtain rfl : i = 0 := by have h : i < 0 + 1 := hi
                             omega
    obtain rfl : j = 0 := by have h : j < 1 := hj
                             omega
    exact reg_one (p:=p) (k:=0) (B:=⟨3,1,1,0,0,rowF 1 [.int .i64 1]⟩) rfl rfl rfl rfl (Nat.zero_le _) rfl rfl rfl o00
  have k1:=k1 j
  have k2:=k2 j
  have k3:=k3 j
  have k4:=k4 j
  have k5:=k5 j
  have os:=os j
  have lj:=lc j
  have ex:=ex j
  have hL:(ofP (c j)).1=(c j).len:=rfl
  conv=>whnf
  refine bpos (show decide ((1:Int)<((c j).len:Int))=true from decide_eq_true (by
    rcases Nat.lt_or_ge j K with h1 | h1
    · have:=ex h1;omega
    · obtain rfl:j=K:=by omega
      omega)) ?_
  rcases Nat.lt_or_ge j K with hjK | hjK
  · have ex:=ex hjK
    conv=>whnf
    refine⟨Fp.i64 (by omega) (by omega),?_⟩
    conv=>whnf
    refine⟨Fp.i64 (by omega) (by omega),?_⟩
    conv=>whnf
    refine bneg (show decide (((c j).len:Int)-1<2*((j:Int)+1))=false from decide_eq_false (by omega)) ?_
    conv=>whnf
    refine⟨_,ko,?_⟩
    conv=>whnf
    refine⟨_,k1,?_⟩
    conv=>whnf
    refine⟨_,kv,?_⟩
    conv=>whnf
    refine⟨Fp.i64 (by omega) (by omega),?_⟩
    conv=>whnf
    refine⟨_,k2,?_⟩
    conv=>whnf
    refine⟨_,k3,?_⟩
    conv=>whnf
    refine⟨by show j+1+1≤16777216;omega,fun x y hx hy=>?_,?_⟩
    · obtain rfl : x = 0 := by have h : x < 1 := hx
                               omega
      obtain rfl : y = 0 := by have h : y < 1 := hy
                               omega
      exact⟨rfl,fun h=>rfl⟩
    conv=>whnf
    refine⟨_,k4,?_⟩
    conv=>whnf
    refine⟨_,k5,?_⟩
    conv=>whnf
    refine⟨Fp.i64 (by omega) (by omega),?_⟩
    conv=>whnf
    refine⟨j+1,by omega,Weak.gen [some 0] rfl ⟨⟨_,rfl,rfl,rfl,rfl,rfl,fun i y hi hy=>?_⟩,trivial⟩ ⟨⟨_,rfl,rfl⟩,.inl ⟨_,_,rfl,rfl,fun _ _ _ _=>rfl⟩,⟨_,rfl,rfl,rfl⟩,.inl ⟨_,_,rfl,rfl,fun _ _ _ _=>rfl⟩,⟨_,rfl,by omega⟩,trivial⟩,by omega⟩
    exact regE (app_pcs (h:=o j) (h':=o (j+1)) (a:=g j) (k:=j+1) hi hy ((os _).trans (if_pos rfl)) fun i hi=>(os i).trans (if_neg (by omega))) (pcs_clos _ hy)
  · obtain rfl:j=K:=by omega
    conv=>whnf
    refine⟨Fp.i64 (by omega) (by omega),?_⟩
    conv=>whnf
    refine⟨Fp.i64 (by omega) (by omega),?_⟩
    conv=>whnf
    refine bpos (show decide (((c j).len:Int)-1<2*((j:Int)+1))=true from decide_eq_true (by omega)) ?_
    conv=>whnf
    refine loop_ints (fun m:Nat=>gst [(1,pl (c j)),(5,.c (.gs 0 0))] [⟨24,1,m,pcs fun i=>if i<j+1 then o j i else 1⟩]) (fun m=>(c j).len-m) (fun m=>j+1≤m/\m≤(c j).len-1) (j+1) rfl ?_ ⟨Nat.le_refl _,hK3⟩ fun m hm=>?_
    · refine Weak.gen [some 0] rfl ⟨⟨_,rfl,rfl,rfl,rfl,rfl,fun i y hi hy=>?_⟩,trivial⟩ ⟨.inl ⟨_,_,rfl,rfl,fun _ _ _ _=>rfl⟩,⟨_,rfl,rfl,rfl⟩,trivial⟩
      obtain rfl : y = 0 := by have h : y < 1 := hy
                               omega
      exact reg_pc (congrArg pc (if_pos hi).symm)
    obtain⟨hma,hmb⟩:=hm
    conv=>whnf
    refine⟨Fp.i64 (by omega) (by omega),?_⟩
    conv=>whnf
    refine bcase (fun(h:decide ((m:Int)<((c j).len:Int)-1)=true)=>?_) fun(h:decide ((m:Int)<((c j).len:Int)-1)=false)=>?_
    · have h:=of_decide_eq_true h
      conv=>whnf
      refine⟨by show m+1≤16777216;omega,fun x y hx hy=>?_,?_⟩
      · obtain rfl : x = 0 := by have h : x < 1 := hx
                                 omega
        obtain rfl : y = 0 := by have h : y < 1 := hy
                                 omega
        exact⟨rfl,fun h=>rfl⟩
      conv=>whnf
      refine⟨m+1,by omega,Weak.gen [some 0] rfl ⟨⟨_,rfl,rfl,rfl,rfl,rfl,fun i y hi hy=>?_⟩,trivial⟩ ⟨.inl ⟨_,_,rfl,rfl,fun _ _ _ _=>rfl⟩,⟨_,rfl,rfl,rfl⟩,trivial⟩,by omega⟩
      exact reg_app1 (k:=1) (B:=⟨3,1,1,0,0,rowF 1 [.int .i64 1]⟩) rfl rfl rfl (Nat.zero_le _) rfl rfl rfl hi hy hma
    · have h:=of_decide_eq_false h
      obtain rfl:m=(c j).len-1:=by omega
      conv=>whnf
      refine⟨by show(c j).len-1+1≤16777216;omega,fun x y hx hy=>?_,?_⟩
      · obtain rfl : x = 0 := by have h : x < 1 := hx
                                 omega
        obtain rfl : y = 0 := by have h : y < 1 := hy
                                 omega
        exact⟨rfl,fun h=>rfl⟩
      conv=>whnf
      refine⟨fun i y _ hy=>app_clos (h:=fun i=>if i<j+1 then o j i else 1) (a:=c j) (k:=(c j).len-1) (i:=i) hy,?_⟩
      conv=>whnf
      exact⟨rfl,subRowG (show(c j).len-1+1=(c j).len by omega) fun i y hi hy=>app_pcs (h:=fun i=>if i<j+1 then o j i else 1) (h':=fun i=>if i=(c j).len-1 then c j else if i<j+1 then o j i else 1) (a:=c j) (k:=(c j).len-1) (by omega) hy (if_pos rfl) fun i hi=>if_neg (by omega)⟩
theorem byDegree_P (hm:Fp.md p) {f:Pol (Zp p)} (hs:Pol.Sqf f) (h0:f≠0) (h1:f.lead=1) (lf:f.len≤1024):∃(N:Nat) (o:Nat->Pol (Zp p)),ByD f N o/\(∀ P,Pol.Irr P->Pol.Dvs P f->P.len≤N)/\1≤N/\N≤f.len+1/\FnOK Tryz.prog true 105 [.c (.int .i64 p),pl f] (.c (.row 1 N (pcs o))):=by
  have inv:=bdS_inv hm hs h0 h1 lf
  have stp:=fun j=>(bdS_step hm hs lf (inv j)).2
  obtain⟨K,hK,hmin⟩:=ex_least (Q:=fun j=>(bdS f j).1.len≤1∨(bdS f j).1.len-1<2*(j+1)) ⟨f.len,.inr (by have:=(inv f.len).cl;omega)⟩
  have kk:K≤f.len:=Nat.le_of_not_lt fun h=>hmin f.len h (.inr (by have:=(inv f.len).cl;omega))
  have H:BdW f K (fun j=>(bdS f j).1) (fun j=>(bdS f j).2.1) (fun j=>Pol.rm (Crg.pw (bdS f j).2.1 p.toNat) (bdS f j).1) (fun j=>Pol.rm (Crg.pw (bdS f j).2.1 p.toNat) (bdS f j).1-Pol.X) (fun j=>Pol.gd (bdS f j).1 (Pol.rm (Crg.pw (bdS f j).2.1 p.toNat) (bdS f j).1-Pol.X)) (fun j=>Pol.qo (Pol.rm (Crg.pw (bdS f j).2.1 p.toNat) (bdS f j).1) (Pol.qo (bdS f j).1 (Pol.gd (bdS f j).1 (Pol.rm (Crg.pw (bdS f j).2.1 p.toNat) (bdS f j).1-Pol.X)))) (fun j=>(bdS f j).2.2) :=
    ⟨rfl,rfl,rfl,fun _ _=>rfl,fun j=>(stp j).1.weak,fun j=>(stp j).2.1.weak,fun j=>(stp j).2.2.1.weak,fun j=>(stp j).2.2.2.1.weak,fun j=>(stp j).2.2.2.2.weak,fun j=>Nat.le_trans (inv j).cl lf,by omega,fun j hj=>by
      have:=hmin j hj
      omega⟩
  have i:=(inv K).i
  have o:=(inv K).o
  by_cases hc:(bdS f K).1.len≤1
  · exact⟨K+1,_,o,o.fin i hc,by omega,by omega,bd_walk1 hm H hc⟩
  · have h2:(bdS f K).1.len-1<2*(K+1):=by omega
    have ir:=i.exit (by omega) h2
    have hd:K+1≤(bdS f K).1.len-1:=by
      have:=((i.irr _ ir).1 (Pol.Dvs.refl _)).2
      omega
    have pad:∀ t,K+1≤t->t≤(bdS f K).1.len-1->ByD f t fun i=>if i<K+1 then(bdS f K).2.2 i else 1:=fun t=>by
      induction t with
      | zero=>intro h;omega
      | succ t ih =>
        intro ha hb
        by_cases e:K+1≤t
        · have:=(ih e (by omega)).pad i ir e (by omega)
          refine this.congr fun x hx=>?_
          show(if x<K+1 then(bdS f K).2.2 x else 1)=if x=t then 1 else if x<K+1 then(bdS f K).2.2 x else 1
          by_cases e1:x=t
          · rw[if_pos e1,if_neg (by omega)]
          · rw[if_neg e1]
        · obtain rfl:t=K:=by omega
          exact o.congr fun x hx=>if_pos hx
    obtain⟨a,b⟩:=(pad _ hd (Nat.le_refl _)).last i ir hd (by omega)
    have e:(bdS f K).1.len-1+1=(bdS f K).1.len:=by omega
    rw[e]at a b
    exact⟨_,_,a,b,by omega,by have:=(inv K).cl;omega,bd_walk2 hm H (by omega) h2 hd⟩
end
end Go.Proofs.YtibaocbpeaejkaaGreat
/- Separating the divisors of one degree: contracts' plain parts. -/
namespace Go.Proofs.YtibaocbpeaejkaaGreat
open Go.RowKit
theorem FnM.shut {P:Program} {r:Bool} {f:FuncId} {args:List V} {T sz n:Nat} {g:Nat->Nat->Cell} (h:FnM P r f phB args (.c (.gs 1 0)) phB [⟨T,sz,n,0,0,g⟩]) (hc:∀ i j,i<n->j<sz->(g i j).clos=true) (ha:args.all V.clos=true):FnOK P r f args (.c (.row sz n g)):=by
 refine⟨h.1,fun D w vs hD hU hargs=>?_⟩
 have hDof:∀ b,Dof D [] [] b->D b:=by
  rintro b (h | ⟨k,l,B,h1,_⟩)
  ·exact h
  ·simp at h1
 have hs0:Sat D ⟨w,fun _=>False⟩ r [] [] w:=⟨⟨rfl,rfl,rfl,Nat.le_refl _,fun _ _ _=>rfl⟩,fun b hb=>⟨hD b hb,id⟩,rfl,fun k l B h1 _=>by simp at h1,fun i j li lj Bi Bj b h1=>by simp at h1,fun hr b o d hb=>hU hr b o d (hDof b hb)⟩
 obtain⟨hs1,hd1⟩:=hs0.ph
 have hargs2:VRels (Dof D ([]++[phL]) ([]++[phB])) w ([]++[phL]) args vs:=(hargs.clos ha).step (fun b _ hb=>hDof b ((hd1 b).1 hb))
 refine(h.2 D ⟨w,fun _=>False⟩ phL w vs hs1 hargs2).mono ?_
 rintro e w' ⟨v,l',ρ',rfl,hs,_,hv⟩
 refine⟨v,rfl,?_,⟨hs.below.os,hs.below.tape,hs.below.output,hs.below.size,fun k hk=>hs.below.block k hk id⟩⟩
 obtain⟨l,l1,_,l3⟩:=hv
 have hat:=hs.at_ 1 l _ l1 rfl (Nat.zero_le _)
 have ev:=l3 hat.1
 rcases hat.2 with⟨p1,p2,p3⟩ | ⟨b,cap,cs,p2,p3,p4,p5,p6,p7,p8,p9⟩
 ·have p1:n=0:=p1
  exact⟨none,0,by rw[ev,p3,p1],by omega,fun h=>by omega⟩
 ·refine⟨some ⟨b,0,none⟩,cap,by rw[ev,p4],p7,fun hn=>⟨b,0,rfl,heap_lt p5,fun hb=>?_,fun i j hi hj=>?_⟩⟩
  ·have h1:=hD b hb
   rcases hs.own l1 rfl (Nat.zero_le _) p2 with h2 | h2
   ·have h2:w.heap.size≤b:=h2
    omega
   ·exact h2
  ·obtain⟨u,hu,hr⟩:=p9 i j hi hj
   refine⟨u,?_,?_⟩
   ·simp only[World.cell?,p5]
    simp[hu]
   ·exact(hr.clos (hc i j hi hj)).step (Ext.refl _ _) (fun b _ hb => .inl hb) (LocsLe.refl _)
section
variable {p:Int} [hp:Prm p]
noncomputable def hlv (d:Nat) (f t:Pol (Zp p)):Pol (Zp p):=if p=2 then(hv2 f t (d-1)).1 else Pol.rm (Crg.pw t (p.toNat^d / 2)) f-1
theorem halves_P (hm:Fp.md p) {d:Nat} {f t:Pol (Zp p)} (hd:1≤d) (hd2:d≤64) (hf:f≠0) (lf:f.len≤1024) (lt:t.len≤1024):FnOK Tryz.prog true 133 [.c (.int .i64 p),.c (.int .i64 d),pl f,pl t] (pl (hlv d f t))/\(hlv d f t).len≤1024:=by
 unfold hlv
 by_cases h2:p=2
 ·rw[if_pos h2]
  exact⟨halves_two hm h2 hd hd2 hf lf lt,(hv2_len hf lt lf _).1⟩
 ·rw[if_neg h2]
  refine⟨halves_odd hm h2 hd hd2 hf lf (by omega),?_⟩
  have h3:=(Pol.rm_spec (Crg.pw t (p.toNat^d / 2)) hf).2
  have h4:=Pol.len_sub (Pol.rm (Crg.pw t (p.toNat^d / 2)) f) 1
  rw[Pol.len_one]at h4
  omega
theorem two_dvs {P S f:Pol (Zp p)} (hP:Pol.Irr P) (hS:Pol.Irr S) (lP:P.lead=1) (lS:S.lead=1) (hne:P≠S) (dP:Pol.Dvs P f) (dS:Pol.Dvs S f) (h0:f≠0):P.len+S.len≤f.len+1:=by
 rcases hP.or S with h | h
 ·exact absurd (hP.eq hS lP lS h) hne
 ·have h1:=(h.both dP dS).len h0
  have h2:=Pol.len_mul hP.ne hS.ne
  omega
abbrev Proper (f g:Pol (Zp p)):Prop:=1<g.len/\g.len<f.len
noncomputable def trl (f:Pol (Zp p)) (n:Nat):Pol (Zp p):=Pol.rm (dgp p n) f
theorem trial_ex (hm:Fp.md p) {d:Nat} {f:Pol (Zp p)} (hd:1≤d) (h:Eqd d f) (hl:d+1<f.len) (hl2:f.len≤65):∃ n,p.toNat≤n/\n<2^50/\(Proper f (Pol.gd f (trl f n))∨Proper f (Pol.gd f (hlv d f (trl f n)))):=by
 have hm1:=hm.1
 have hm2:=hm.2.1
 obtain⟨P,S,hP,hS,lP,lS,nP,nS,hne,dP,dS⟩:=h.two hl hd
 have hb:=two_dvs hP hS lP lS hne dP dS h.ne
 obtain⟨n,h1,h2,h3⟩:=part_ex (p:=p) (by omega) hd (by omega) hP hS lP lS nP nS hne dP dS
 refine⟨n,h1,h2,?_⟩
 have c1:Pol.Cgr f (dgp p n) (trl f n):=(Pol.rm_spec (dgp p n) h.ne).1
 have l1:(trl f n).len<f.len:=(Pol.rm_spec (dgp p n) h.ne).2
 rcases h3 with h3 | ⟨ho,h3⟩
 ·exact .inl (splits_gcd (splits_cgr h3 c1) (gd_P hm (by omega) (by omega) (.inl h.ne)).1 h.ne)
 ·right
  have hp2:p≠2:=by
   intro e
   have:p.toNat=2:=by omega
   omega
  have e:(p.toNat^d-1) / 2=p.toNat^d / 2:=by
   have:p.toNat^d%2=1:=by rw[Nat.pow_mod,ho,Nat.one_pow]
   omega
  have hl:=(halves_P hm (d:=d) (f:=f) (t:=trl f n) hd (by omega) h.ne (by omega) (by omega)).2
  refine splits_gcd (splits_cgr h3 ?_) (gd_P hm (by omega) (by omega) (.inl h.ne)).1 h.ne
  unfold hlv
  rw[if_neg hp2,e]
  exact((c1.pw _).trans (Pol.rm_spec _ h.ne).1).sub (Pol.Cgr.refl f 1)
noncomputable abbrev lB (l:List (Pol (Zp p))):Gx:=⟨24,1,l.length,pcs fun i=>l.getD i 0⟩
theorem sep_two {d:Nat} {f g:Pol (Zp p)} (h:Eqd d f) (hl:g.lead=1) (hd:Pol.Dvs g f) (h0:g≠0) (_:Proper f g):Eqd d g/\Eqd d (Pol.qo f g)/\(Pol.qo f g).len+g.len=f.len+1/\∀ l m,IrL g l->IrL (Pol.qo f g) m->IrL f (l++m):=by
 have e:=qo_dvs h0 hd
 obtain⟨q0,_,ql⟩:=lead_quo e h.ne h.lead hl
 have hlen:=Pol.len_mul q0 h0
 rw[← e]at hlen
 exact⟨h.of_dvs hd hl,h.of_dvs ⟨g,e⟩ ql,by omega,fun l m a b=>IrL.app e (fun P hP k=>h.sqf.dis e hP k) a b⟩
end
end Go.Proofs.YtibaocbpeaejkaaGreat
/- The program's fpoly.separate: the walk. -/
namespace Go.Proofs.YtibaocbpeaejkaaGreat
open Go.RowKit
section
variable {p:Int} [hp:Prm p]
theorem dgp_v (n i:Nat):((dgp p n).f i).v=((n / p.toNat^i%p.toNat:Nat):Int):=by
  show((n / p.toNat^i%p.toNat:Nat):Int)%p=_
  have h2:=hp.two
  have:n / p.toNat^i%p.toNat<p.toNat:=Nat.mod_lt _ (by omega)
  exact Int.emod_eq_of_lt (by omega) (by omega)
theorem dgp_len' {n k:Nat} (h0:n / p.toNat^k=0) (h1:∀ i,i<k->n / p.toNat^i≠0):(dgp p n).len=k:=by
  have h2:=two_le (p:=p)
  have hz:∀ j,k≤j->(dgp p n).f j=0:=fun j hj=>by
    refine Zp.v_zero.1 ?_
    rw[dgp_v]
    obtain⟨d,rfl⟩:=Nat.exists_eq_add_of_le hj
    rw[Nat.pow_add,← Nat.div_div_eq_div_mul,h0,Nat.zero_div,Nat.zero_mod]
    rfl
  rcases Nat.eq_zero_or_pos k with hk | hk
  · subst hk
    exact Nat.le_zero.1 (Pol.len_le hz)
  · obtain⟨j,rfl⟩:∃ j,k=j+1:=⟨k-1,by omega⟩
    refine Pol.len_eq hz fun e=>?_
    have e:=Zp.v_zero.2 e
    rw[dgp_v]at e
    have h3:=h1 j (Nat.lt_succ_self j)
    rw[Nat.pow_succ,← Nat.div_div_eq_div_mul]at h0
    generalize n / p.toNat^j=m at *
    have h4:m<p.toNat:=(Nat.div_eq_zero_iff_lt (by omega)).1 h0
    rw[Nat.mod_eq_of_lt h4]at e
    omega
theorem dig_pos {n k:Nat} (hn:n<2^50) (h:n / p.toNat^k≠0):k<50:=by
  have h2:=two_le (p:=p)
  have h3:p.toNat^k≤n:=Nat.le_of_not_lt fun h4=>h (Nat.div_eq_of_lt h4)
  have h4:2^k≤p.toNat^k:=Nat.pow_le_pow_left h2 k
  exact(Nat.pow_lt_pow_iff_right (a:=2) (by decide)).1 (by omega)
theorem app_list (l m:List (Pol (Zp p))) {i y:Nat} (hy:y<1):appF l.length (pcs fun i=>l.getD i 0) (pcs fun i=>m.getD i 0) i y=pcs (fun i=>(l++m).getD i 0) i y:=by
  obtain rfl:y=0:=by omega
  unfold appF
  split
  · rename_i h
    show pc (l.getD i 0)=pc ((l++m).getD i 0)
    simp only[List.getD_eq_getElem?_getD,List.getElem?_append_left h]
  · rename_i h
    show pc (m.getD (i-l.length) 0)=pc ((l++m).getD i 0)
    simp only[List.getD_eq_getElem?_getD,List.getElem?_append_right (Nat.le_of_not_lt h)]
theorem one_pcs {bl:List Blk} {r:Prop} {h:Nat->Pol (Zp p)} {i y:Nat} (hy:y<1):St.one bl (pcs h i y)=true/\(r->(pcs h i y).noU=true):=by
  obtain rfl:y=0:=by omega
  exact⟨rfl,fun _=>rfl⟩
structure SpW (d : Nat) (f : Pol (Zp p)) (N : Nat) (t h g1 g2 : Nat → Pol (Zp p)) : Prop where
  nlt:N<2^50
  le:p.toNat≤N
  k0:∀ n,n≤N->FnOK Tryz.prog true 104 [.c (.int .i64 p),pl (dgp p n),pl f] (.t2 (pl (Pol.qo (dgp p n) f)) (pl (t n)))
  k1:∀ n,FnOK Tryz.prog true 103 [.c (.int .i64 p),pl f,pl (t n)] (pl (g1 n))
  k2:∀ n,FnOK Tryz.prog true 133 [.c (.int .i64 p),.c (.int .i64 d),pl f,pl (t n)] (pl (h n))
  k3:∀ n,FnOK Tryz.prog true 103 [.c (.int .i64 p),pl f,pl (h n)] (pl (g2 n))
  no1:∀ n,p.toNat≤n->n<N->¬ Proper f (g1 n)
  no2:∀ n,p.toNat≤n->n<N->¬ Proper f (g2 n)
set_option maxHeartbeats 8000000 in
theorem sep_walk1 (hm : Fp.md p) {d N : Nat} {f : Pol (Zp p)} {t h g1 g2 : Nat → Pol (Zp p)} {l m : List (Pol (Zp p))} (hl : d + 1 < f.len) (hl2 : f.len ≤ 65) (W : SpW d f N t h g1 g2) (hN : Proper f (g1 N)) (hll : l.length ≤ 65) (hml : m.length ≤ 65)
    (kq:FnOK Tryz.prog true 104 [.c (.int .i64 p),pl f,pl (g1 N)] (.t2 (pl (Pol.qo f (g1 N))) (pl (0:Pol (Zp p)))))
    (ka:FnM Tryz.prog true 106 phB [.c (.int .i64 p),.c (.int .i64 d),pl (g1 N)] (.c (.gs 1 0)) phB [gb (lB l)])
    (kb:FnOK Tryz.prog true 106 [.c (.int .i64 p),.c (.int .i64 d),pl (Pol.qo f (g1 N))] (.c (.row 1 m.length (pcs fun i=>m.getD i 0)))) :
    FnM Tryz.prog true 106 phB [.c (.int .i64 p),.c (.int .i64 d),pl f] (.c (.gs 1 0)) phB [gb (lB (l++m))]:=by
  have hm1:=hm.1
  have hm2:=hm.2.1
  obtain⟨nlt,le,k0,k1,k2,k3,no1,no2⟩:=W
  have hL:(ofP f).1=f.len:=rfl
  refine fnm_ok (E:=E1m) E1m_ok Tryz.func106 rfl mixed (by kernel_rfl) (by kernel_rfl) rfl ?_
  conv=>whnf
  refine⟨Fp.i64 (by omega) (by omega),?_⟩
  conv=>whnf
  refine bneg (show decide ((f.len:Int)-1≤(d:Int))=false from decide_eq_false (by omega)) ?_
  conv=>whnf
  refine loop_ints1 (fun n:Nat=>gst1 [(0,.c (.int .i64 p)),(1,.c (.int .i64 d)),(2,pl f),(7,.c (.int .i64 n))] []) (fun n=>N-n) (fun n=>p.toNat≤n/\n≤N) p.toNat rfl ?_ ⟨Nat.le_refl _,le⟩ fun n hn=>?_
  · exact Weak.gen1 [] rfl rfl trivial ⟨⟨_,rfl,rfl⟩,⟨_,rfl,rfl⟩,.inl ⟨_,_,rfl,rfl,fun _ _ _ _=>rfl⟩,⟨_,rfl,by omega⟩,trivial⟩
  obtain⟨hn1,hn2⟩:=hn
  have hdv:=dgp_v (p:=p) n
  have hdl:=fun k=>dgp_len' (p:=p) (n:=n) (k:=k)
  have hdp:=fun k=>dig_pos (p:=p) (n:=n) (k:=k) (by omega)
  have k0:=k0 n hn2
  have k1:=k1 n
  have k2:=k2 n
  have k3:=k3 n
  have no1:=no1 n hn1
  have no2:=no2 n hn1
  have no1:n<N->¬(1<(g1 n).len/\(g1 n).len<f.len):=no1
  have no2:n<N->¬(1<(g2 n).len/\(g2 n).len<f.len):=no2
  have hN:n=N->1<(g1 n).len/\(g1 n).len<f.len:=fun e=>by rw[e];exact hN
  have kq:n=N->FnOK Tryz.prog true 104 [.c (.int .i64 p),pl f,pl (g1 n)] (.t2 (pl (Pol.qo f (g1 N))) (pl (0:Pol (Zp p)))):=fun e=>by rw[e];exact kq
  have ka:n=N->FnM Tryz.prog true 106 phB [.c (.int .i64 p),.c (.int .i64 d),pl (g1 n)] (.c (.gs 1 0)) phB [gb (lB l)]:=fun e=>by rw[e];exact ka
  conv=>whnf
  refine loop_ints1 (fun k:Nat=>gst1 [(0,.c (.int .i64 p)),(1,.c (.int .i64 d)),(2,pl f),(7,.c (.int .i64 n)),(8,.c (.gs 1 0)),(9,.c (.int .i64 ((n / p.toNat^k:Nat):Int)))] [⟨3,1,k,fun i _ => .int .i64 ((dgp p n).f i).v⟩]) (fun k=>n / p.toNat^k) (fun k=>∀ i,i<k->n / p.toNat^i≠0) 0 rfl ?_ (fun i hi=>absurd hi (Nat.not_lt_zero i)) fun k hk=>?_
  · exact Weak.gen1 [none] rfl rfl ⟨rfl,trivial⟩ ⟨⟨_,rfl,rfl⟩,⟨_,rfl,rfl⟩,.inl ⟨_,_,rfl,rfl,fun _ _ _ _=>rfl⟩,⟨_,rfl,rfl⟩,rfl,⟨_,rfl,by rw[Nat.pow_zero,Nat.div_one]⟩,trivial⟩
  have hk1:=hdp k
  have hk2:=hdv k
  have hk3:=hdl k
  have hpn:(p.toNat:Int)=p:=by omega
  have hdd:n / p.toNat^(k+1)=n / p.toNat^k / p.toNat:=by rw[Nat.pow_succ,Nat.div_div_eq_div_mul]
  have hlt:n / p.toNat^k≤n:=Nat.div_le_self _ _
  generalize hM:n / p.toNat^k=M at *
  have e1:Int.tmod (M:Int) p=((M%p.toNat:Nat):Int):=by
    rw[Int.tmod_eq_emod_of_nonneg (by omega)]
    exact(congrArg (fun x=>(M:Int)%x) hpn.symm).trans (Int.natCast_emod M p.toNat).symm
  have e2:Int.tdiv (M:Int) p=((M / p.toNat:Nat):Int):=by
    rw[Int.tdiv_eq_ediv_of_nonneg (by omega)]
    exact(congrArg (fun x=>(M:Int) / x) hpn.symm).trans (Int.natCast_ediv M p.toNat).symm
  have hml2:M / p.toNat≤M:=Nat.div_le_self _ _
  have hb1:0≤Int.tdiv (M:Int) p:=by rw[e2];exact Int.natCast_nonneg _
  have hb2:Int.tdiv (M:Int) p≤(M:Int):=by rw[e2];exact Int.ofNat_le.2 hml2
  conv=>whnf
  refine bcase (fun(h:decide ((0:Int)<(M:Int))=true)=>?_) fun(h:decide ((0:Int)<(M:Int))=false)=>?_
  · have h:=of_decide_eq_true h
    conv=>whnf
    refine⟨by omega,?_⟩
    conv=>whnf
    refine⟨by show k+1≤16777216;omega,fun x y hx hy=>?_,?_⟩
    · obtain rfl : x = 0 := by have h : x < 1 := hx
                               omega
      obtain rfl : y = 0 := by have h : y < 1 := hy
                               omega
      exact⟨rfl,fun h=>rfl⟩
    conv=>whnf
    refine⟨by omega,Fp.i64 (by omega) (by omega),?_⟩
    conv=>whnf
    refine⟨k+1,(by show n / p.toNat^(k+1)<M;rw[hdd];exact Nat.div_lt_self (by omega) (by omega)),Weak.gen1 [some 1] rfl rfl ⟨⟨_,rfl,rfl,rfl,rfl,rfl,fun i y hi hy=>?_⟩,trivial⟩ ⟨⟨_,rfl,rfl⟩,⟨_,rfl,rfl⟩,.inl ⟨_,_,rfl,rfl,fun _ _ _ _=>rfl⟩,⟨_,rfl,rfl⟩,⟨_,rfl,rfl,rfl⟩,⟨_,rfl,by rw[hdd];exact e2⟩,trivial⟩,fun i hi=>?_⟩
    · obtain rfl : y = 0 := by have h : y < 1 := hy
                               omega
      refine⟨_,appI (f:=fun i=>((dgp p n).f i).v) (g:=fun i=>((dgp p n).f i).v) (k:=k) (m:=k+1) ?_ (Nat.le_refl _) hi,rfl⟩
      by_cases e:i=k
      · rw[if_pos e,e,e1,hk2]
      · rw[if_neg e]
    · rcases Nat.lt_or_ge i k with h1 | h1
      · exact hk i h1
      · obtain rfl:i=k:=by omega
        omega
  · have h:=of_decide_eq_false h
    have hk4:=hk3 (by omega) hk
    subst hk4
    conv=>whnf
    refine⟨fun i j hi hj=>rfl,?_⟩
    conv=>whnf
    refine⟨_,k0,?_⟩
    conv=>whnf
    refine⟨_,k1,?_⟩
    conv=>whnf
    refine⟨_,k2,?_⟩
    conv=>whnf
    refine⟨_,k3,?_⟩
    conv=>whnf
    refine loop_unroll 3 ?_
    conv=>whnf
    --ROUNDS
    have hL1:(ofP (g1 n)).1=(g1 n).len:=rfl
    have hL2:(ofP (g2 n)).1=(g2 n).len:=rfl
    refine(Nat.lt_or_ge n N).elim (fun hnN=>?_) fun hnN=>?_
    · have no1:=no1 hnN
      have no2:=no2 hnN
      refine⟨by decide,(by show(0:Int)<2;decide),?_⟩
      conv=>whnf
      refine(Nat.lt_or_ge 1 (g1 n).len).elim (fun c0=>?_) fun c0=>?_
      · refine bpos (show gw true (decide ((1:Int)<((g1 n).len:Int)))=true by rw[decide_eq_true (by omega)];rfl) ?_
        conv=>whnf
        refine bneg (show decide (((g1 n).len:Int)<(f.len:Int))=false from decide_eq_false (by omega)) ?_
        conv=>whnf
        refine⟨Fp.i64 (by decide) (by decide),?_⟩
        conv=>whnf
        refine⟨by decide,(by show(0+1:Int)<2;decide),?_⟩
        conv=>whnf
        refine(Nat.lt_or_ge 1 (g2 n).len).elim (fun c1=>?_) fun c1=>?_
        · refine bpos (show gw true (decide ((1:Int)<((g2 n).len:Int)))=true by rw[decide_eq_true (by omega)];rfl) ?_
          conv=>whnf
          refine bneg (show decide (((g2 n).len:Int)<(f.len:Int))=false from decide_eq_false (by omega)) ?_
          conv=>whnf
          refine⟨Fp.i64 (by decide) (by decide),?_⟩
          conv=>whnf
          refine⟨Fp.i64 (by omega) (by omega),?_⟩
          conv=>whnf
          refine⟨n+1,by omega,Weak.gen1 [] rfl rfl trivial ⟨⟨_,rfl,rfl⟩,⟨_,rfl,rfl⟩,.inl ⟨_,_,rfl,rfl,fun _ _ _ _=>rfl⟩,⟨_,rfl,rfl⟩,trivial⟩,by omega⟩
        · refine bneg (show gw true (decide ((1:Int)<((g2 n).len:Int)))=false by rw[decide_eq_false (by omega)];rfl) ?_
          conv=>whnf
          refine⟨Fp.i64 (by decide) (by decide),?_⟩
          conv=>whnf
          refine⟨Fp.i64 (by omega) (by omega),?_⟩
          conv=>whnf
          refine⟨n+1,by omega,Weak.gen1 [] rfl rfl trivial ⟨⟨_,rfl,rfl⟩,⟨_,rfl,rfl⟩,.inl ⟨_,_,rfl,rfl,fun _ _ _ _=>rfl⟩,⟨_,rfl,rfl⟩,trivial⟩,by omega⟩
      · refine bneg (show gw true (decide ((1:Int)<((g1 n).len:Int)))=false by rw[decide_eq_false (by omega)];rfl) ?_
        conv=>whnf
        refine⟨Fp.i64 (by decide) (by decide),?_⟩
        conv=>whnf
        refine⟨by decide,(by show(0+1:Int)<2;decide),?_⟩
        conv=>whnf
        refine(Nat.lt_or_ge 1 (g2 n).len).elim (fun c1=>?_) fun c1=>?_
        · refine bpos (show gw true (decide ((1:Int)<((g2 n).len:Int)))=true by rw[decide_eq_true (by omega)];rfl) ?_
          conv=>whnf
          refine bneg (show decide (((g2 n).len:Int)<(f.len:Int))=false from decide_eq_false (by omega)) ?_
          conv=>whnf
          refine⟨Fp.i64 (by decide) (by decide),?_⟩
          conv=>whnf
          refine⟨Fp.i64 (by omega) (by omega),?_⟩
          conv=>whnf
          refine⟨n+1,by omega,Weak.gen1 [] rfl rfl trivial ⟨⟨_,rfl,rfl⟩,⟨_,rfl,rfl⟩,.inl ⟨_,_,rfl,rfl,fun _ _ _ _=>rfl⟩,⟨_,rfl,rfl⟩,trivial⟩,by omega⟩
        · refine bneg (show gw true (decide ((1:Int)<((g2 n).len:Int)))=false by rw[decide_eq_false (by omega)];rfl) ?_
          conv=>whnf
          refine⟨Fp.i64 (by decide) (by decide),?_⟩
          conv=>whnf
          refine⟨Fp.i64 (by omega) (by omega),?_⟩
          conv=>whnf
          refine⟨n+1,by omega,Weak.gen1 [] rfl rfl trivial ⟨⟨_,rfl,rfl⟩,⟨_,rfl,rfl⟩,.inl ⟨_,_,rfl,rfl,fun _ _ _ _=>rfl⟩,⟨_,rfl,rfl⟩,trivial⟩,by omega⟩
    · have hE:n=N:=by omega
      have kq:=kq hE
      have ka:=ka hE
      have hN1:=(hN hE).1
      have hN2:=(hN hE).2
      refine⟨by decide,(by show(0:Int)<2;decide),?_⟩
      conv=>whnf
      refine bpos (show gw true (decide ((1:Int)<((g1 n).len:Int)))=true by rw[decide_eq_true (by omega)];rfl) ?_
      conv=>whnf
      refine bpos (show decide (((g1 n).len:Int)<(f.len:Int))=true from decide_eq_true (by omega)) ?_
      conv=>whnf
      refine⟨_,kq,?_⟩
      conv=>whnf
      refine .inl ⟨[],false,?_⟩
      conv=>whnf
      refine⟨0,phB,[.c (.int .i64 p),.c (.int .i64 d),pl (g1 n)],_,_,_,ka,rfl,.inr (Nat.le_refl 2),fun h=>absurd h (by decide),fun h=>absurd h (by decide),fun F' hF'=>?_,rfl,rfl,?_⟩
      · simp at hF';subst hF';exact fun _ i j _ hj=>pcs_clos (fun i=>l.getD i 0) (i:=i) hj
      conv=>whnf
      refine .inr ?_
      conv=>whnf
      refine⟨_,kb,?_⟩
      conv=>whnf
      refine⟨by show l.length+m.length≤16777216;omega,fun x y hx hy=>one_pcs (h:=fun i=>m.getD i 0) (i:=x) hy,?_⟩
      conv=>whnf
      refine Weak.gen1 (tl:=[(0,.c (.gs 1 0))]) (xs:=[lB (l++m)]) [some 3] rfl rfl ?_ ?_
      · exact⟨⟨_,rfl,rfl,rfl,List.length_append.symm,rfl,fun i y hi hy=>regE (app_list l m hy) (pcs_clos (fun i=>(l++m).getD i 0) (i:=i) hy)⟩,trivial⟩
      · exact⟨⟨_,rfl,rfl,rfl⟩,trivial⟩
set_option maxHeartbeats 8000000 in
theorem sep_walk2 (hm : Fp.md p) {d N : Nat} {f : Pol (Zp p)} {t h g1 g2 : Nat → Pol (Zp p)} {l m : List (Pol (Zp p))} (hl : d + 1 < f.len) (hl2 : f.len ≤ 65) (W : SpW d f N t h g1 g2) (hN : Proper f (g2 N)) (hN0 : ¬ Proper f (g1 N)) (hll : l.length ≤ 65) (hml : m.length ≤ 65)
    (kq:FnOK Tryz.prog true 104 [.c (.int .i64 p),pl f,pl (g2 N)] (.t2 (pl (Pol.qo f (g2 N))) (pl (0:Pol (Zp p)))))
    (ka:FnM Tryz.prog true 106 phB [.c (.int .i64 p),.c (.int .i64 d),pl (g2 N)] (.c (.gs 1 0)) phB [gb (lB l)])
    (kb:FnOK Tryz.prog true 106 [.c (.int .i64 p),.c (.int .i64 d),pl (Pol.qo f (g2 N))] (.c (.row 1 m.length (pcs fun i=>m.getD i 0)))) :
    FnM Tryz.prog true 106 phB [.c (.int .i64 p),.c (.int .i64 d),pl f] (.c (.gs 1 0)) phB [gb (lB (l++m))]:=by
  have hm1:=hm.1
  have hm2:=hm.2.1
  obtain⟨nlt,le,k0,k1,k2,k3,no1,no2⟩:=W
  have hL:(ofP f).1=f.len:=rfl
  refine fnm_ok (E:=E1m) E1m_ok Tryz.func106 rfl mixed (by kernel_rfl) (by kernel_rfl) rfl ?_
  conv=>whnf
  refine⟨Fp.i64 (by omega) (by omega),?_⟩
  conv=>whnf
  refine bneg (show decide ((f.len:Int)-1≤(d:Int))=false from decide_eq_false (by omega)) ?_
  conv=>whnf
  refine loop_ints1 (fun n:Nat=>gst1 [(0,.c (.int .i64 p)),(1,.c (.int .i64 d)),(2,pl f),(7,.c (.int .i64 n))] []) (fun n=>N-n) (fun n=>p.toNat≤n/\n≤N) p.toNat rfl ?_ ⟨Nat.le_refl _,le⟩ fun n hn=>?_
  · exact Weak.gen1 [] rfl rfl trivial ⟨⟨_,rfl,rfl⟩,⟨_,rfl,rfl⟩,.inl ⟨_,_,rfl,rfl,fun _ _ _ _=>rfl⟩,⟨_,rfl,by omega⟩,trivial⟩
  obtain⟨hn1,hn2⟩:=hn
  have hdv:=dgp_v (p:=p) n
  have hdl:=fun k=>dgp_len' (p:=p) (n:=n) (k:=k)
  have hdp:=fun k=>dig_pos (p:=p) (n:=n) (k:=k) (by omega)
  have k0:=k0 n hn2
  have k1:=k1 n
  have k2:=k2 n
  have k3:=k3 n
  have no1:=no1 n hn1
  have no2:=no2 n hn1
  have no1:n<N->¬(1<(g1 n).len/\(g1 n).len<f.len):=no1
  have no2:n<N->¬(1<(g2 n).len/\(g2 n).len<f.len):=no2
  have hN:n=N->1<(g2 n).len/\(g2 n).len<f.len:=fun e=>by rw[e];exact hN
  have kq:n=N->FnOK Tryz.prog true 104 [.c (.int .i64 p),pl f,pl (g2 n)] (.t2 (pl (Pol.qo f (g2 N))) (pl (0:Pol (Zp p)))):=fun e=>by rw[e];exact kq
  have ka:n=N->FnM Tryz.prog true 106 phB [.c (.int .i64 p),.c (.int .i64 d),pl (g2 n)] (.c (.gs 1 0)) phB [gb (lB l)]:=fun e=>by rw[e];exact ka
  have hN0:n=N->¬(1<(g1 n).len/\(g1 n).len<f.len):=fun e=>by rw[e];exact hN0
  conv=>whnf
  refine loop_ints1 (fun k:Nat=>gst1 [(0,.c (.int .i64 p)),(1,.c (.int .i64 d)),(2,pl f),(7,.c (.int .i64 n)),(8,.c (.gs 1 0)),(9,.c (.int .i64 ((n / p.toNat^k:Nat):Int)))] [⟨3,1,k,fun i _ => .int .i64 ((dgp p n).f i).v⟩]) (fun k=>n / p.toNat^k) (fun k=>∀ i,i<k->n / p.toNat^i≠0) 0 rfl ?_ (fun i hi=>absurd hi (Nat.not_lt_zero i)) fun k hk=>?_
  · exact Weak.gen1 [none] rfl rfl ⟨rfl,trivial⟩ ⟨⟨_,rfl,rfl⟩,⟨_,rfl,rfl⟩,.inl ⟨_,_,rfl,rfl,fun _ _ _ _=>rfl⟩,⟨_,rfl,rfl⟩,rfl,⟨_,rfl,by rw[Nat.pow_zero,Nat.div_one]⟩,trivial⟩
  have hk1:=hdp k
  have hk2:=hdv k
  have hk3:=hdl k
  have hpn:(p.toNat:Int)=p:=by omega
  have hdd:n / p.toNat^(k+1)=n / p.toNat^k / p.toNat:=by rw[Nat.pow_succ,Nat.div_div_eq_div_mul]
  have hlt:n / p.toNat^k≤n:=Nat.div_le_self _ _
  generalize hM:n / p.toNat^k=M at *
  have e1:Int.tmod (M:Int) p=((M%p.toNat:Nat):Int):=by
    rw[Int.tmod_eq_emod_of_nonneg (by omega)]
    exact(congrArg (fun x=>(M:Int)%x) hpn.symm).trans (Int.natCast_emod M p.toNat).symm
  have e2:Int.tdiv (M:Int) p=((M / p.toNat:Nat):Int):=by
    rw[Int.tdiv_eq_ediv_of_nonneg (by omega)]
    exact(congrArg (fun x=>(M:Int) / x) hpn.symm).trans (Int.natCast_ediv M p.toNat).symm
  have hml2:M / p.toNat≤M:=Nat.div_le_self _ _
  have hb1:0≤Int.tdiv (M:Int) p:=by rw[e2];exact Int.natCast_nonneg _
  have hb2:Int.tdiv (M:Int) p≤(M:Int):=by rw[e2];exact Int.ofNat_le.2 hml2
  conv=>whnf
  refine bcase (fun(h:decide ((0:Int)<(M:Int))=true)=>?_) fun(h:decide ((0:Int)<(M:Int))=false)=>?_
  · have h:=of_decide_eq_true h
    conv=>whnf
    refine⟨by omega,?_⟩
    conv=>whnf
    refine⟨by show k+1≤16777216;omega,fun x y hx hy=>?_,?_⟩
    · obtain rfl : x = 0 := by have h : x < 1 := hx
                               omega
      obtain rfl : y = 0 := by have h : y < 1 := hy
                               omega
      exact⟨rfl,fun h=>rfl⟩
    conv=>whnf
    refine⟨by omega,Fp.i64 (by omega) (by omega),?_⟩
    conv=>whnf
    refine⟨k+1,(by show n / p.toNat^(k+1)<M;rw[hdd];exact Nat.div_lt_self (by omega) (by omega)),Weak.gen1 [some 1] rfl rfl ⟨⟨_,rfl,rfl,rfl,rfl,rfl,fun i y hi hy=>?_⟩,trivial⟩ ⟨⟨_,rfl,rfl⟩,⟨_,rfl,rfl⟩,.inl ⟨_,_,rfl,rfl,fun _ _ _ _=>rfl⟩,⟨_,rfl,rfl⟩,⟨_,rfl,rfl,rfl⟩,⟨_,rfl,by rw[hdd];exact e2⟩,trivial⟩,fun i hi=>?_⟩
    · obtain rfl : y = 0 := by have h : y < 1 := hy
                               omega
      refine⟨_,appI (f:=fun i=>((dgp p n).f i).v) (g:=fun i=>((dgp p n).f i).v) (k:=k) (m:=k+1) ?_ (Nat.le_refl _) hi,rfl⟩
      by_cases e:i=k
      · rw[if_pos e,e,e1,hk2]
      · rw[if_neg e]
    · rcases Nat.lt_or_ge i k with h1 | h1
      · exact hk i h1
      · obtain rfl:i=k:=by omega
        omega
  · have h:=of_decide_eq_false h
    have hk4:=hk3 (by omega) hk
    subst hk4
    conv=>whnf
    refine⟨fun i j hi hj=>rfl,?_⟩
    conv=>whnf
    refine⟨_,k0,?_⟩
    conv=>whnf
    refine⟨_,k1,?_⟩
    conv=>whnf
    refine⟨_,k2,?_⟩
    conv=>whnf
    refine⟨_,k3,?_⟩
    conv=>whnf
    refine loop_unroll 3 ?_
    conv=>whnf
    --ROUNDS
    have hL1:(ofP (g1 n)).1=(g1 n).len:=rfl
    have hL2:(ofP (g2 n)).1=(g2 n).len:=rfl
    refine(Nat.lt_or_ge n N).elim (fun hnN=>?_) fun hnN=>?_
    · have no1:=no1 hnN
      have no2:=no2 hnN
      refine⟨by decide,(by show(0:Int)<2;decide),?_⟩
      conv=>whnf
      refine(Nat.lt_or_ge 1 (g1 n).len).elim (fun c0=>?_) fun c0=>?_
      · refine bpos (show gw true (decide ((1:Int)<((g1 n).len:Int)))=true by rw[decide_eq_true (by omega)];rfl) ?_
        conv=>whnf
        refine bneg (show decide (((g1 n).len:Int)<(f.len:Int))=false from decide_eq_false (by omega)) ?_
        conv=>whnf
        refine⟨Fp.i64 (by decide) (by decide),?_⟩
        conv=>whnf
        refine⟨by decide,(by show(0+1:Int)<2;decide),?_⟩
        conv=>whnf
        refine(Nat.lt_or_ge 1 (g2 n).len).elim (fun c1=>?_) fun c1=>?_
        · refine bpos (show gw true (decide ((1:Int)<((g2 n).len:Int)))=true by rw[decide_eq_true (by omega)];rfl) ?_
          conv=>whnf
          refine bneg (show decide (((g2 n).len:Int)<(f.len:Int))=false from decide_eq_false (by omega)) ?_
          conv=>whnf
          refine⟨Fp.i64 (by decide) (by decide),?_⟩
          conv=>whnf
          refine⟨Fp.i64 (by omega) (by omega),?_⟩
          conv=>whnf
          refine⟨n+1,by omega,Weak.gen1 [] rfl rfl trivial ⟨⟨_,rfl,rfl⟩,⟨_,rfl,rfl⟩,.inl ⟨_,_,rfl,rfl,fun _ _ _ _=>rfl⟩,⟨_,rfl,rfl⟩,trivial⟩,by omega⟩
        · refine bneg (show gw true (decide ((1:Int)<((g2 n).len:Int)))=false by rw[decide_eq_false (by omega)];rfl) ?_
          conv=>whnf
          refine⟨Fp.i64 (by decide) (by decide),?_⟩
          conv=>whnf
          refine⟨Fp.i64 (by omega) (by omega),?_⟩
          conv=>whnf
          refine⟨n+1,by omega,Weak.gen1 [] rfl rfl trivial ⟨⟨_,rfl,rfl⟩,⟨_,rfl,rfl⟩,.inl ⟨_,_,rfl,rfl,fun _ _ _ _=>rfl⟩,⟨_,rfl,rfl⟩,trivial⟩,by omega⟩
      · refine bneg (show gw true (decide ((1:Int)<((g1 n).len:Int)))=false by rw[decide_eq_false (by omega)];rfl) ?_
        conv=>whnf
        refine⟨Fp.i64 (by decide) (by decide),?_⟩
        conv=>whnf
        refine⟨by decide,(by show(0+1:Int)<2;decide),?_⟩
        conv=>whnf
        refine(Nat.lt_or_ge 1 (g2 n).len).elim (fun c1=>?_) fun c1=>?_
        · refine bpos (show gw true (decide ((1:Int)<((g2 n).len:Int)))=true by rw[decide_eq_true (by omega)];rfl) ?_
          conv=>whnf
          refine bneg (show decide (((g2 n).len:Int)<(f.len:Int))=false from decide_eq_false (by omega)) ?_
          conv=>whnf
          refine⟨Fp.i64 (by decide) (by decide),?_⟩
          conv=>whnf
          refine⟨Fp.i64 (by omega) (by omega),?_⟩
          conv=>whnf
          refine⟨n+1,by omega,Weak.gen1 [] rfl rfl trivial ⟨⟨_,rfl,rfl⟩,⟨_,rfl,rfl⟩,.inl ⟨_,_,rfl,rfl,fun _ _ _ _=>rfl⟩,⟨_,rfl,rfl⟩,trivial⟩,by omega⟩
        · refine bneg (show gw true (decide ((1:Int)<((g2 n).len:Int)))=false by rw[decide_eq_false (by omega)];rfl) ?_
          conv=>whnf
          refine⟨Fp.i64 (by decide) (by decide),?_⟩
          conv=>whnf
          refine⟨Fp.i64 (by omega) (by omega),?_⟩
          conv=>whnf
          refine⟨n+1,by omega,Weak.gen1 [] rfl rfl trivial ⟨⟨_,rfl,rfl⟩,⟨_,rfl,rfl⟩,.inl ⟨_,_,rfl,rfl,fun _ _ _ _=>rfl⟩,⟨_,rfl,rfl⟩,trivial⟩,by omega⟩
    · have hE:n=N:=by omega
      have kq:=kq hE
      have ka:=ka hE
      have hN1:=(hN hE).1
      have hN2:=(hN hE).2
      have hN0:=hN0 hE
      refine⟨by decide,(by show(0:Int)<2;decide),?_⟩
      conv=>whnf
      refine(Nat.lt_or_ge 1 (g1 n).len).elim (fun c0=>?_) fun c0=>?_
      · refine bpos (show gw true (decide ((1:Int)<((g1 n).len:Int)))=true by rw[decide_eq_true (by omega)];rfl) ?_
        conv=>whnf
        refine bneg (show decide (((g1 n).len:Int)<(f.len:Int))=false from decide_eq_false (by omega)) ?_
        conv=>whnf
        refine⟨Fp.i64 (by decide) (by decide),?_⟩
        conv=>whnf
        refine⟨by decide,(by show(0+1:Int)<2;decide),?_⟩
        conv=>whnf
        refine bpos (show gw true (decide ((1:Int)<((g2 n).len:Int)))=true by rw[decide_eq_true (by omega)];rfl) ?_
        conv=>whnf
        refine bpos (show decide (((g2 n).len:Int)<(f.len:Int))=true from decide_eq_true (by omega)) ?_
        conv=>whnf
        refine⟨_,kq,?_⟩
        conv=>whnf
        refine .inl ⟨[],false,?_⟩
        conv=>whnf
        refine⟨0,phB,[.c (.int .i64 p),.c (.int .i64 d),pl (g2 n)],_,_,_,ka,rfl,.inr (Nat.le_refl 2),fun h=>absurd h (by decide),fun h=>absurd h (by decide),fun F' hF'=>?_,rfl,rfl,?_⟩
        · simp at hF';subst hF';exact fun _ i j _ hj=>pcs_clos (fun i=>l.getD i 0) (i:=i) hj
        conv=>whnf
        refine .inr ?_
        conv=>whnf
        refine⟨_,kb,?_⟩
        conv=>whnf
        refine⟨by show l.length+m.length≤16777216;omega,fun x y hx hy=>one_pcs (h:=fun i=>m.getD i 0) (i:=x) hy,?_⟩
        conv=>whnf
        refine Weak.gen1 (tl:=[(0,.c (.gs 1 0))]) (xs:=[lB (l++m)]) [some 3] rfl rfl ?_ ?_
        · exact⟨⟨_,rfl,rfl,rfl,List.length_append.symm,rfl,fun i y hi hy=>regE (app_list l m hy) (pcs_clos (fun i=>(l++m).getD i 0) (i:=i) hy)⟩,trivial⟩
        · exact⟨⟨_,rfl,rfl,rfl⟩,trivial⟩
      · refine bneg (show gw true (decide ((1:Int)<((g1 n).len:Int)))=false by rw[decide_eq_false (by omega)];rfl) ?_
        conv=>whnf
        refine⟨Fp.i64 (by decide) (by decide),?_⟩
        conv=>whnf
        refine⟨by decide,(by show(0+1:Int)<2;decide),?_⟩
        conv=>whnf
        refine bpos (show gw true (decide ((1:Int)<((g2 n).len:Int)))=true by rw[decide_eq_true (by omega)];rfl) ?_
        conv=>whnf
        refine bpos (show decide (((g2 n).len:Int)<(f.len:Int))=true from decide_eq_true (by omega)) ?_
        conv=>whnf
        refine⟨_,kq,?_⟩
        conv=>whnf
        refine .inl ⟨[],false,?_⟩
        conv=>whnf
        refine⟨0,phB,[.c (.int .i64 p),.c (.int .i64 d),pl (g2 n)],_,_,_,ka,rfl,.inr (Nat.le_refl 2),fun h=>absurd h (by decide),fun h=>absurd h (by decide),fun F' hF'=>?_,rfl,rfl,?_⟩
        · simp at hF';subst hF';exact fun _ i j _ hj=>pcs_clos (fun i=>l.getD i 0) (i:=i) hj
        conv=>whnf
        refine .inr ?_
        conv=>whnf
        refine⟨_,kb,?_⟩
        conv=>whnf
        refine⟨by show l.length+m.length≤16777216;omega,fun x y hx hy=>one_pcs (h:=fun i=>m.getD i 0) (i:=x) hy,?_⟩
        conv=>whnf
        refine Weak.gen1 (tl:=[(0,.c (.gs 1 0))]) (xs:=[lB (l++m)]) [some 3] rfl rfl ?_ ?_
        · exact⟨⟨_,rfl,rfl,rfl,List.length_append.symm,rfl,fun i y hi hy=>regE (app_list l m hy) (pcs_clos (fun i=>(l++m).getD i 0) (i:=i) hy)⟩,trivial⟩
        · exact⟨⟨_,rfl,rfl,rfl⟩,trivial⟩
set_option maxHeartbeats 8000000 in
theorem sep_nil {d:Nat} {f:Pol (Zp p)} (hd:d≤100) (hl:f.len=1) (h1:1≤d):FnM Tryz.prog true 106 phB [.c (.int .i64 p),.c (.int .i64 d),pl f] (.c (.gs 1 0)) phB [gb (lB ([]:List (Pol (Zp p))))]:=by
  have hL:(ofP f).1=f.len:=rfl
  refine fnm_ok (E:=E1m) E1m_ok Tryz.func106 rfl mixed (by kernel_rfl) (by kernel_rfl) rfl ?_
  conv=>whnf
  refine⟨Fp.i64 (by omega) (by omega),?_⟩
  conv=>whnf
  refine bpos (show decide ((f.len:Int)-1≤(d:Int))=true from decide_eq_true (by omega)) ?_
  conv=>whnf
  refine bpos (show decide ((f.len:Int)=1)=true from decide_eq_true (by omega)) ?_
  conv=>whnf
  refine Weak.gen1 (tl:=[(0,.c (.gs 1 0))]) (xs:=[lB ([]:List (Pol (Zp p)))]) [none] rfl rfl ?_ ?_
  · exact⟨rfl,trivial⟩
  · exact⟨rfl,trivial⟩
set_option maxHeartbeats 8000000 in
theorem sep_one {d:Nat} {f:Pol (Zp p)} (hd:d≤100) (hl:f.len≤d+1) (h1:1<f.len):FnM Tryz.prog true 106 phB [.c (.int .i64 p),.c (.int .i64 d),pl f] (.c (.gs 1 0)) phB [gb (lB [f])]:=by
  have hL:(ofP f).1=f.len:=rfl
  refine fnm_ok (E:=E1m) E1m_ok Tryz.func106 rfl mixed (by kernel_rfl) (by kernel_rfl) rfl ?_
  conv=>whnf
  refine⟨Fp.i64 (by omega) (by omega),?_⟩
  conv=>whnf
  refine bpos (show decide ((f.len:Int)-1≤(d:Int))=true from decide_eq_true (by omega)) ?_
  conv=>whnf
  refine bneg (show decide ((f.len:Int)=1)=false from decide_eq_false (by omega)) ?_
  conv=>whnf
  refine Weak.gen1 (tl:=[(0,.c (.gs 1 0))]) (xs:=[lB [f]]) [some 1] rfl rfl ?_ ?_
  · refine⟨⟨_,rfl,rfl,rfl,rfl,rfl,fun i y hi hy=>?_⟩,trivial⟩
    obtain rfl : y = 0 := by have h : y < 1 := hy
                             omega
    obtain rfl : i = 0 := by have h : i < 1 := hi
                             omega
    exact reg_pc (a:=f) rfl
  · exact⟨⟨_,rfl,rfl,rfl⟩,trivial⟩
theorem sep_P (hm : Fp.md p) : ∀ (k : Nat) {d : Nat} {f : Pol (Zp p)}, f.len ≤ k → 1 ≤ d → d ≤ 100 → f.len ≤ 65 → Eqd d f → ∃ l : List (Pol (Zp p)), IrL f l ∧ l.length + 1 ≤ f.len ∧ FnM Tryz.prog true 106 phB [.c (.int .i64 p), .c (.int .i64 d), pl f] (.c (.gs 1 0)) phB [gb (lB l)]
  | 0,d,f,hk,_,_,_,h=>absurd (Pol.len_nil (a:=f) (by omega)) h.ne
  | k+1,d,f,hk,hd,hd2,hl,h=>by
    have hm1:=hm.1
    have hm2:=hm.2.1
    have h0:=Pol.len_pos h.ne
    by_cases h1:f.len=1
    · exact⟨[],IrL.nil h.ne (by omega),by show 0+1≤f.len;omega,sep_nil hd2 h1 hd⟩
    by_cases h2:f.len≤d+1
    · exact⟨[f],IrL.one (h.small h2 (by omega)) h.lead,by show 1+1≤f.len;omega,sep_one hd2 h2 (by omega)⟩
    obtain⟨N,hN,hmin⟩:=ex_least (Q:=fun n=>p.toNat≤n/\n<2^50/\(Proper f (Pol.gd f (trl f n))∨Proper f (Pol.gd f (hlv d f (trl f n))))) (trial_ex hm hd h (by omega) hl)
    obtain⟨N1,N2,N3⟩:=hN
    have tl:∀ n,(trl f n).len<f.len:=fun n=>(Pol.rm_spec (dgp p n) h.ne).2
    have hv:=fun n=>halves_P hm (d:=d) (f:=f) (t:=trl f n) hd (by omega) h.ne (by omega) (by have:=tl n;omega)
    have g1:=fun n=>gd_P hm (a:=f) (b:=trl f n) (by omega) (by have:=tl n;omega) (.inl h.ne)
    have g2:=fun n=>gd_P hm (a:=f) (b:=hlv d f (trl f n)) (by omega) (by have:=(hv n).2;omega) (.inl h.ne)
    have dl:∀ n,n<2^50->(dgp p n).len≤4096:=fun n hn=>by
      refine Nat.le_trans (Pol.len_le (n:=50) fun j hj=>?_) (by decide)
      refine Zp.v_zero.1 ?_
      rw[dgp_v,Nat.div_eq_of_lt,Nat.zero_mod]
      · rfl
      · have h2:=two_le (p:=p)
        refine Nat.lt_of_lt_of_le hn (Nat.le_trans (Nat.pow_le_pow_right (by decide) hj) (Nat.pow_le_pow_left h2 j))
    have W:SpW d f N (trl f) (fun n=>hlv d f (trl f n)) (fun n=>Pol.gd f (trl f n)) (fun n=>Pol.gd f (hlv d f (trl f n))) :=
      ⟨N2,N1,fun n hn=>(rm_P hm (dl n (by omega)) h.ne (by omega)).weak,fun n=>(g1 n).2.weak,fun n=>(hv n).1,fun n=>(g2 n).2.weak,fun n a b c=>hmin n b ⟨a,by omega,.inl c⟩,fun n a b c=>hmin n b ⟨a,by omega,.inr c⟩⟩
    have fin:∀ g:Pol (Zp p),Pol.Dvs g f->g.lead=1->g≠0->Proper f g->∃ l m:List (Pol (Zp p)),IrL f (l++m)/\(l++m).length+1≤f.len/\l.length≤65/\m.length≤65/\FnOK Tryz.prog true 104 [.c (.int .i64 p),pl f,pl g] (.t2 (pl (Pol.qo f g)) (pl (0:Pol (Zp p))))/\FnM Tryz.prog true 106 phB [.c (.int .i64 p),.c (.int .i64 d),pl g] (.c (.gs 1 0)) phB [gb (lB l)]/\FnOK Tryz.prog true 106 [.c (.int .i64 p),.c (.int .i64 d),pl (Pol.qo f g)] (.c (.row 1 m.length (pcs fun i=>m.getD i 0))):=fun g gd gl g0 gp=>by
      obtain⟨e1,e2,e3,e4⟩:=sep_two h gl gd g0 gp
      obtain⟨p1,p2⟩:=gp
      obtain⟨l,l1,l2,l3⟩:=sep_P hm k (d:=d) (f:=g) (by omega) hd hd2 (by omega) e1
      obtain⟨m,m1,m2,m3⟩:=sep_P hm k (d:=d) (f:=Pol.qo f g) (by omega) hd hd2 (by omega) e2
      refine⟨l,m,e4 l m l1 m1,by rw[List.length_append];omega,by omega,by omega,(qo_P hm (by omega) g0 (by omega) gd).weak,l3,m3.shut (fun i j _ hj=>pcs_clos (fun i=>m.getD i 0) (i:=i) hj) rfl⟩
    by_cases c:Proper f (Pol.gd f (trl f N))
    · have g:=(g1 N).1
      obtain⟨l,m,a1,a2,a3,a4,a5,a6,a7⟩:=fin _ g.da g.lead g.ne c
      exact⟨l++m,a1,a2,sep_walk1 hm (by omega) hl W c a3 a4 a5 a6 a7⟩
    · have g:=(g2 N).1
      have c2:Proper f (Pol.gd f (hlv d f (trl f N))):=N3.resolve_left c
      obtain⟨l,m,a1,a2,a3,a4,a5,a6,a7⟩:=fin _ g.da g.lead g.ne c2
      exact⟨l++m,a1,a2,sep_walk2 hm (by omega) hl W c2 c a3 a4 a5 a6 a7⟩
end
end Go.Proofs.YtibaocbpeaejkaaGreat
/- The program's fpoly.factors: what its rounds gather. -/
namespace Go.Proofs.YtibaocbpeaejkaaGreat
open Go.RowKit
section
variable {p:Int} [hp:Prm p]
theorem irr_len : ∀ (l : List (Pol (Zp p))) {f : Pol (Zp p)}, f ≠ 0 → (∀ x ∈ l, Pol.Irr x ∧ x.lead = 1 ∧ Pol.Dvs x f) → l.Pairwise (· ≠ ·) → l.length + 1 ≤ f.len
 | [],f,h0,_,_=>Pol.len_pos h0
 | P :: l,f,h0,h,hn=>by
  rw[List.pairwise_cons]at hn
  obtain⟨iP,lP,c,hc⟩:=h P (by simp)
  have hc0:c≠0:=fun e=>h0 (by rw[hc,e,Crg.mul_zero])
  have h1:=irr_len l (f:=c) hc0 (fun x hx=>by
   obtain⟨ix,lx,dx⟩:=h x (by simp[hx])
   rw[hc]at dx
   rcases ix.prime dx with h2 | h2
   ·exact absurd (ix.eq iP lx lP h2).symm (hn.1 x hx)
   ·exact⟨ix,lx,h2⟩) hn.2
  have h2:=Pol.len_mul iP.ne hc0
  rw[← hc]at h2
  have:=iP.two
  show l.length+1+1≤f.len
  omega
theorem fac_len {l:List (Pol (Zp p) × Nat)} {f:Pol (Zp p)} (h0:f≠0) (h:∀ c∈l,Pol.Irr c.1/\c.1.lead=1/\Pol.Dvs c.1 f) (hn:l.Pairwise fun a b=>a.1≠b.1):l.length+1≤f.len:=by
 have:=irr_len (l.map Prod.fst) h0 (fun x hx=>by
  obtain⟨c,hc,rfl⟩:=List.mem_map.1 hx
  exact h c hc) (List.pairwise_map.2 hn)
 rwa [List.length_map]at this
structure FacQ (f : Pol (Zp p)) (t e : Nat) (L : List (Pol (Zp p) × Nat)) : Prop where
 all:∀ c∈L,Pol.Irr c.1/\c.1.lead=1/\Pol.Dvs c.1 f/\c.2=t*val c.1 f/\val c.1 f%p.toNat≠0/\val c.1 f<e
 mem:∀ P,Pol.Irr P->P.lead=1->Pol.Dvs P f->val P f%p.toNat≠0->val P f<e->(P,t*val P f)∈L
 nd:L.Pairwise fun a b=>a.1≠b.1
theorem FacQ.start {f:Pol (Zp p)} {t:Nat}:FacQ f t 1 [] :=
 ⟨fun c hc=>absurd hc (by simp),fun P _ _ _ h1 h2=>absurd (show val P f%p.toNat=0 by rw[show val P f=0 by omega];exact Nat.zero_mod _) h1,List.Pairwise.nil⟩
theorem FacQ.step {f o:Pol (Zp p)} {t e:Nat} {L:List (Pol (Zp p) × Nat)} {l:List (Pol (Zp p))} (h:FacQ f t e L) (ho:Pol.Dvs o f) (hv:∀ P,Pol.Irr P->(Pol.Dvs P o↔val P f%p.toNat≠0/\val P f=e)) (hl:IrL o l):FacQ f t (e+1) (L++l.map fun P=>(P,t*e)):=by
 refine⟨fun c hc=>?_,fun P hP lP dP h1 h2=>?_,?_⟩
 ·rcases List.mem_append.1 hc with h3 | h3
  ·obtain⟨a1,a2,a3,a4,a5,a6⟩:=h.all c h3
   exact⟨a1,a2,a3,a4,a5,by omega⟩
  ·obtain⟨P,hP,rfl⟩:=List.mem_map.1 h3
   obtain⟨b1,b2,b3⟩:=hl.all P hP
   obtain⟨b4,b5⟩:=(hv P b1).1 b3
   exact⟨b1,b2,b3.trans ho,by show t*e=t*val P f;rw[b5],b4,by show val P f<e+1;omega⟩
 ·rcases Nat.lt_or_ge (val P f) e with h3 | h3
  ·exact List.mem_append.2 (.inl (h.mem P hP lP dP h1 h3))
  ·have h4:val P f=e:=by omega
   refine List.mem_append.2 (.inr (List.mem_map.2 ⟨P,hl.mem P hP lP ((hv P hP).2 ⟨h1,h4⟩),by rw[h4]⟩))
 ·refine List.pairwise_append.2 ⟨h.nd,List.pairwise_map.2 (hl.nd.imp fun h=>h),fun a ha b hb e1=>?_⟩
  obtain⟨a1,a2,a3,a4,a5,a6⟩:=h.all a ha
  obtain⟨P,hP,rfl⟩:=List.mem_map.1 hb
  obtain⟨b1,b2,b3⟩:=hl.all P hP
  obtain⟨b4,b5⟩:=(hv P b1).1 b3
  have e1:a.1=P:=e1
  rw[e1]at a6
  omega
theorem FacQ.fin {f r:Pol (Zp p)} {t e:Nat} {L l:List (Pol (Zp p) × Nat)} (h:FacQ f t e L) (h0:f≠0) (r0:r≠0) (hr:∀ P,Pol.Irr P->(val P f%p.toNat≠0->val P f<e)/\val P r=if val P f%p.toNat=0 then val P f else 0) (hl:FacL r t l):FacL f t (L++l):=by
 have key:∀ P,Pol.Irr P->Pol.Dvs P r->val P f%p.toNat=0/\val P r=val P f/\Pol.Dvs P f:=fun P hP hd=>by
  have h1:=(val_pos hP r0).1 hd
  have h2:=(hr P hP).2
  by_cases c:val P f%p.toNat=0
  ·rw[if_pos c]at h2
   exact⟨c,h2,(val_pos hP h0).2 (by omega)⟩
  ·rw[if_neg c]at h2
   omega
 refine⟨fun c hc=>?_,fun P hP lP dP=>?_,?_⟩
 ·rcases List.mem_append.1 hc with h3 | h3
  ·obtain⟨a1,a2,a3,a4,a5,a6⟩:=h.all c h3
   exact⟨a1,a2,a3,a4⟩
  ·obtain⟨a1,a2,a3,a4⟩:=hl.all c h3
   obtain⟨b1,b2,b3⟩:=key _ a1 a3
   exact⟨a1,a2,b3,by rw[a4,b2]⟩
 ·obtain⟨h1,h2⟩:=hr P hP
  by_cases c:val P f%p.toNat=0
  ·rw[if_pos c]at h2
   have h3:=(val_pos hP h0).1 dP
   have:=hl.mem P hP lP ((val_pos hP r0).2 (by omega))
   rw[h2]at this
   exact List.mem_append.2 (.inr this)
  ·exact List.mem_append.2 (.inl (h.mem P hP lP dP c (h1 c)))
 ·refine List.pairwise_append.2 ⟨h.nd,hl.nd,fun a ha b hb e1=>?_⟩
  obtain⟨a1,a2,a3,a4,a5,a6⟩:=h.all a ha
  obtain⟨b1,b2,b3,b4⟩:=hl.all b hb
  have:=(key _ b1 b3).1
  rw[← e1]at this
  exact a5 this
def ccl (s : Nat → List (Pol (Zp p))) : Nat → List (Pol (Zp p))
 | 0=>[]
 | d+1=>ccl s d++s d
theorem ccl_irl {o:Pol (Zp p)} {N:Nat} {q:Nat->Pol (Zp p)} {s:Nat->List (Pol (Zp p))} (hb:ByD o N q) (hN:∀ P,Pol.Irr P->Pol.Dvs P o->P.len≤N) (hs:∀ i,i<N->IrL (q i) (s i)):IrL o (ccl s N):=by
 have key:∀ d,d≤N->(∀ x∈ccl s d,Pol.Irr x/\x.lead=1/\Pol.Dvs x o/\x.len≤d)/\(∀ P,Pol.Irr P->P.lead=1->Pol.Dvs P o->P.len≤d->P∈ccl s d)/\(ccl s d).Pairwise (·≠·):=fun d=>by
  induction d with
  | zero=>exact fun _=>⟨fun x hx=>absurd hx (by simp[ccl]),fun P hP _ _ h=>by have:=hP.two;omega,List.Pairwise.nil⟩
  | succ d ih =>
   intro hd
   obtain⟨h1,h2,h3⟩:=ih (by omega)
   have hsd:=hs d (by omega)
   have irr:=hb.irr d (by omega)
   refine⟨fun x hx=>?_,fun P hP lP dP hl=>?_,List.pairwise_append.2 ⟨h3,hsd.nd,fun a ha b hb e=>?_⟩⟩
   ·rcases List.mem_append.1 hx with h4 | h4
    ·obtain⟨a1,a2,a3,a4⟩:=h1 x h4
     exact⟨a1,a2,a3,by omega⟩
    ·obtain⟨a1,a2,a3⟩:=hsd.all x h4
     obtain⟨b1,b2⟩:=(irr x a1).1 a3
     exact⟨a1,a2,b1,by omega⟩
   ·rcases Nat.lt_or_ge d P.len with h4 | h4
    ·exact List.mem_append.2 (.inr (hsd.mem P hP lP ((irr P hP).2 ⟨dP,by omega⟩)))
    ·exact List.mem_append.2 (.inl (h2 P hP lP dP h4))
   ·obtain⟨a1,a2,a3,a4⟩:=h1 a ha
    obtain⟨c1,c2,c3⟩:=hsd.all b hb
    have:=((irr b c1).1 c3).2
    rw[← e]at this
    omega
 obtain⟨h1,h2,h3⟩:=key N (Nat.le_refl N)
 exact⟨fun x hx=>⟨(h1 x hx).1,(h1 x hx).2.1,(h1 x hx).2.2.1⟩,fun P hP lP dP=>h2 P hP lP dP (hN P hP dP),h3⟩
theorem ByD.eqd {o:Pol (Zp p)} {N i:Nat} {q:Nat->Pol (Zp p)} (hb:ByD o N q) (hs:Pol.Sqf o) (hi:i<N):Eqd (max i 1) (q i):=by
 obtain⟨h1,h2,h3⟩:=hb.ne i hi
 refine⟨h1,h2,hs.of_dvs h3,fun P hP hd=>?_⟩
 have h4:=((hb.irr i hi P hP).1 hd).2
 have:=hP.two
 omega
theorem FacL.root {f:Pol (Zp p)} {t:Nat} {l:List (Pol (Zp p) × Nat)} (h0:f≠0) (hd:Pol.dv f=0) (h:FacL (rtp f) (t*p.toNat) l):FacL f t l:=by
 have e:=root_p hd
 have h2:=two_le (p:=p)
 have r0:rtp f≠0:=fun e1=>h0 (by
  rw[← e,e1]
  obtain⟨k,hk⟩:∃ k,p.toNat=k+1:=⟨p.toNat-1,by omega⟩
  rw[hk]
  exact Crg.mul_zero _)
 have hv:∀ P,Pol.Irr P->val P f=p.toNat*val P (rtp f):=fun P hP=>by
  have:=val_pw hP r0 p.toNat
  rwa [e]at this
 have hdv:∀ P,Pol.Irr P->(Pol.Dvs P f↔Pol.Dvs P (rtp f)):=fun P hP=>by
  rw[val_pos hP h0,val_pos hP r0,hv P hP]
  refine⟨fun h=>?_,fun h=>Nat.le_trans h (Nat.le_mul_of_pos_left _ (by omega))⟩
  rcases Nat.eq_zero_or_pos (val P (rtp f))with h3 | h3
  ·rw[h3,Nat.mul_zero]at h;omega
  ·exact h3
 refine⟨fun c hc=>?_,fun P hP lP dP=>?_,h.nd⟩
 ·obtain⟨a1,a2,a3,a4⟩:=h.all c hc
  exact⟨a1,a2,(hdv _ a1).2 a3,by rw[a4,hv _ a1,Nat.mul_assoc]⟩
 ·have:=h.mem P hP lP ((hdv P hP).1 dP)
  rwa [Nat.mul_assoc,← hv P hP]at this
theorem rtp_lead {f:Pol (Zp p)} (h0:f≠0) (hl:f.lead=1) (hd:Pol.dv f=0):rtp f≠0/\(rtp f).lead=1:=by
 obtain⟨k,e1,e2⟩:=rtp_len hd h0
 refine⟨Pol.ne_of_len (by omega),?_⟩
 rw[← hl]
 show f.f (p.toNat*((rtp f).len-1))=f.f (f.len-1)
 rw[e2,e1]
 rfl
end
end Go.Proofs.YtibaocbpeaejkaaGreat
/- The program's fpoly.factors: the walk. -/
namespace Go.Proofs.YtibaocbpeaejkaaGreat
open Go.RowKit
section
variable {p:Int} [hp:Prm p]
noncomputable abbrev fcs (l:List (Pol (Zp p) × Nat)):Nat->Nat->Cell:=fun i y=>([pc (l.getD i (0,0)).1,.int .i64 ((l.getD i (0,0)).2:Nat)]:List Cell).getD y .any
noncomputable abbrev fcB (l:List (Pol (Zp p) × Nat)):Gx:=⟨55,2,l.length,fcs l⟩
theorem fcs_clos (l:List (Pol (Zp p) × Nat)) {i y:Nat} (hy:y<2):(fcs l i y).clos=true:=by
 match y,hy with
 | 0,_=>rfl
 | 1,_=>rfl
theorem one_fcs {bl:List Blk} {r:Prop} {l:List (Pol (Zp p) × Nat)} {i y:Nat} (hy:y<2):St.one bl (fcs l i y)=true/\(r->(fcs l i y).noU=true):=by
 match y,hy with
 | 0,_=>exact⟨rfl,fun _=>rfl⟩
 | 1,_=>exact⟨rfl,fun _=>rfl⟩
theorem getD_left {α:Type} {l m:List α} {i:Nat} {d:α} (h:i<l.length):(l++m).getD i d=l.getD i d:=by simp only[List.getD_eq_getElem?_getD,List.getElem?_append_left h]
theorem getD_right {α:Type} {l m:List α} {i:Nat} {d:α} (h:¬ i<l.length):(l++m).getD i d=m.getD (i-l.length) d:=by simp only[List.getD_eq_getElem?_getD,List.getElem?_append_right (Nat.le_of_not_lt h)]
theorem app_fcs (l m:List (Pol (Zp p) × Nat)) (i y:Nat):appF l.length (fcs l) (fcs m) i y=fcs (l++m) i y:=by
 unfold appF
 split
 ·rename_i h
  show _=([pc ((l++m).getD i (0,0)).1,_]:List Cell).getD y .any
  rw[getD_left h]
 ·rename_i h
  show _=([pc ((l++m).getD i (0,0)).1,.int .i64 (((l++m).getD i (0,0)).2:Nat)]:List Cell).getD y .any
  rw[getD_right h]
theorem app_fcs1 (l:List (Pol (Zp p) × Nat)) {l':List (Pol (Zp p) × Nat)} {a:Pol (Zp p)} {v:Nat} {z:Int} (hz:z=v) (hl:l'=l++[(a,v)]) {i y:Nat} (hi:i<l.length+1) (hy:y<2):appF l.length (fcs l) (rowF 2 [pc a,.int .i64 z]) i y=fcs l' i y:=by
 subst hl
 subst hz
 rw[← app_fcs]
 unfold appF
 split
 ·rfl
 ·have e:i-l.length=0:=by omega
  rw[e]
  match y,hy with
  | 0,_=>rfl
  | 1,_=>rfl
structure FcW (t E : Nat) (s r o : Nat → Pol (Zp p)) (N : Nat → Nat) (q : Nat → Nat → Pol (Zp p)) (S : Nat → Nat → List (Pol (Zp p))) (B : Nat → Nat → Nat → List (Pol (Zp p) × Nat)) : Prop where
 k1:∀ j,j<E->FnOK Tryz.prog true 103 [.c (.int .i64 p),pl (s j),pl (r j)] (pl (s (j+1)))
 k2:∀ j,j<E->FnOK Tryz.prog true 104 [.c (.int .i64 p),pl (s j),pl (s (j+1))] (.t2 (pl (o j)) (pl (0:Pol (Zp p))))
 k3:∀ j,j<E->FnOK Tryz.prog true 105 [.c (.int .i64 p),pl (o j)] (.c (.row 1 (N j) (pcs (q j))))
 k4:∀ j,j<E->∀ i,i<N j->FnOK Tryz.prog true 106 [.c (.int .i64 p),.c (.int .i64 (if(1:Int) > (i:Int)then 1 else(i:Int))),pl (q j i)] (.c (.row 1 (S j i).length (pcs fun x=>(S j i).getD x 0)))
 k5:∀ j,j<E->FnOK Tryz.prog true 104 [.c (.int .i64 p),pl (r j),pl (s (j+1))] (.t2 (pl (r (j+1))) (pl (0:Pol (Zp p))))
 ex:∀ j,j<E->1<(s j).len
 ee:(s E).len≤1
 ls:∀ j,(s j).len≤65
 kE:E≤100
 kt:t≤64
 kN:∀ j,j<E->N j≤100
 kS:∀ j,j<E->∀ i,i<N j->(S j i).length≤100
 b0:B 0 0 0=[]
 b1:∀ j i x,x<(S j i).length->B j i (x+1)=B j i x++[((S j i).getD x 0,t*(j+1))]
 b2:∀ j i,B j (i+1) 0=B j i (S j i).length
 b3:∀ j,B (j+1) 0 0=B j (N j) 0
 bl:∀ j,j<E->∀ i,i<N j->∀ x,x≤(S j i).length->(B j i x).length≤5000000
 be:(B E 0 0).length≤5000000
set_option maxHeartbeats 16000000 in
theorem fac_walk {f g : Pol (Zp p)} {t E : Nat} {s r o : Nat → Pol (Zp p)} {N : Nat → Nat} {q : Nat → Nat → Pol (Zp p)} {S : Nat → Nat → List (Pol (Zp p))} {B : Nat → Nat → Nat → List (Pol (Zp p) × Nat)} {l : List (Pol (Zp p) × Nat)} (W : FcW t E s r o N q S B) (hf : 1 < f.len) (hg : 0 < g.len) (hll : l.length ≤ 65)
  (kd:FnOK Tryz.prog true 101 [.c (.int .i64 p),pl f] (pl g))
  (kg:FnOK Tryz.prog true 103 [.c (.int .i64 p),pl f,pl g] (pl (r 0)))
  (kq:FnOK Tryz.prog true 104 [.c (.int .i64 p),pl f,pl (r 0)] (.t2 (pl (s 0)) (pl (0:Pol (Zp p)))))
  (kf:FnOK Tryz.prog true 60 [.c (.int .i64 p),pl (r E),.c (.int .i64 t)] (.c (.row 2 l.length (fcs l)))) :
  FnM Tryz.prog true 60 phB [.c (.int .i64 p),pl f,.c (.int .i64 t)] (.c (.gs 1 0)) phB [gb (fcB (B E 0 0++l))]:=by
 obtain⟨k1,k2,k3,k4,k5,ex,ee,ls,kE,kt,kN,kS,b0,b1,b2,b3,bl,be⟩:=W
 refine fnm_ok (E:=E1m) E1m_ok Tryz.func60 rfl mixed (by kernel_rfl) (by kernel_rfl) rfl ?_
 conv=>whnf
 refine bneg (show decide ((f.len:Int)≤1)=false from decide_eq_false (by omega)) ?_
 conv=>whnf
 refine⟨_,kd,?_⟩
 conv=>whnf
 refine bneg (show decide ((g.len:Int)=0)=false from decide_eq_false (by omega)) ?_
 conv=>whnf
 refine⟨_,kg,?_⟩
 conv=>whnf
 refine⟨_,kq,?_⟩
 conv=>whnf
 refine loop_ints1 (fun j:Nat=>gst1 [(0,.c (.int .i64 p)),(2,.c (.int .i64 t)),(8,.c (.gs 1 0)),(9,pl (r j)),(10,pl (s j)),(12,.c (.int .i64 ((j:Int)+1)))] [fcB (B j 0 0)]) (fun j=>E-j) (fun j=>j≤E) 0 rfl ?_ (Nat.zero_le _) fun j hj=>?_
 ·exact Weak.gen1 [none] rfl rfl ⟨congrArg List.length b0,trivial⟩ ⟨⟨_,rfl,rfl⟩,⟨_,rfl,rfl⟩,rfl,.inl ⟨_,_,rfl,rfl,fun _ _ _ _=>rfl⟩,.inl ⟨_,_,rfl,rfl,fun _ _ _ _=>rfl⟩,⟨_,rfl,rfl⟩,trivial⟩
 have k1:=k1 j
 have k2:=k2 j
 have k3:=k3 j
 have k4:=k4 j
 have k5:=k5 j
 have ex:=ex j
 have ls:=ls j
 have kN:=kN j
 have kS:=kS j
 have b1:=b1 j
 have b2:=b2 j
 have b3:=b3 j
 have bl:=bl j
 have hL:(ofP (s j)).1=(s j).len:=rfl
 rcases Nat.lt_or_ge j E with hjE | hjE
 ·have k1:=k1 hjE
  have k2:=k2 hjE
  have k3:=k3 hjE
  have k4:=k4 hjE
  have k5:=k5 hjE
  have ex:=ex hjE
  have kN:=kN hjE
  have kS:=kS hjE
  have bl:=bl hjE
  conv=>whnf
  refine bpos (show decide ((1:Int)<((s j).len:Int))=true from decide_eq_true (by omega)) ?_
  conv=>whnf
  refine⟨_,k1,?_⟩
  conv=>whnf
  refine⟨_,k2,?_⟩
  conv=>whnf
  refine⟨_,k3,?_⟩
  conv=>whnf
  refine loop_ints1 (fun i:Nat=>gst1 [(0,.c (.int .i64 p)),(2,.c (.int .i64 t)),(8,.c (.gs 1 0)),(9,pl (r j)),(12,.c (.int .i64 ((j:Int)+1))),(13,pl (s (j+1))),(66,.c (.row 1 (N j) (pcs (q j)))),(67,.c (.int .i64 (N j))),(68,.c (.int .i64 i))] [fcB (B j i 0)]) (fun i=>N j-i) (fun i=>i≤N j) 0 rfl ?_ (Nat.zero_le _) fun i hi=>?_
  ·exact Weak.gen1 [some 1] rfl rfl ⟨⟨_,rfl,rfl,rfl,rfl,rfl,fun i y hi hy=>regE rfl (fcs_clos _ hy)⟩,trivial⟩ ⟨⟨_,rfl,rfl⟩,⟨_,rfl,rfl⟩,⟨_,rfl,rfl,rfl⟩,.inl ⟨_,_,rfl,rfl,fun _ _ _ _=>rfl⟩,⟨_,rfl,rfl⟩,.inl ⟨_,_,rfl,rfl,fun _ _ _ _=>rfl⟩,.inl ⟨_,_,rfl,rfl,fun _ _ _ _=>rfl⟩,⟨_,rfl,rfl⟩,⟨_,rfl,rfl⟩,trivial⟩
  rcases Nat.lt_or_ge i (N j)with hiN | hiN
  ·have k4:=k4 i hiN
   have kS:=kS i hiN
   have b1:=b1 i
   have b2:=b2 i
   have bl:=bl i hiN
   conv=>whnf
   refine bpos (show decide ((i:Int)<(N j:Int))=true from decide_eq_true (by omega)) ?_
   conv=>whnf
   refine⟨by omega,by omega,?_⟩
   conv=>whnf
   refine .inr ?_
   conv=>whnf
   refine⟨_,k4,?_⟩
   conv=>whnf
   refine loop_ints1 (fun x:Nat=>gst1 [(0,.c (.int .i64 p)),(2,.c (.int .i64 t)),(8,.c (.gs 1 0)),(9,pl (r j)),(12,.c (.int .i64 ((j:Int)+1))),(13,pl (s (j+1))),(66,.c (.row 1 (N j) (pcs (q j)))),(67,.c (.int .i64 (N j))),(68,.c (.int .i64 i)),(77,.c (.row 1 (S j i).length (pcs fun x=>(S j i).getD x 0))),(78,.c (.int .i64 (S j i).length)),(79,.c (.int .i64 x))] [fcB (B j i x)]) (fun x=>(S j i).length-x) (fun x=>x≤(S j i).length) 0 rfl ?_ (Nat.zero_le _) fun x hx=>?_
   ·exact Weak.gen1 [some 1] rfl rfl ⟨⟨_,rfl,rfl,rfl,rfl,rfl,fun i y hi hy=>regE rfl (fcs_clos _ hy)⟩,trivial⟩ ⟨⟨_,rfl,rfl⟩,⟨_,rfl,rfl⟩,⟨_,rfl,rfl,rfl⟩,.inl ⟨_,_,rfl,rfl,fun _ _ _ _=>rfl⟩,⟨_,rfl,rfl⟩,.inl ⟨_,_,rfl,rfl,fun _ _ _ _=>rfl⟩,.inl ⟨_,_,rfl,rfl,fun _ _ _ _=>rfl⟩,⟨_,rfl,rfl⟩,⟨_,rfl,rfl⟩,.inl ⟨_,_,rfl,rfl,fun _ _ _ _=>rfl⟩,⟨_,rfl,rfl⟩,⟨_,rfl,rfl⟩,trivial⟩
   rcases Nat.lt_or_ge x (S j i).length with hxS | hxS
   ·have b1:=b1 x hxS
    have bl:=bl x hx
    have hz:((j:Int)+1)*(t:Int)=((t*(j+1):Nat):Int):=by rw[Int.natCast_mul,Int.mul_comm];rfl
    have hz2:t*(j+1)≤64*101:=Nat.mul_le_mul kt (by omega)
    have bl2:(B j i (x+1)).length=(B j i x).length+1:=by rw[b1,List.length_append];rfl
    conv=>whnf
    refine bpos (show decide ((x:Int)<((S j i).length:Int))=true from decide_eq_true (by omega)) ?_
    conv=>whnf
    refine⟨by omega,by omega,?_⟩
    conv=>whnf
    refine⟨Fp.i64 (by omega) (by omega),?_⟩
    conv=>whnf
    refine⟨by show(B j i x).length+1≤16777216;omega,fun a y ha hy=>?_,?_⟩
    ·have ha:a<1:=ha
     have hy:y<2:=hy
     match a,y,ha,hy with
     | 0,0,_,_=>exact⟨rfl,fun _=>rfl⟩
     | 0,1,_,_=>exact⟨rfl,fun _=>rfl⟩
    conv=>whnf
    refine⟨Fp.i64 (by omega) (by omega),?_⟩
    conv=>whnf
    refine⟨x+1,by omega,Weak.gen1 [some 1] rfl rfl ⟨⟨_,rfl,rfl,rfl,bl2.symm,rfl,fun i y hi hy=>regE (app_fcs1 _ hz b1 (Nat.lt_of_lt_of_eq hi bl2) hy) (fcs_clos _ hy)⟩,trivial⟩ ⟨⟨_,rfl,rfl⟩,⟨_,rfl,rfl⟩,⟨_,rfl,rfl,rfl⟩,.inl ⟨_,_,rfl,rfl,fun _ _ _ _=>rfl⟩,⟨_,rfl,rfl⟩,.inl ⟨_,_,rfl,rfl,fun _ _ _ _=>rfl⟩,.inl ⟨_,_,rfl,rfl,fun _ _ _ _=>rfl⟩,⟨_,rfl,rfl⟩,⟨_,rfl,rfl⟩,.inl ⟨_,_,rfl,rfl,fun _ _ _ _=>rfl⟩,⟨_,rfl,rfl⟩,⟨_,rfl,rfl⟩,trivial⟩,by omega⟩
   ·obtain rfl:x=(S j i).length:=by omega
    conv=>whnf
    refine bneg (show decide (((S j i).length:Int)<((S j i).length:Int))=false from decide_eq_false (by omega)) ?_
    conv=>whnf
    refine⟨Fp.i64 (by omega) (by omega),?_⟩
    conv=>whnf
    refine⟨i+1,by omega,Weak.gen1 [some 1] rfl rfl ⟨⟨_,rfl,rfl,rfl,congrArg List.length b2.symm,rfl,fun i y hi hy=>regE (congrFun (congrFun (congrArg fcs b2.symm) i) y) (fcs_clos _ hy)⟩,trivial⟩ ⟨⟨_,rfl,rfl⟩,⟨_,rfl,rfl⟩,⟨_,rfl,rfl,rfl⟩,.inl ⟨_,_,rfl,rfl,fun _ _ _ _=>rfl⟩,⟨_,rfl,rfl⟩,.inl ⟨_,_,rfl,rfl,fun _ _ _ _=>rfl⟩,.inl ⟨_,_,rfl,rfl,fun _ _ _ _=>rfl⟩,⟨_,rfl,rfl⟩,⟨_,rfl,rfl⟩,trivial⟩,by omega⟩
  ·obtain rfl:i=N j:=by omega
   conv=>whnf
   refine bneg (show decide ((N j:Int)<(N j:Int))=false from decide_eq_false (by omega)) ?_
   conv=>whnf
   refine⟨_,k5,?_⟩
   conv=>whnf
   refine⟨Fp.i64 (by omega) (by omega),?_⟩
   conv=>whnf
   refine⟨j+1,by omega,Weak.gen1 [some 1] rfl rfl ⟨⟨_,rfl,rfl,rfl,congrArg List.length b3.symm,rfl,fun i y hi hy=>regE (congrFun (congrFun (congrArg fcs b3.symm) i) y) (fcs_clos _ hy)⟩,trivial⟩ ⟨⟨_,rfl,rfl⟩,⟨_,rfl,rfl⟩,⟨_,rfl,rfl,rfl⟩,.inl ⟨_,_,rfl,rfl,fun _ _ _ _=>rfl⟩,.inl ⟨_,_,rfl,rfl,fun _ _ _ _=>rfl⟩,⟨_,rfl,by omega⟩,trivial⟩,by omega⟩
 ·obtain rfl:j=E:=by omega
  conv=>whnf
  refine bneg (show decide ((1:Int)<((s j).len:Int))=false from decide_eq_false (by omega)) ?_
  conv=>whnf
  refine .inr ?_
  conv=>whnf
  refine⟨_,kf,?_⟩
  conv=>whnf
  refine⟨by show(B j 0 0).length+l.length≤16777216;omega,fun x y hx hy=>one_fcs (l:=l) (i:=x) hy,?_⟩
  conv=>whnf
  refine Weak.gen1 (tl:=[(0,.c (.gs 1 0))]) (xs:=[fcB (B j 0 0++l)]) [some 1] rfl rfl ?_ ?_
  ·exact⟨⟨_,rfl,rfl,rfl,List.length_append.symm,rfl,fun i y hi hy=>regE (app_fcs (B j 0 0) l i y) (fcs_clos _ hy)⟩,trivial⟩
  ·exact⟨⟨_,rfl,rfl,rfl⟩,trivial⟩
end
end Go.Proofs.YtibaocbpeaejkaaGreat
/- The program's fpoly.factors: all of it. -/
namespace Go.Proofs.YtibaocbpeaejkaaGreat
open Go.RowKit
section
variable {p:Int} [hp:Prm p]
set_option maxHeartbeats 8000000 in
theorem fac_nil {f:Pol (Zp p)} {t:Int} (hf:f.len≤1):FnM Tryz.prog true 60 phB [.c (.int .i64 p),pl f,.c (.int .i64 t)] (.c (.gs 1 0)) phB [gb (fcB ([]:List (Pol (Zp p) × Nat)))]:=by
 have hL:(ofP f).1=f.len:=rfl
 refine fnm_ok (E:=E1m) E1m_ok Tryz.func60 rfl mixed (by kernel_rfl) (by kernel_rfl) rfl ?_
 conv=>whnf
 refine bpos (show decide ((f.len:Int)≤1)=true from decide_eq_true (by omega)) ?_
 conv=>whnf
 refine Weak.gen1 (tl:=[(0,.c (.gs 1 0))]) (xs:=[fcB ([]:List (Pol (Zp p) × Nat))]) [none] rfl rfl ?_ ?_
 ·exact⟨rfl,trivial⟩
 ·exact⟨rfl,trivial⟩
set_option maxHeartbeats 8000000 in
theorem fac_root {f g h : Pol (Zp p)} {t u : Nat} {l : List (Pol (Zp p) × Nat)} (hf : 1 < f.len) (hg : g.len = 0) (hu : (t : Int) * p = u) (hub : u ≤ 64)
  (kd:FnOK Tryz.prog true 101 [.c (.int .i64 p),pl f] (pl g))
  (kr:FnOK Tryz.prog true 102 [.c (.int .i64 p),pl f] (pl h))
  (ka:FnM Tryz.prog true 60 phB [.c (.int .i64 p),pl h,.c (.int .i64 ((t:Int)*p))] (.c (.gs 1 0)) phB [gb (fcB l)]) :
  FnM Tryz.prog true 60 phB [.c (.int .i64 p),pl f,.c (.int .i64 t)] (.c (.gs 1 0)) phB [gb (fcB l)]:=by
 have hL:(ofP f).1=f.len:=rfl
 refine fnm_ok (E:=E1m) E1m_ok Tryz.func60 rfl mixed (by kernel_rfl) (by kernel_rfl) rfl ?_
 conv=>whnf
 refine bneg (show decide ((f.len:Int)≤1)=false from decide_eq_false (by omega)) ?_
 conv=>whnf
 refine⟨_,kd,?_⟩
 conv=>whnf
 refine bpos (show decide ((g.len:Int)=0)=true from decide_eq_true (by omega)) ?_
 conv=>whnf
 refine⟨_,kr,?_⟩
 conv=>whnf
 refine⟨Fp.i64 (by omega) (by omega),?_⟩
 conv=>whnf
 refine .inl ⟨[],false,?_⟩
 conv=>whnf
 refine⟨0,phB,[.c (.int .i64 p),pl h,.c (.int .i64 ((t:Int)*p))],_,_,_,ka,rfl,.inr (Nat.le_refl 2),fun h=>absurd h (by decide),fun h=>absurd h (by decide),fun F' hF'=>?_,rfl,rfl,?_⟩
 ·simp at hF';subst hF';exact fun _ i j _ hj=>fcs_clos l (i:=i) hj
 conv=>whnf
 refine Weak.gen1 (tl:=[(0,.c (.gs 1 0))]) (xs:=[fcB l]) [some 1] rfl rfl ?_ ?_
 ·exact⟨⟨_,rfl,rfl,rfl,rfl,rfl,fun i y hi hy=>regE rfl (fcs_clos _ hy)⟩,trivial⟩
 ·exact⟨⟨_,rfl,rfl,rfl⟩,trivial⟩
def BdP (o:Pol (Zp p)) (x:Nat × (Nat->Pol (Zp p))):Prop:=ByD o x.1 x.2/\(∀ P,Pol.Irr P->Pol.Dvs P o->P.len≤x.1)/\x.1≤o.len+1/\FnOK Tryz.prog true 105 [.c (.int .i64 p),pl o] (.c (.row 1 x.1 (pcs x.2)))
noncomputable def bdC (o:Pol (Zp p)):Nat × (Nat->Pol (Zp p)):=open Classical in if h:∃ x,BdP o x then h.choose else(0,fun _=>0)
theorem bdC_spec (hm:Fp.md p) {o:Pol (Zp p)} (hs:Pol.Sqf o) (h0:o≠0) (h1:o.lead=1) (lf:o.len≤1024):BdP o (bdC o):=by
 have hx:∃ x,BdP o x:=by
  obtain⟨N,q,a,b,_,c,d⟩:=byDegree_P hm hs h0 h1 lf
  exact⟨(N,q),a,b,c,d⟩
 unfold bdC
 rw[dif_pos hx]
 exact hx.choose_spec
def SpP (d:Nat) (f:Pol (Zp p)) (l:List (Pol (Zp p))):Prop:=IrL f l/\l.length+1≤f.len/\FnOK Tryz.prog true 106 [.c (.int .i64 p),.c (.int .i64 d),pl f] (.c (.row 1 l.length (pcs fun x=>l.getD x 0)))
noncomputable def spC (d:Nat) (f:Pol (Zp p)):List (Pol (Zp p)):=open Classical in if h:∃ l,SpP d f l then h.choose else []
theorem spC_spec (hm:Fp.md p) {d:Nat} {f:Pol (Zp p)} (hd:1≤d) (hd2:d≤100) (hl:f.len≤65) (h:Eqd d f):SpP d f (spC d f):=by
 have hx:∃ l,SpP d f l:=by
  obtain⟨l,a,b,c⟩:=sep_P hm f.len (Nat.le_refl _) hd hd2 hl h
  exact⟨l,a,b,c.shut (fun i j _ hj=>pcs_clos (fun i=>l.getD i 0) (i:=i) hj) rfl⟩
 unfold spC
 rw[dif_pos hx]
 exact hx.choose_spec
noncomputable def fcS (f : Pol (Zp p)) : Nat → Pol (Zp p) × Pol (Zp p)
 | 0=>(Pol.qo f (Pol.gd f (Pol.dv f)),Pol.gd f (Pol.dv f))
 | j+1=>(Pol.gd (fcS f j).1 (fcS f j).2,Pol.qo (fcS f j).2 (Pol.gd (fcS f j).1 (fcS f j).2))
noncomputable def fcO (f:Pol (Zp p)) (j:Nat):Pol (Zp p):=Pol.qo (fcS f j).1 (fcS f (j+1)).1
noncomputable def fcL (f:Pol (Zp p)) (j i:Nat):List (Pol (Zp p)):=spC (max i 1) ((bdC (fcO f j)).2 i)
noncomputable def fcA (f : Pol (Zp p)) (t : Nat) : Nat → List (Pol (Zp p) × Nat)
 | 0=>[]
 | j+1=>fcA f t j++(ccl (fcL f j) (bdC (fcO f j)).1).map fun P=>(P,t*(j+1))
noncomputable def fcE (f:Pol (Zp p)) (t j i x:Nat):List (Pol (Zp p) × Nat):=fcA f t j++(ccl (fcL f j) i++(fcL f j i).take x).map fun P=>(P,t*(j+1))
theorem take_next {α:Type} (l:List α) (d:α) {x:Nat} (h:x<l.length):l.take (x+1)=l.take x++[l.getD x d]:=by
 rw[List.take_add_one,List.getD_eq_getElem?_getD,List.getElem?_eq_getElem h]
 rfl
theorem fcE_1 (f:Pol (Zp p)) (t j i x:Nat) (h:x<(fcL f j i).length):fcE f t j i (x+1)=fcE f t j i x++[((fcL f j i).getD x 0,t*(j+1))]:=by
 unfold fcE
 rw[take_next _ 0 h]
 simp
theorem fcE_2 (f:Pol (Zp p)) (t j i:Nat):fcE f t j (i+1) 0=fcE f t j i (fcL f j i).length:=by
 show fcA f t j++(ccl (fcL f j) i++fcL f j i++(fcL f j (i+1)).take 0).map _=fcA f t j++(ccl (fcL f j) i++(fcL f j i).take (fcL f j i).length).map _
 rw[List.take_length,List.take_zero,List.append_nil]
theorem fcE_3 (f:Pol (Zp p)) (t j:Nat):fcE f t (j+1) 0 0=fcE f t j (bdC (fcO f j)).1 0:=by
 show fcA f t j++(ccl (fcL f j) (bdC (fcO f j)).1).map (fun P=>(P,t*(j+1)))++([]++(fcL f (j+1) 0).take 0).map _=fcA f t j++(ccl (fcL f j) (bdC (fcO f j)).1++(fcL f j (bdC (fcO f j)).1).take 0).map _
 rw[List.take_zero,List.take_zero,List.append_nil,List.append_nil,List.map_nil,List.append_nil]
theorem ccl_len {s : Nat → List (Pol (Zp p))} {n : Nat} : ∀ {i : Nat}, (∀ k, k < i → (s k).length ≤ n) → (ccl s i).length ≤ i * n
 | 0,_=>Nat.zero_le _
 | i+1,h=>by
  have h1:=ccl_len (s:=s) (i:=i) fun k hk=>h k (by omega)
  have h2:=h i (by omega)
  show(ccl s i++s i).length≤(i+1)*n
  rw[List.length_append,Nat.succ_mul]
  omega
structure FcI (f : Pol (Zp p)) (t j : Nat) : Prop where
 i:SqI f (j+1) (fcS f j).1 (fcS f j).2
 ls:(fcS f j).1.len≤f.len
 lr:(fcS f j).2.len<f.len
 q:FacQ f t (j+1) (fcA f t j)
theorem fc_step (hm:Fp.md p) {f:Pol (Zp p)} {t j:Nat} (_:f≠0) (lf:f.len≤65) (h:FcI f t j):FcI f t (j+1)/\FnOK Tryz.prog false 103 [.c (.int .i64 p),pl (fcS f j).1,pl (fcS f j).2] (pl (fcS f (j+1)).1)/\FnOK Tryz.prog false 104 [.c (.int .i64 p),pl (fcS f j).1,pl (fcS f (j+1)).1] (.t2 (pl (fcO f j)) (pl (0:Pol (Zp p))))/\FnOK Tryz.prog false 104 [.c (.int .i64 p),pl (fcS f j).2,pl (fcS f (j+1)).1] (.t2 (pl (fcS f (j+1)).2) (pl (0:Pol (Zp p))))/\BdP (fcO f j) (bdC (fcO f j))/\(fcO f j).len≤f.len/\∀ i,i<(bdC (fcO f j)).1->SpP (max i 1) ((bdC (fcO f j)).2 i) (fcL f j i)/\(fcL f j i).length≤65:=by
 obtain⟨hi,hls,hlr,hq⟩:=h
 obtain⟨g1,k1⟩:=gd_P hm (a:=(fcS f j).1) (b:=(fcS f j).2) (by omega) (by omega) (.inl hi.s0)
 have g1:Gc (fcS f j).1 (fcS f j).2 (fcS f (j+1)).1:=g1
 have lm:=g1.da.len hi.s0
 have eo:(fcS f j).1=fcO f j*(fcS f (j+1)).1:=qo_dvs g1.ne g1.da
 have er:(fcS f j).2=(fcS f (j+1)).2*(fcS f (j+1)).1:=qo_dvs g1.ne g1.db
 obtain⟨n1,o0,ol,os,od,ov⟩:=hi.step g1 eo er
 have lo:=Pol.Dvs.len (show Pol.Dvs (fcO f j) (fcS f j).1 from⟨_,eo⟩) hi.s0
 have lr:=Pol.Dvs.len (show Pol.Dvs (fcS f (j+1)).2 (fcS f j).2 from⟨_,er⟩) hi.r0
 have b:=bdC_spec hm os o0 ol (by omega)
 have sp:∀ i,i<(bdC (fcO f j)).1->SpP (max i 1) ((bdC (fcO f j)).2 i) (fcL f j i)/\(fcL f j i).length≤65:=fun i hil=>by
  have e1:=b.1.eqd os hil
  have e2:=((b.1.ne i hil).2.2).len o0
  have e3:=b.2.2.1
  have:SpP (max i 1) ((bdC (fcO f j)).2 i) (fcL f j i):=spC_spec hm (by omega) (by omega) (by omega) e1
  exact⟨this,by have:=this.2.1;omega⟩
 refine⟨⟨n1,by omega,by omega,?_⟩,k1,qo_P hm (by omega) g1.ne (by omega) g1.da,qo_P hm (by omega) g1.ne (by omega) g1.db,b,by omega,sp⟩
 exact hq.step od ov (ccl_irl b.1 b.2.1 fun i hil=>(sp i hil).1.1)
theorem val_lt_len {P f:Pol (Zp p)} (hP:Pol.Irr P) (h0:f≠0):val P f<f.len:=by
 have h1:=((val_iff hP h0).2 (Nat.le_refl (val P f))).len h0
 rw[(len_pw_eq hP.ne _).1]at h1
 have:=hP.two
 have:val P f≤val P f*(P.len-1):=Nat.le_mul_of_pos_right _ (by omega)
 omega
theorem fac_P (hm : Fp.md p) : ∀ (k : Nat) {f : Pol (Zp p)} {t : Nat}, f.len ≤ k → f ≠ 0 → f.lead = 1 → f.len ≤ 65 → t * (f.len - 1) ≤ 64 → ∃ l, FacL f t l ∧ l.length + 1 ≤ f.len ∧ FnM Tryz.prog true 60 phB [.c (.int .i64 p), pl f, .c (.int .i64 t)] (.c (.gs 1 0)) phB [gb (fcB l)]
 | 0,f,t,hk,h0,_,_,_=>absurd (Pol.len_nil (a:=f) (by omega)) h0
 | k+1,f,t,hk,h0,h1,lf,ht=>by
  have hm1:=hm.1
  have hm2:=hm.2.1
  have hp0:=Pol.len_pos h0
  by_cases c:f.len≤1
  ·refine⟨[],⟨fun c hc=>absurd hc (by simp),fun P hP _ hd=>?_,List.Pairwise.nil⟩,by show 0+1≤f.len;omega,fac_nil c⟩
   have:=hd.len h0
   have:=hP.two
   omega
  have ht2:t≤64:=Nat.le_trans (Nat.le_mul_of_pos_right t (by omega)) ht
  have fin:∀ l,FacL f t l->l.length+1≤f.len:=fun l h=>fac_len h0 (fun c hc=>⟨(h.all c hc).1,(h.all c hc).2.1,(h.all c hc).2.2.1⟩) h.nd
  have kd:=(deriv_P hm (a:=f) (by omega)).weak (r:=true)
  by_cases hd:Pol.dv f=0
  ·obtain⟨r0,rl⟩:=rtp_lead h0 h1 hd
   obtain⟨n,e1,e2⟩:=rtp_len hd h0
   have h2:=two_le (p:=p)
   have e3:n+1≤p.toNat*n:=by
    have h3:=Nat.mul_le_mul_right n h2
    have h4:n≠0:=fun e=>by rw[e,Nat.mul_zero]at e1;omega
    omega
   have e4:t*p.toNat*((rtp f).len-1)≤64:=by
    have:t*p.toNat*((rtp f).len-1)=t*(f.len-1):=by
     rw[Nat.mul_assoc,e1,e2,Nat.add_sub_cancel,Nat.add_sub_cancel]
    omega
   obtain⟨l,l1,l2,l3⟩:=fac_P hm k (f:=rtp f) (t:=t*p.toNat) (by omega) r0 rl (by omega) e4
   have l4:=l1.root h0 hd
   have eu:(t:Int)*p=((t*p.toNat:Nat):Int):=by
    rw[Int.natCast_mul,show((p.toNat:Nat):Int)=p by omega]
   have hu:t*p.toNat≤64:=by
    refine Nat.le_trans (Nat.le_mul_of_pos_right _ ?_) e4
    have:n≠0:=fun e=>by rw[e,Nat.mul_zero]at e1;omega
    omega
   exact⟨l,l4,fin l l4,fac_root (by omega) (by rw[hd,Pol.len_zero]) eu hu kd (root_P hm (by omega) hd h0).weak (by rw[eu];exact l3)⟩
  ·have ld:=dv_len f
   obtain⟨g1,k1⟩:=gd_P hm (a:=f) (b:=Pol.dv f) (by omega) (by omega) (.inl h0)
   have ef:=qo_dvs g1.ne g1.da
   have lr:=g1.db.len hd
   have i0:FcI f t 0:=⟨SqI.start h0 h1 hd g1 ef,Pol.Dvs.len (show Pol.Dvs (fcS f 0).1 f from⟨_,ef⟩) h0,by show(Pol.gd f (Pol.dv f)).len<f.len;omega,FacQ.start⟩
   have inv:∀ j,FcI f t j:=fun j=>by
    induction j with
    | zero=>exact i0
    | succ j ih=>exact(fc_step hm h0 lf ih).1
   have stp:=fun j=>(fc_step hm h0 lf (inv j)).2
   obtain⟨E,hE,hmin⟩:=ex_least (Q:=fun j=>(fcS f j).1.len≤1) ⟨f.len,Nat.le_of_not_lt fun h=>by
    obtain⟨P,hP,hx⟩:=Pol.ex_irr (fcS f f.len).1.len (fcS f f.len).1 (Nat.le_refl _) (by omega)
    have h3:=(val_pos hP (inv f.len).i.s0).1 hx
    rw[(inv f.len).i.vs P hP]at h3
    have h4:=val_lt_len hP h0
    split at h3
    ·omega
    ·omega⟩
   have kE:E≤f.len:=Nat.le_of_not_lt fun h=>hmin f.len h (Nat.le_of_not_lt fun h=>by
    obtain⟨P,hP,hx⟩:=Pol.ex_irr (fcS f f.len).1.len (fcS f f.len).1 (Nat.le_refl _) (by omega)
    have h3:=(val_pos hP (inv f.len).i.s0).1 hx
    rw[(inv f.len).i.vs P hP]at h3
    have h4:=val_lt_len hP h0
    split at h3
    ·omega
    ·omega)
   have la:∀ j,(fcA f t j).length+1≤f.len:=fun j=>fac_len h0 (fun c hc=>⟨((inv j).q.all c hc).1,((inv j).q.all c hc).2.1,((inv j).q.all c hc).2.2.1⟩) (inv j).q.nd
   have e0:∀ j,fcE f t j 0 0=fcA f t j:=fun j=>by
    show fcA f t j++([]++(fcL f j 0).take 0).map _=_
    rw[List.take_zero,List.append_nil,List.map_nil,List.append_nil]
   have W:FcW (p:=p) t E (fun j=>(fcS f j).1) (fun j=>(fcS f j).2) (fcO f) (fun j=>(bdC (fcO f j)).1) (fun j=>(bdC (fcO f j)).2) (fcL f) (fcE f t) :=
    ⟨fun j _=>(stp j).1.weak,fun j _=>(stp j).2.1.weak,fun j _=>(stp j).2.2.2.1.2.2.2,fun j _ i hi=>by
     have:=((stp j).2.2.2.2.2 i hi).1.2.2
     rwa [show((max i 1:Nat):Int)=if(1:Int) > (i:Int)then 1 else(i:Int)by split <;> omega]at this,fun j _=>(stp j).2.2.1.weak,fun j hj=>Nat.lt_of_not_le (hmin j hj),hE,fun j=>Nat.le_trans (inv j).ls lf,by omega,ht2,fun j _=>by have:=(stp j).2.2.2.1.2.2.1;have:=(stp j).2.2.2.2.1;omega,fun j _ i hi=>by have:=((stp j).2.2.2.2.2 i hi).2;omega,e0 0,fun j i x hx=>fcE_1 f t j i x hx,fun j i=>fcE_2 f t j i,fun j=>fcE_3 f t j,fun j _ i hi x hx=>by
      have h3:=la j
      have h4:=((stp j).2.2.2.2.2 i hi).2
      have h5:=ccl_len (s:=fcL f j) (n:=65) (i:=i) fun k hk=>((stp j).2.2.2.2.2 k (by omega)).2
      have h6:=(stp j).2.2.2.1.2.2.1
      have h7:=(stp j).2.2.2.2.1
      have h8:i*65≤66*65:=Nat.mul_le_mul_right 65 (by omega)
      show(fcA f t j++(ccl (fcL f j) i++(fcL f j i).take x).map _).length≤5000000
      rw[List.length_append,List.length_map,List.length_append,List.length_take]
      omega,by rw[e0];have:=la E;omega⟩
   have rE:=(inv E).i.fin hE
   obtain⟨l,l1,l2,l3⟩:=fac_P hm k (f:=(fcS f E).2) (t:=t) (by have:=(inv E).lr;omega) (inv E).i.r0 (inv E).i.rl (by have:=(inv E).lr;omega) (Nat.le_trans (Nat.mul_le_mul_left t (by have:=(inv E).lr;omega)) ht)
   have l4:=(inv E).q.fin h0 (inv E).i.r0 rE l1
   refine⟨fcA f t E++l,l4,fin _ l4,?_⟩
   rw[← e0 E]
   exact fac_walk W (by omega) (Pol.len_pos hd) (by have:=(inv E).lr;omega) kd k1.weak (qo_P hm (by omega) g1.ne (by have:=g1.da.len h0;omega) g1.da).weak (l3.shut (fun i j _ hj=>fcs_clos l (i:=i) hj) rfl)
end
end Go.Proofs.YtibaocbpeaejkaaGreat
/- The shelf's contract of slices.SortFunc, laid over the program. -/
namespace Go.Proofs.YtibaocbpeaejkaaGreat
open Go.Shelf
def sortF_ren:Go.Shelf.Ren:=⟨fun | 6=>62 | 15=>81 | 14=>109 | 28=>119 | 29=>120 | 20=>135 | 21=>136 | 22=>137 | 23=>138 | 24=>139 | 25=>140 | 26=>141 | 27=>142 | 46=>175 | 47=>176 | 48=>177 | 49=>178 | 50=>179 | 57=>188 | n=>n,fun | 22=>49 | 24=>55 | 25=>93 | 3=>3 | 39=>74 | 0=>0 | 53=>73 | 55=>71 | 4=>4 | 46=>151 | 45=>150 | 50=>96 | 5=>5 | 9=>9 | 66=>176 | 70=>180 | 76=>192 | 77=>47 | n=>n,fun | n=>n⟩
theorem sortF : Go.Proofs.SlLaysF0.n6 Tryz.prog sortF_ren := {
 mixed:=by kernel_rfl
 f6:=⟨Tryz.f62.name,by decide,Tryz.func62.trans (congrArg some (by kernel_rfl))⟩
 f14:=⟨Tryz.f109.name,by decide,Tryz.func109.trans (congrArg some (by kernel_rfl))⟩
 f15:=Tryz.func81.trans (congrArg some (by kernel_rfl))
 f20:=⟨Tryz.f135.name,by decide,Tryz.func135.trans (congrArg some (by kernel_rfl))⟩
 f21:=⟨Tryz.f136.name,by decide,Tryz.func136.trans (congrArg some (by kernel_rfl))⟩
 f22:=⟨Tryz.f137.name,by decide,Tryz.func137.trans (congrArg some (by kernel_rfl))⟩
 f23:=⟨Tryz.f138.name,by decide,Tryz.func138.trans (congrArg some (by kernel_rfl))⟩
 f24:=⟨Tryz.f139.name,by decide,Tryz.func139.trans (congrArg some (by kernel_rfl))⟩
 f25:=⟨Tryz.f140.name,by decide,Tryz.func140.trans (congrArg some (by kernel_rfl))⟩
 f26:=⟨Tryz.f141.name,by decide,Tryz.func141.trans (congrArg some (by kernel_rfl))⟩
 f27:=⟨Tryz.f142.name,by decide,Tryz.func142.trans (congrArg some (by kernel_rfl))⟩
 f28:=Tryz.func119.trans (congrArg some (by kernel_rfl))
 f29:=Tryz.func120.trans (congrArg some (by kernel_rfl))
 f46:=⟨Tryz.f175.name,by decide,Tryz.func175.trans (congrArg some (by kernel_rfl))⟩
 f47:=Tryz.func176.trans (congrArg some (by kernel_rfl))
 f48:=Tryz.func177.trans (congrArg some (by kernel_rfl))
 f49:=⟨Tryz.f178.name,by decide,Tryz.func178.trans (congrArg some (by kernel_rfl))⟩
 f50:=⟨Tryz.f179.name,by decide,Tryz.func179.trans (congrArg some (by kernel_rfl))⟩
 f57:=⟨Tryz.f188.name,by decide,Tryz.func188.trans (congrArg some (by kernel_rfl))⟩
 t0:=Tryz.underlying0
 a0:=Tryz.isAgg0
 z0:=Tryz.sizeOf0
 v0:=Tryz.zeroValue0
 t3:=Tryz.underlying3
 a3:=Tryz.isAgg3
 z3:=Tryz.sizeOf3
 v3:=Tryz.zeroValue3
 t4:=Tryz.underlying4
 a4:=Tryz.isAgg4
 z4:=Tryz.sizeOf4
 v4:=Tryz.zeroValue4
 t5:=Tryz.underlying5
 a5:=Tryz.isAgg5
 z5:=Tryz.sizeOf5
 v5:=Tryz.zeroValue5
 t9:=Tryz.underlying9
 a9:=Tryz.isAgg9
 z9:=Tryz.sizeOf9
 v9:=Tryz.zeroValue9
 t22:=Tryz.underlying49
 a22:=Tryz.isAgg49
 z22:=Tryz.sizeOf49
 v22:=Tryz.zeroValue49
 t25:=Tryz.underlying93
 a25:=Tryz.isAgg93
 z25:=Tryz.sizeOf93
 v25:=Tryz.zeroValue93
 t39:=Tryz.underlying74
 a39:=Tryz.isAgg74
 z39:=Tryz.sizeOf74
 v39:=Tryz.zeroValue74
 t45:=Tryz.underlying150
 a45:=Tryz.isAgg150
 z45:=Tryz.sizeOf150
 v45:=Tryz.zeroValue150
 t46:=Tryz.underlying151
 a46:=Tryz.isAgg151
 z46:=Tryz.sizeOf151
 v46:=Tryz.zeroValue151
 t50:=Tryz.underlying96
 a50:=Tryz.isAgg96
 z50:=Tryz.sizeOf96
 v50:=Tryz.zeroValue96
 t53:=Tryz.underlying73
 a53:=Tryz.isAgg73
 z53:=Tryz.sizeOf73
 v53:=Tryz.zeroValue73
 t55:=Tryz.underlying71
 a55:=Tryz.isAgg71
 z55:=Tryz.sizeOf71
 v55:=Tryz.zeroValue71
 t66:=Tryz.underlying176
 a66:=Tryz.isAgg176
 z66:=Tryz.sizeOf176
 v66:=Tryz.zeroValue176
 t70:=Tryz.underlying180
 a70:=Tryz.isAgg180
 z70:=Tryz.sizeOf180
 v70:=Tryz.zeroValue180
 t76:=Tryz.underlying192
 a76:=Tryz.isAgg192
 z76:=Tryz.sizeOf192
 v76:=Tryz.zeroValue192
 t77:=Tryz.underlying47
 a77:=Tryz.isAgg47
 z77:=Tryz.sizeOf47
 v77:=Tryz.zeroValue47 }
end Go.Proofs.YtibaocbpeaejkaaGreat
/- The program's fpoly.compare, with the world that it leaves. -/
namespace Go.Proofs.YtibaocbpeaejkaaGreat
open Go.RowKit
attribute [local go_sem] Oper.semAt_some
theorem isNaN_walk (x:Int) (w:World):Calls Tryz.prog 143 #[.int .i64 x] w fun e w'=>e = .returned (.bool false)/\w'=w:=by
 go_enter Tryz.func143,Tryz.ntmps143
 go_wp2
 go_ret
 exact⟨by simp,rfl⟩
theorem cmpInt_walk (x y:Int) (w:World):Calls Tryz.prog 110 #[.int .i64 x,.int .i64 y] w fun e w'=>e = .returned (.int .i64 (Lib.compareInt x y))/\w'=w:=by
 rcases Int.lt_trichotomy x y with h | h | h
 ·have hr:Lib.compareInt x y = -1:=by unfold Lib.compareInt;rw[if_pos h]
  rw[hr]
  have h1:decide (x<y)=true:=decide_eq_true h
  go_enter Tryz.func110,Tryz.ntmps110
  go_wp2_with (go_at_call 143;refine(isNaN_walk _ _).mono ?_;rintro e w' ⟨rfl,rfl⟩)
  go_ret
  exact⟨rfl,rfl⟩
 ·subst h
  have hr:Lib.compareInt x x=0:=by unfold Lib.compareInt;rw[if_neg (by omega),if_neg (by omega)]
  rw[hr]
  have h1:decide (x<x)=false:=decide_eq_false (by omega)
  go_enter Tryz.func110,Tryz.ntmps110
  go_wp2_with (go_at_call 143;refine(isNaN_walk _ _).mono ?_;rintro e w' ⟨rfl,rfl⟩)
  go_ret
  exact⟨rfl,rfl⟩
 ·have hr:Lib.compareInt x y=1:=by unfold Lib.compareInt;rw[if_neg (by omega),if_pos h]
  rw[hr]
  have h1:decide (x<y)=false:=decide_eq_false (by omega)
  have h2:decide (y<x)=true:=decide_eq_true h
  go_enter Tryz.func110,Tryz.ntmps110
  go_wp2_with (go_at_call 143;refine(isNaN_walk _ _).mono ?_;rintro e w' ⟨rfl,rfl⟩)
  go_ret
  exact⟨rfl,rfl⟩
def cmpF (F G : Nat → Int) : Nat → Int
 | 0=>0
 | k+1=>if F k=G k then cmpF F G k else Lib.compareInt (F k) (G k)
def cmpV (n m:Nat) (F G:Nat->Int):Int:=if n=m then cmpF F G n else Lib.compareInt n m
def InM (w:World) (A:Option Addr) (n:Nat) (F:Nat->Int):Prop:=0<n->∃ b o,A=some ⟨b,o,none⟩/\∀ i,i<n->w.cell? ⟨b,o+i,none⟩=some (.int .i64 (F i))
set_option maxHeartbeats 4000000 in
set_option maxRecDepth 100000 in
theorem compare_walk (n m c c' : Nat) (F G : Nat → Int) (A A' : Option Addr) (w : World) (hn : n ≤ 4096) (hm : m ≤ 4096) (hA : InM w A n F) (hB : InM w A' m G) :
  Calls Tryz.prog 64 #[.slice A n c,.slice A' m c'] w fun e w'=>e = .returned (.int .i64 (cmpV n m F G))/\∃ q,w'=w.drewN q:=by
 by_cases hne:n=m
 ·subst hne
  have hr:cmpV n n F G=cmpF F G n:=if_pos rfl
  rw[hr]
  go_enter Tryz.func64,Tryz.ntmps64
  go_wp2
  go_loopw [5] (fun v wr=>∃ k q,k≤n/\v = .int .i64 ((k:Int)-1)/\Hid (cmpF F G n=cmpF F G k)/\wr=w.drewN q) (fun v _=>(intOf v+1).toNat)
  case atStart=>exact⟨n,0,Nat.le_refl _,rfl,rfl,rfl⟩
  case round =>
   obtain⟨k,q,hk,rfl,HI,rfl⟩:=hrel
   cases k with
   | succ j =>
    obtain⟨b1,o1,rfl,hc1⟩:=hA (by omega)
    obtain⟨b2,o2,rfl,hc2⟩:=hB (by omega)
    have hc1:=hc1 j (by omega)
    have hc2:=hc2 j (by omega)
    have hi0:(0:Int)≤j:=by omega
    have hi1:(j:Int)<n:=by omega
    have ej:((j+1:Nat):Int)-1=j:=by omega
    rw[ej]
    obtain⟨x,hx⟩:∃ x,x=F j:=⟨_,rfl⟩
    obtain⟨y,hy⟩:∃ y,y=G j:=⟨_,rfl⟩
    rw[← hx]at hc1
    rw[← hy]at hc2
    by_cases hxy:x=y
    ·have hv:cmpF F G n=cmpF F G j:=by rw[HI.out];show(if F j=G j then _ else _)=_;rw[if_pos (by rw[← hx,← hy];exact hxy)]
     have HV:=Lib.hid hv
     clear hv hx hy HI
     have hb1:(x != y)=false:=by rw[bne_eq_false_iff_eq];exact hxy
     clear hxy
     go_wp2
     go_quiet (fail)
     go_wp2
     go_roundw
     case rel=>exact⟨j,_,by omega,rfl,HV.out,rfl⟩
     case measure=>simp[intOf] <;> omega
    ·have hv:cmpF F G n=Lib.compareInt x y:=by rw[HI.out];show(if F j=G j then _ else _)=_;rw[if_neg (by rw[← hx,← hy];exact hxy),hx,hy]
     have HV:=Lib.hid hv
     clear hv hx hy HI
     have hb1:(x != y)=true:=by rw[bne_iff_ne];exact hxy
     clear hxy
     go_wp2
     go_quiet (fail)
     go_wp2
     go_quiet (first | (go_at_call 110;exact(cmpInt_walk _ _ _).mono fun _ _ ⟨he,hm⟩=>⟨he,_,hm⟩))
     go_wp2
     go_ret
     exact⟨ret_int HV.out.symm,by simp only[World.drewN_drewN];exact⟨_,rfl⟩⟩
   | zero =>
    have HV:=Lib.hid (show cmpF F G n=0 from HI.out)
    clear HI
    go_wp2
    go_ret
    exact⟨ret_int HV.out.symm,q,rfl⟩
 ·have hr:cmpV n m F G=Lib.compareInt n m:=if_neg hne
  rw[hr]
  have hb:((n:Int) != (m:Int))=true:=by rw[bne_iff_ne];omega
  clear hA hB
  go_enter Tryz.func64,Tryz.ntmps64
  go_wp2_with (go_at_call 110;refine(cmpInt_walk _ _ _).mono ?_;rintro e w' ⟨rfl,rfl⟩)
  go_ret
  exact⟨rfl,0,rfl⟩
end Go.Proofs.YtibaocbpeaejkaaGreat
/- slices.SortFunc at lists of factors. -/
namespace Go.Proofs.YtibaocbpeaejkaaGreat
open Go.RowKit Go.Sort
attribute [local go_sem] Oper.semAt_some
theorem cI_lt {x y:Int}:Lib.compareInt x y<0↔x<y:=by unfold Lib.compareInt;split <;> (try split) <;> omega
theorem cI_le {x y:Int}:Lib.compareInt x y≤0↔x≤y:=by unfold Lib.compareInt;split <;> (try split) <;> omega
theorem cI_neg (x y:Int):Lib.compareInt y x = -Lib.compareInt x y:=by unfold Lib.compareInt;split <;> (try split) <;> (try split) <;> omega
theorem cI_zero {x y:Int}:Lib.compareInt x y=0↔x=y:=by unfold Lib.compareInt;split <;> (try split) <;> omega
theorem cmpF_tr (F G H : Nat → Int) : ∀ n, cmpF F G n ≤ 0 → cmpF G H n ≤ 0 → cmpF F H n ≤ 0 ∧ (cmpF F G n < 0 ∨ cmpF G H n < 0 → cmpF F H n < 0)
 | 0,_,_=>⟨Int.le_refl 0,fun h=>by rcases h with h | h <;> exact absurd h (Int.lt_irrefl 0)⟩
 | k+1,h1,h2=>by
  unfold cmpF at *
  by_cases a:F k=G k
  ·rw[if_pos a]at h1 ⊢
   by_cases b:G k=H k
   ·rw[if_pos b]at h2 ⊢
    rw[if_pos (a.trans b)]
    exact cmpF_tr F G H k h1 h2
   ·rw[if_neg b]at h2 ⊢
    have h3:=cI_le.1 h2
    rw[if_neg (by omega)]
    exact⟨cI_le.2 (by omega),fun _=>cI_lt.2 (by omega)⟩
  ·rw[if_neg a]at h1 ⊢
   have h3:=cI_le.1 h1
   by_cases b:G k=H k
   ·rw[if_pos b]at h2 ⊢
    rw[if_neg (by omega)]
    exact⟨cI_le.2 (by omega),fun _=>cI_lt.2 (by omega)⟩
   ·rw[if_neg b]at h2 ⊢
    have h4:=cI_le.1 h2
    rw[if_neg (by omega)]
    exact⟨cI_le.2 (by omega),fun _=>cI_lt.2 (by omega)⟩
theorem cmpF_neg (F G : Nat → Int) : ∀ n, cmpF G F n = -cmpF F G n
 | 0=>rfl
 | k+1=>by
  unfold cmpF
  by_cases a:F k=G k
  ·rw[if_pos a,if_pos a.symm];exact cmpF_neg F G k
  ·rw[if_neg a,if_neg (fun h=>a h.symm)];exact cI_neg _ _
theorem cmpF_zero {F G : Nat → Int} : ∀ n, cmpF F G n = 0 → ∀ i, i < n → F i = G i
 | 0,_,i,hi=>absurd hi (Nat.not_lt_zero i)
 | k+1,h,i,hi=>by
  unfold cmpF at h
  by_cases a:F k=G k
  ·rw[if_pos a]at h
   rcases Nat.lt_or_ge i k with h1 | h1
   ·exact cmpF_zero k h i h1
   ·obtain rfl:i=k:=by omega
    exact a
  ·rw[if_neg a]at h
   exact absurd (cI_zero.1 h) a
theorem cmpV_tr {n m q:Nat} {F G H:Nat->Int} (h1:cmpV n m F G≤0) (h2:cmpV m q G H≤0):cmpV n q F H≤0/\(cmpV n m F G<0∨cmpV m q G H<0->cmpV n q F H<0):=by
 unfold cmpV at *
 by_cases a:n=m
 ·subst a
  rw[if_pos rfl]at h1 ⊢
  by_cases b:n=q
  ·subst b
   rw[if_pos rfl]at h2 ⊢
   rw[if_pos rfl]
   exact cmpF_tr F G H n h1 h2
  ·rw[if_neg b]at h2 ⊢
   have h3:=cI_le.1 h2
   rw[if_neg b]
   exact⟨h2,fun _=>cI_lt.2 (by omega)⟩
 ·rw[if_neg a]at h1 ⊢
  have h3:=cI_le.1 h1
  by_cases b:m=q
  ·subst b
   rw[if_neg a]
   exact⟨h1,fun _=>cI_lt.2 (by omega)⟩
  ·rw[if_neg b]at h2 ⊢
   have h4:=cI_le.1 h2
   rw[if_neg (by omega)]
   exact⟨cI_le.2 (by omega),fun _=>cI_lt.2 (by omega)⟩
theorem cmpV_neg (n m:Nat) (F G:Nat->Int):cmpV m n G F = -cmpV n m F G:=by
 unfold cmpV
 by_cases a:n=m
 ·subst a;rw[if_pos rfl,if_pos rfl];exact cmpF_neg F G n
 ·rw[if_neg a,if_neg (fun h=>a h.symm)];exact cI_neg _ _
theorem cell_lt {w:World} {a:Addr} {v:Value} (h:w.cell? a=some v):a.block<w.heap.size:=by
 rcases Nat.lt_or_ge a.block w.heap.size with h1 | h1
 ·exact h1
 ·unfold World.cell? at h
  rw[Array.getElem?_eq_none h1]at h
  cases h
section
variable {p:Int} [hp:Prm p]
noncomputable def cmpP (a b:Pol (Zp p)):Int:=cmpV a.len b.len (fun i=>(a.f i).v) (fun i=>(b.f i).v)
theorem cmpP_zero {a b:Pol (Zp p)} (h:cmpP a b=0):a=b:=by
 unfold cmpP cmpV at h
 by_cases e:a.len=b.len
 ·rw[if_pos e]at h
  refine Pol.ext fun i=>?_
  rcases Nat.lt_or_ge i a.len with h1 | h1
  ·exact Zp.ext (cmpF_zero a.len h i h1)
  ·rw[Pol.len_out a i h1,Pol.len_out b i (by omega)]
 ·rw[if_neg e]at h
  have:=cI_zero.1 h
  omega
theorem cmpP_swo {ι : Type} (q : ι → Pol (Zp p)) : SWO (ltOf fun x y => cmpP (q x) (q y)) where
 irrefl x:=by
  have h:cmpP (q x) (q x) = -cmpP (q x) (q x):=cmpV_neg _ _ _ _
  unfold ltOf
  exact decide_eq_false (show ¬ cmpP (q x) (q x)<0 by omega)
 trans x y z h1 h2:=by
  unfold ltOf at *
  have h1:=of_decide_eq_true h1
  have h2:=of_decide_eq_true h2
  exact decide_eq_true ((cmpV_tr (Int.le_of_lt h1) (Int.le_of_lt h2)).2 (.inl h1))
 ntrans x y z h1 h2:=by
  unfold ltOf at *
  have h1:¬ cmpP (q x) (q y)<0:=of_decide_eq_false h1
  have h2:¬ cmpP (q y) (q z)<0:=of_decide_eq_false h2
  have n1:cmpP (q y) (q x) = -cmpP (q x) (q y):=cmpV_neg _ _ _ _
  have n2:cmpP (q z) (q y) = -cmpP (q y) (q z):=cmpV_neg _ _ _ _
  have n3:cmpP (q z) (q x) = -cmpP (q x) (q z):=cmpV_neg _ _ _ _
  have h3:cmpP (q z) (q x)≤0:=(cmpV_tr (show cmpP (q z) (q y)≤0 by omega) (show cmpP (q y) (q x)≤0 by omega)).1
  exact decide_eq_false (show ¬ cmpP (q x) (q z)<0 by omega)
abbrev Ix (n:Nat):={i:Nat // i<n}
theorem factor_walk (n m c c' : Nat) (F G : Nat → Int) (A A' : Option Addr) (x y : Value) (w : World) (hn : n ≤ 4096) (hm : m ≤ 4096) (hA : InM w A n F) (hB : InM w A' m G) :
  Calls Tryz.prog 63 #[.agg #[.slice A n c,x],.agg #[.slice A' m c',y]] w fun e w'=>e = .returned (.int .i64 (cmpV n m F G))/\∃ q os,w'=grow (w.drewN q) os:=by
 have key:∀ os:Array Obj,Calls Tryz.prog 64 #[.slice A n c,.slice A' m c'] (grow w os) fun e w'=>e = .returned (.int .i64 (cmpV n m F G))/\∃ q,w'=(grow w os).drewN q:=fun os=>by
  refine compare_walk n m c c' F G A A' (grow w os) hn hm ?_ ?_
  ·intro h0
   obtain⟨b,o,e,h⟩:=hA h0
   refine⟨b,o,e,fun i hi=>?_⟩
   have h1:=h i hi
   rw[cell?_grow]
   ·exact h1
   ·exact cell_lt h1
  ·intro h0
   obtain⟨b,o,e,h⟩:=hB h0
   refine⟨b,o,e,fun i hi=>?_⟩
   have h1:=h i hi
   rw[cell?_grow]
   ·exact h1
   ·exact cell_lt h1
 generalize cmpV n m F G=r at *
 clear hA hB
 have key2:∀(o1 o2:Obj),Calls Tryz.prog 64 #[.slice A n c,.slice A' m c'] ((w.alloc o1).alloc o2) fun e w'=>e = .returned (.int .i64 r)/\∃ q os,w'=grow (w.drewN q) os:=fun o1 o2=>by
  have:=key #[o1,o2]
  rw[alloc_eq_grow,alloc_eq_grow,grow_grow]
  exact this.mono fun _ _ ⟨he,q,hq⟩=>⟨he,q,_,hq⟩
 clear key
 go_enter Tryz.func63,Tryz.ntmps63
 go_wp2_with (go_at_call 64;refine(key2 _ _).mono ?_;rintro e w' ⟨rfl,hw⟩)
 go_ret
 exact⟨rfl,hw⟩
end
end Go.Proofs.YtibaocbpeaejkaaGreat
