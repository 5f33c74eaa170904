/- Fractions as abstract values, and package rational in those words. -/
import Derived.Test.YtkmbnldginonbaaGreatCo7
import Derived.Test.YtkmbnldginonbaaGreatCo5
import Derived.Test.YtkmbnldginonbaaGreatCo4
set_option maxHeartbeats 4000000
namespace Go.Proofs.YtkmbnldginonbaaGreat
open Go.RowKit
structure RawR where
 num:RawZ
 den:RawZ
def RawR.val (q:RawR):Rat:=ratio q.num.val q.den.val
def rr (q:RawR):List Cell:=[.bool q.num.neg,dsC q.num.ds,.bool q.den.neg,dsC q.den.ds]
def ofR (x:Rat):RawR:=⟨ofZ x.num,ofZ x.den⟩
abbrev nq (x:Rat):List Cell:=rr (ofR x)
structure RawR.Fit (q : RawR) (L : Nat) : Prop where
 num:Dg.ok q.num.ds
 den:Dg.ok q.den.ds
 numL:q.num.ds.length≤L
 denL:q.den.ds.length≤L
theorem ofR_val (x:Rat):(ofR x).val=x:=by
 unfold RawR.val ofR;simp only[ofZ_val];exact ratio_num_den x
def qlen (x:Rat):Nat:=max (zlen x.num) (zlen x.den)
theorem ofR_fit {x:Rat} {L:Nat} (h:qlen x≤L):(ofR x).Fit L:=by
 unfold qlen at h
 exact⟨ofZ_ok _,ofZ_ok _,by rw[ofR,ofZ_len];omega,by rw[ofR,ofZ_len];omega⟩
theorem ofZ_one:ofZ 1=⟨false,[1]⟩:=rfl
theorem zlen_eq_zero {x:Int}:zlen x=0↔x=0:=by
 unfold zlen
 rw[List.length_eq_zero_iff]
 constructor
 ·intro h
  have:=digs_val x.natAbs
  rw[h]at this
  simp[Dg.val]at this
  omega
 ·intro h;subst h;rfl
theorem ofZ_inj {x y:Int} (h:ofZ x=ofZ y):x=y:=by rw[← ofZ_val x,h,ofZ_val]
def SubC (x y:Cell):Prop:=∀ D w v,CRel D w [] x v->CRel D w [] y v
theorem SubC.refl (x:Cell):SubC x x:=fun _ _ _ h=>h
theorem SubC.nil (sz:Nat) (f:Nat->Nat->Cell):SubC .nil (.row sz 0 f):=fun D w v h=>by
 have h:v = .slice none 0 0:=h
 exact⟨none,0,h,Nat.le_refl _,fun h=>by omega⟩
theorem Sub.cells {l l':List Cell} (hl:l.length=l'.length) (h:∀(i:Nat) x y,l[i]? = some x->l'[i]? = some y->SubC x y):Sub (.g l) (.g l'):=by
 intro D w v hv
 obtain⟨vs,rfl,h2⟩:=hv
 refine⟨vs,rfl,CRels.of _ _ (by rw[← hl];exact h2.length) fun i y v hy hv=>?_⟩
 obtain⟨x,hx⟩:∃ x,l[i]? = some x:=⟨_,List.getElem?_eq_getElem (by rw[hl];exact(List.getElem?_eq_some_iff.1 hy).1)⟩
 obtain⟨v',hv',hr⟩:=h2.get i x hx
 rw[hv]at hv';cases hv'
 exact h i x y hx hy D w _ hr
theorem Sub.bool {a b:Bool} (h:a=b):Sub (.c (.bool a)) (.c (.bool b)):=by subst h;exact Sub.refl _
theorem one_ok {a:RawZ}:FnOK Tryz.prog true 132 [.g (zr a)] (.c (.bool (decide (a.ds=[1]/\a.neg=false)))):=by
 refine fn_ok (E:=E1) E1_ok Tryz.func132 rfl mixed (by kernel_rfl) (by kernel_rfl) ?_
 conv=>whnf
 refine bcase (fun(h:decide ((a.ds.length:Int)=1)=true)=>?_) fun(h:decide ((a.ds.length:Int)=1)=false)=>?_
 ·have hl:a.ds.length=1:=by have h:=of_decide_eq_true h;omega
  obtain⟨x,hx⟩:=List.length_eq_one_iff.1 hl
  conv=>whnf
  refine⟨by omega,by omega,?_⟩
  conv=>whnf
  refine bcase (fun(h2:decide (((a.ds.getD 0 0:Nat):Int)=1)=true)=>?_) fun(h2:decide (((a.ds.getD 0 0:Nat):Int)=1)=false)=>?_
  ·conv=>whnf
   refine⟨rfl,Sub.bool ?_⟩
   have h2:=of_decide_eq_true h2
   rw[hx]at h2 ⊢
   simp at h2
   have:x=1:=by omega
   subst this
   cases a.neg <;> rfl
  ·conv=>whnf
   refine⟨rfl,Sub.bool (decide_eq_false ?_).symm⟩
   rintro ⟨e,_⟩
   rw[e]at h2;exact absurd h2 (by decide)
 ·conv=>whnf
  refine⟨rfl,Sub.bool (decide_eq_false ?_).symm⟩
  rintro ⟨e,_⟩
  rw[e]at h;exact absurd h (by decide)
theorem one_nz {x:Int}:decide ((ofZ x).ds=[1]/\(ofZ x).neg=false)=decide (x=1):=by
 congr 1
 apply propext
 constructor
 ·rintro ⟨h1,h2⟩
  refine ofZ_inj (y:=1) ?_
  rw[ofZ_one]
  exact(by rw[← h1,← h2]:ofZ x=⟨false,[1]⟩)
 ·rintro rfl;exact⟨rfl,rfl⟩
theorem one_nz_ok (x:Int):FnOK Tryz.prog true 132 [.g (nz x)] (.c (.bool (decide (x=1)))):=one_nz ▸ one_ok (a:=ofZ x)
theorem zlen_small (x:Int) {a:RawZ} (h:x=a.val) (ha:Dg.ok a.ds):zlen x≤a.ds.length:=by
 refine zlen_le ?_
 have:=Dg.val_lt ha
 rw[h];unfold RawZ.val sgn;cases a.neg <;> simpa using this
theorem leaf {x:Rat} {n d:Int} (e:ofR x=⟨ofZ n,ofZ d⟩):Sub (.g (rr ⟨ofZ n,ofZ d⟩)) (.g (nq x)):=by
 unfold nq;rw[e];exact Sub.refl _
theorem leaf0 {x:Rat} (e:x=0):Sub (.g [.bool false,.nil,.bool (ofZ 1).neg,dsC (ofZ 1).ds]) (.g (nq x)):=by
 subst e
 refine Sub.cells rfl fun i x y hx hy=>?_
 match i,hx,hy with
 | 0,hx,hy=>cases hx;cases hy;exact SubC.refl _
 | 1,hx,hy=>cases hx;cases hy;exact SubC.nil _ _
 | 2,hx,hy=>cases hx;cases hy;exact SubC.refl _
 | 3,hx,hy=>cases hx;cases hy;exact SubC.refl _
 | i+4,hx,hy=>simp at hx
theorem parts_one {n d:Int} (h:d=1):ofR (ratio n d)=⟨ofZ n,ofZ d⟩:=by
 subst h
 rw[ratio_one];unfold ofR;simp
theorem parts {n d:Int} (hd:0<d):ofR (ratio n d)=⟨ofZ (n / (Nat.gcd n.natAbs d.natAbs:Nat)),ofZ (d / (Nat.gcd n.natAbs d.natAbs:Nat))⟩:=by
 obtain⟨k,rfl⟩:=Int.eq_ofNat_of_zero_le (show 0≤d by omega)
 obtain⟨h1,h2⟩:=ratio_parts (n:=n) (d:=k) (by omega)
 unfold ofR
 rw[h1,h2]
 simp[Int.gcd]
theorem gcd_ne {n d:Int} (hd:0<d):((Nat.gcd n.natAbs d.natAbs:Nat):Int)≠0:=by
 have:=Nat.gcd_pos_of_pos_right n.natAbs (show 0<d.natAbs by omega)
 omega
theorem gcd_le_right {n d:Int} (hd:0<d):((Nat.gcd n.natAbs d.natAbs:Nat):Int).natAbs≤d.natAbs:=by
 rw[Int.natAbs_natCast]
 exact Nat.gcd_le_right _ (by omega)
theorem gcd_dvd1 (n d:Int):n%(Nat.gcd n.natAbs d.natAbs:Nat)=0:=Int.emod_eq_zero_of_dvd (Int.ofNat_dvd_left.2 (Nat.gcd_dvd_left _ _))
theorem gcd_dvd2 (n d:Int):d%(Nat.gcd n.natAbs d.natAbs:Nat)=0:=Int.emod_eq_zero_of_dvd (Int.ofNat_dvd_left.2 (Nat.gcd_dvd_right _ _))
theorem over_ok {a b:RawZ} (ha:Dg.ok a.ds) (hb:Dg.ok b.ds) (h1:a.ds.length+3≤LIM) (h2:b.ds.length+3≤LIM):FnOK Tryz.prog true 97 [.g (zr a),.g (zr b)] (.g (nq (ratio a.val b.val))):=by
 have hza:=zlen_small a.val rfl ha
 have hzb:=zlen_small b.val rfl hb
 refine fn_ok (E:=E1) E1_ok Tryz.func97 rfl mixed (by kernel_rfl) (by kernel_rfl) ?_
 conv=>whnf
 refine⟨_,normal_ok (a:=a) ha (by omega),?_⟩
 conv=>whnf
 refine⟨_,normal_ok (a:=b) hb (by omega),?_⟩
 conv=>whnf
 refine bcase (fun h=>?_) fun h=>?_
 ·have h:decide ((zlen b.val:Int)=0)=false:=gwf h
  have hb0:b.val≠0:=fun e=>by rw[zlen_eq_zero.2 e]at h;exact absurd h (by decide)
  conv=>whnf
  refine bcase (fun(h:decide ((zlen a.val:Int)=0)=true)=>?_) fun(h:decide ((zlen a.val:Int)=0)=false)=>?_
  ·conv=>whnf
   refine⟨_,of_ok (x:=1) (by omega) (by omega),?_⟩
   conv=>whnf
   refine⟨rfl,leaf0 ?_⟩
   have:=of_decide_eq_true h
   rw[(zlen_eq_zero (x:=a.val)).1 (by omega)];exact ratio_zero_left _
  ·conv=>whnf
   refine bcase (fun(h:decide (b.val<0)=true)=>?_) fun(h:decide (b.val<0)=false)=>?_
   ·have hneg:=of_decide_eq_true h
    have hpos:0 < -b.val:=by omega
    have hr:=(ratio_neg a.val b.val).symm
    have hza:=zlen_neg a.val
    have hzb:=zlen_neg b.val
    conv=>whnf
    refine⟨_,neg_nz a.val (by omega),?_⟩
    conv=>whnf
    refine⟨_,neg_nz b.val (by omega),?_⟩
    conv=>whnf
    refine⟨_,one_nz_ok (-b.val),?_⟩
    conv=>whnf
    refine bcase (fun(h:decide ((-b.val)=1)=true)=>?_) fun(h:decide ((-b.val)=1)=false)=>?_
    ·conv=>whnf
     refine⟨rfl,leaf ?_⟩
     rw[hr];exact parts_one (of_decide_eq_true h)
    ·have hd1:(-b.val)≠1:=of_decide_eq_false h
     conv=>whnf
     refine⟨_,gcd_nz (-a.val) (-b.val) (by omega) (by omega),?_⟩
     conv=>whnf
     refine⟨_,one_nz_ok _,?_⟩
     conv=>whnf
     refine bcase (fun(h:(!decide (((Nat.gcd (-a.val).natAbs (-b.val).natAbs:Nat):Int)=1))=true)=>?_) fun(h:(!decide (((Nat.gcd (-a.val).natAbs (-b.val).natAbs:Nat):Int)=1))=false)=>?_
     ·conv=>whnf
      refine⟨_,exact_nz (-a.val) (Nat.gcd (-a.val).natAbs (-b.val).natAbs:Nat) (by omega) (by have:=zlen_natAbs_le (x:=(Nat.gcd (-a.val).natAbs (-b.val).natAbs:Nat)) (y := -b.val) (gcd_le_right hpos);omega) (gcd_ne hpos) (gcd_dvd1 _ _),?_⟩
      conv=>whnf
      refine⟨_,exact_nz (-b.val) (Nat.gcd (-a.val).natAbs (-b.val).natAbs:Nat) (by omega) (by have:=zlen_natAbs_le (x:=(Nat.gcd (-a.val).natAbs (-b.val).natAbs:Nat)) (y := -b.val) (gcd_le_right hpos);omega) (gcd_ne hpos) (gcd_dvd2 _ _),?_⟩
      conv=>whnf
      refine⟨rfl,leaf ?_⟩
      rw[hr];exact parts hpos
     ·have h:((Nat.gcd (-a.val).natAbs (-b.val).natAbs:Nat):Int)=1:=by simpa using h
      conv=>whnf
      refine⟨rfl,leaf ?_⟩
      rw[hr,parts hpos,h];simp
   ·have hneg:=of_decide_eq_false h
    have hpos:0<b.val:=by omega
    have hr:ratio a.val b.val=ratio a.val b.val:=rfl
    conv=>whnf
    refine⟨_,one_nz_ok (b.val),?_⟩
    conv=>whnf
    refine bcase (fun(h:decide ((b.val)=1)=true)=>?_) fun(h:decide ((b.val)=1)=false)=>?_
    ·conv=>whnf
     refine⟨rfl,leaf ?_⟩
     rw[hr];exact parts_one (of_decide_eq_true h)
    ·have hd1:(b.val)≠1:=of_decide_eq_false h
     conv=>whnf
     refine⟨_,gcd_nz (a.val) (b.val) (by omega) (by omega),?_⟩
     conv=>whnf
     refine⟨_,one_nz_ok _,?_⟩
     conv=>whnf
     refine bcase (fun(h:(!decide (((Nat.gcd (a.val).natAbs (b.val).natAbs:Nat):Int)=1))=true)=>?_) fun(h:(!decide (((Nat.gcd (a.val).natAbs (b.val).natAbs:Nat):Int)=1))=false)=>?_
     ·conv=>whnf
      refine⟨_,exact_nz (a.val) (Nat.gcd (a.val).natAbs (b.val).natAbs:Nat) (by omega) (by have:=zlen_natAbs_le (x:=(Nat.gcd (a.val).natAbs (b.val).natAbs:Nat)) (y:=b.val) (gcd_le_right hpos);omega) (gcd_ne hpos) (gcd_dvd1 _ _),?_⟩
      conv=>whnf
      refine⟨_,exact_nz (b.val) (Nat.gcd (a.val).natAbs (b.val).natAbs:Nat) (by omega) (by have:=zlen_natAbs_le (x:=(Nat.gcd (a.val).natAbs (b.val).natAbs:Nat)) (y:=b.val) (gcd_le_right hpos);omega) (gcd_ne hpos) (gcd_dvd2 _ _),?_⟩
      conv=>whnf
      refine⟨rfl,leaf ?_⟩
      rw[hr];exact parts hpos
     ·have h:((Nat.gcd (a.val).natAbs (b.val).natAbs:Nat):Int)=1:=by simpa using h
      conv=>whnf
      refine⟨rfl,leaf ?_⟩
      rw[hr,parts hpos,h];simp
 ·have h:decide ((zlen b.val:Int)=0)=true:=gwf' h
  conv=>whnf
  refine⟨_,of_ok (x:=1) (by omega) (by omega),?_⟩
  conv=>whnf
  refine⟨rfl,leaf0 ?_⟩
  have:=of_decide_eq_true h
  rw[(zlen_eq_zero (x:=b.val)).1 (by omega)];exact ratio_zero_right _
end Go.Proofs.YtkmbnldginonbaaGreat
/- Package rational in abstract words: the operations. -/
namespace Go.Proofs.YtkmbnldginonbaaGreat
open Go.RowKit
theorem over_eq {a b:RawZ} {x:Rat} (hx:ratio a.val b.val=x) (ha:Dg.ok a.ds) (hb:Dg.ok b.ds) (h1:a.ds.length+3≤LIM) (h2:b.ds.length+3≤LIM):FnOK Tryz.prog true 97 [.g (zr a),.g (zr b)] (.g (nq x)):=by
 subst hx;exact over_ok ha hb h1 h2
theorem qlen_ratio {n d:Int} {L:Nat} (hn:zlen n≤L) (hd:zlen d≤L) (h1:1≤L):qlen (ratio n d)≤L:=by
 have z1:zlen 1=1:=rfl
 have key:∀(n d:Int),0<d->zlen n≤L->zlen d≤L->qlen (ratio n d)≤L:=by
  intro n d h0 hn hd
  obtain⟨k,rfl⟩:=Int.eq_ofNat_of_zero_le (show 0≤d by omega)
  obtain⟨g1,g2⟩:=ratio_small (n:=n) (d:=k) (by omega)
  have e1:=zlen_natAbs_le g1
  have e2:=zlen_natAbs_le (x:=((ratio n k).den:Int)) (y:=(k:Int)) (by omega)
  unfold qlen;omega
 rcases Int.lt_trichotomy d 0 with h | h | h
 ·rw[← ratio_neg]
  exact key _ _ (by omega) (by rw[zlen_neg];exact hn) (by rw[zlen_neg];exact hd)
 ·subst h
  rw[ratio_zero_right]
  show max (zlen 0) (zlen 1)≤L
  rw[z1,zlen_eq_zero.2 rfl];omega
 ·exact key _ _ h hn hd
theorem RawR.Fit.zn {q:RawR} {L:Nat} (h:q.Fit L):zlen q.num.val≤L:=Nat.le_trans (zlen_small _ rfl h.num) h.numL
theorem RawR.Fit.zd {q:RawR} {L:Nat} (h:q.Fit L):zlen q.den.val≤L:=Nat.le_trans (zlen_small _ rfl h.den) h.denL
theorem RawR.Fit.qlen {q:RawR} {L:Nat} (h:q.Fit L) (h1:1≤L):qlen q.val≤L:=qlen_ratio h.zn h.zd h1
theorem RawR.Fit.mono {q:RawR} {L L':Nat} (h:q.Fit L) (h1:L≤L'):q.Fit L':=⟨h.num,h.den,Nat.le_trans h.numL h1,Nat.le_trans h.denL h1⟩
theorem qnormal_ok {q:RawR} {L:Nat} (h:q.Fit L) (hL:L+3≤LIM):FnOK Tryz.prog true 73 [.g (rr q)] (.g (nq q.val)):=by
 obtain⟨h1,h2,h3,h4⟩:=h
 refine fn_ok (E:=E1) E1_ok Tryz.func73 rfl mixed (by kernel_rfl) (by kernel_rfl) ?_
 conv=>whnf
 refine⟨_,over_ok (a:=q.num) (b:=q.den) h1 h2 (by omega) (by omega),?_⟩
 conv=>whnf
 exact⟨rfl,Sub.refl _⟩
theorem qof_ok {n:Int} (h0 : -9223372036854775808≤n) (h1:n≤9223372036854775807):FnOK Tryz.prog true 45 [.c (.int .i64 n)] (.g (nq n)):=by
 refine fn_ok (E:=E1) E1_ok Tryz.func45 rfl mixed (by kernel_rfl) (by kernel_rfl) ?_
 conv=>whnf
 refine⟨_,of_ok (x:=n) h0 h1,?_⟩
 conv=>whnf
 refine⟨_,of_ok (x:=1) (by omega) (by omega),?_⟩
 conv=>whnf
 refine⟨rfl,leaf (x:=(n:Rat)) (n:=n) (d:=1) ?_⟩
 unfold ofR;simp
theorem Sub.int {k:IntKind} {a b:Int} (h:a=b):Sub (.c (.int k a)) (.c (.int k b)):=by subst h;exact Sub.refl _
theorem sign_range (a b:Int):inR .i64 (a.sign*b.sign):=by
 have h:∀ a:Int,a.sign = -1∨a.sign=0∨a.sign=1:=fun a=>by
  rcases Int.lt_trichotomy a 0 with h | h | h
  ·exact .inl (Int.sign_eq_neg_one_of_neg h)
  ·subst h;exact .inr (.inl rfl)
  ·exact .inr (.inr (Int.sign_eq_one_of_pos h))
 rcases h a with e | e | e <;> rcases h b with e' | e' | e' <;> rw[e,e'] <;> exact⟨by omega,by omega⟩
theorem qsign_ok {q:RawR} {L:Nat} (h:q.Fit L) (hL:L+3≤LIM):FnOK Tryz.prog true 99 [.g (rr q)] (.c (.int .i64 q.val.num.sign)):=by
 obtain⟨h1,h2,h3,h4⟩:=h
 refine fn_ok (E:=E1) E1_ok Tryz.func99 rfl mixed (by kernel_rfl) (by kernel_rfl) ?_
 conv=>whnf
 refine⟨_,sign_ok (a:=q.num) h1 (by omega),?_⟩
 conv=>whnf
 refine⟨_,sign_ok (a:=q.den) h2 (by omega),?_⟩
 conv=>whnf
 refine⟨sign_range _ _,?_⟩
 conv=>whnf
 refine⟨rfl,Sub.int (ratio_sign _ _).symm⟩
theorem qneg_ok {q:RawR} {L:Nat} (h:q.Fit L) (hL:L+3≤LIM):FnOK Tryz.prog true 60 [.g (rr q)] (.g (nq (-q.val))):=by
 have hz:=h.zn
 obtain⟨h1,h2,h3,h4⟩:=h
 refine fn_ok (E:=E1) E1_ok Tryz.func60 rfl mixed (by kernel_rfl) (by kernel_rfl) ?_
 conv=>whnf
 refine⟨_,neg_ok (a:=q.num) h1 (by omega),?_⟩
 conv=>whnf
 refine⟨_,over_eq (a:=ofZ (-q.num.val)) (b:=q.den) (x := -q.val) (by rw[ofZ_val];exact ratio_neg_left _ _) (ofZ_ok _) h2 (by rw[ofZ_len,zlen_neg];omega) (by omega),?_⟩
 conv=>whnf
 exact⟨rfl,Sub.refl _⟩
theorem qmul_ok {q p:RawR} {L L':Nat} (h:q.Fit L) (h':p.Fit L') (hL:L+L'+3≤LIM):FnOK Tryz.prog true 46 [.g (rr q),.g (rr p)] (.g (nq (q.val*p.val))):=by
 have z1:=h.zn
 have z2:=h.zd
 have z3:=h'.zn
 have z4:=h'.zd
 have y1:=zlen_mul q.num.val p.num.val
 have y2:=zlen_mul q.den.val p.den.val
 obtain⟨h1,h2,h3,h4⟩:=h
 obtain⟨g1,g2,g3,g4⟩:=h'
 refine fn_ok (E:=E1) E1_ok Tryz.func46 rfl mixed (by kernel_rfl) (by kernel_rfl) ?_
 conv=>whnf
 refine⟨_,mul_ok (a:=q.num) (b:=p.num) h1 g1 (by omega),?_⟩
 conv=>whnf
 refine⟨_,mul_ok (a:=q.den) (b:=p.den) h2 g2 (by omega),?_⟩
 conv=>whnf
 refine⟨_,over_eq (a:=ofZ (q.num.val*p.num.val)) (b:=ofZ (q.den.val*p.den.val)) (x:=q.val*p.val) (by rw[ofZ_val,ofZ_val];exact(ratio_mul _ _ _ _).symm) (ofZ_ok _) (ofZ_ok _) (by rw[ofZ_len];omega) (by rw[ofZ_len];omega),?_⟩
 conv=>whnf
 exact⟨rfl,Sub.refl _⟩
theorem leaf1 {x:Rat} {n:Int} (e:x=n):Sub (.g (rr ⟨ofZ n,ofZ 1⟩)) (.g (nq x)):=by
 subst e
 exact leaf (by unfold ofR;simp)
theorem RawZ.one_val {a:RawZ} (h:a.ds=[1]/\a.neg=false):a.val=1:=by unfold RawZ.val;rw[h.1,h.2];rfl
theorem qadd_ok {q p:RawR} {L L':Nat} (h:q.Fit L) (h':p.Fit L') (hL:L+L'+4≤LIM):FnOK Tryz.prog true 93 [.g (rr q),.g (rr p)] (.g (nq (q.val+p.val))):=by
 have z1:=h.zn
 have z2:=h.zd
 have z3:=h'.zn
 have z4:=h'.zd
 have y1:=zlen_mul q.num.val p.den.val
 have y2:=zlen_mul p.num.val q.den.val
 have y3:=zlen_mul q.den.val p.den.val
 have y4:=zlen_add (q.num.val*p.den.val) (p.num.val*q.den.val)
 have k1:=h
 have k2:=h'
 obtain⟨h1,h2,h3,h4⟩:=h
 obtain⟨g1,g2,g3,g4⟩:=h'
 refine fn_ok (E:=E1) E1_ok Tryz.func93 rfl mixed (by kernel_rfl) (by kernel_rfl) ?_
 conv=>whnf
 refine⟨_,sign_ok (a:=q.den) h2 (by omega),?_⟩
 conv=>whnf
 refine bcase (fun(h:decide (q.den.val.sign=0)=true)=>?_) fun(h:decide (q.den.val.sign=0)=false)=>?_
 ·conv=>whnf
  refine⟨_,qnormal_ok (q:=p) k2 (by omega),?_⟩
  conv=>whnf
  refine⟨rfl,?_⟩
  rw[show q.val=0 by unfold RawR.val;rw[Int.sign_eq_zero_iff_zero.1 (of_decide_eq_true h),ratio_zero_right],Rat.zero_add]
  exact Sub.refl _
 have d1:q.den.val≠0:=fun e=>of_decide_eq_false h (by rw[e];rfl)
 conv=>whnf
 refine⟨_,sign_ok (a:=p.den) g2 (by omega),?_⟩
 conv=>whnf
 refine bcase (fun(h:decide (p.den.val.sign=0)=true)=>?_) fun(h:decide (p.den.val.sign=0)=false)=>?_
 ·conv=>whnf
  refine⟨_,qnormal_ok (q:=q) k1 (by omega),?_⟩
  conv=>whnf
  refine⟨rfl,?_⟩
  rw[show p.val=0 by unfold RawR.val;rw[Int.sign_eq_zero_iff_zero.1 (of_decide_eq_true h),ratio_zero_right],Rat.add_zero]
  exact Sub.refl _
 have d2:p.den.val≠0:=fun e=>of_decide_eq_false h (by rw[e];rfl)
 have gen:q.val+p.val=ratio (q.num.val*p.den.val+p.num.val*q.den.val) (q.den.val*p.den.val):=ratio_add d1 d2
 conv=>whnf
 refine⟨_,one_ok (a:=q.den),?_⟩
 conv=>whnf
 refine bcase (fun(hq:decide (q.den.ds=[1]/\q.den.neg=false)=true)=>?_) fun(hq:decide (q.den.ds=[1]/\q.den.neg=false)=false)=>?_
 ·have hq:=of_decide_eq_true hq
  conv=>whnf
  refine⟨_,one_ok (a:=p.den),?_⟩
  conv=>whnf
  refine bcase (fun(hp:decide (p.den.ds=[1]/\p.den.neg=false)=true)=>?_) fun(hp:decide (p.den.ds=[1]/\p.den.neg=false)=false)=>?_
  ·have hp:=of_decide_eq_true hp
   conv=>whnf
   refine⟨_,add_ok (a:=q.num) (b:=p.num) h1 g1 (by omega) (by omega),?_⟩
   conv=>whnf
   refine⟨_,of_ok (x:=1) (by omega) (by omega),?_⟩
   conv=>whnf
   refine⟨rfl,leaf1 (n:=q.num.val+p.num.val) ?_⟩
   rw[gen,RawZ.one_val hq,RawZ.one_val hp,Int.mul_one,Int.mul_one,Int.mul_one,ratio_one]
  ·conv=>whnf
   refine⟨_,mul_ok (a:=q.num) (b:=p.den) h1 g2 (by omega),?_⟩
   conv=>whnf
   refine⟨_,mul_ok (a:=p.num) (b:=q.den) g1 h2 (by omega),?_⟩
   conv=>whnf
   refine⟨_,add_nz (q.num.val*p.den.val) (p.num.val*q.den.val) (by omega) (by omega),?_⟩
   conv=>whnf
   refine⟨_,mul_ok (a:=q.den) (b:=p.den) h2 g2 (by omega),?_⟩
   conv=>whnf
   refine⟨_,over_eq (a:=ofZ (q.num.val*p.den.val+p.num.val*q.den.val)) (b:=ofZ (q.den.val*p.den.val)) (x:=q.val+p.val) (by rw[ofZ_val,ofZ_val];exact gen.symm) (ofZ_ok _) (ofZ_ok _) (by rw[ofZ_len];omega) (by rw[ofZ_len];omega),?_⟩
   conv=>whnf
   exact⟨rfl,Sub.refl _⟩
 ·conv=>whnf
  refine⟨_,mul_ok (a:=q.num) (b:=p.den) h1 g2 (by omega),?_⟩
  conv=>whnf
  refine⟨_,mul_ok (a:=p.num) (b:=q.den) g1 h2 (by omega),?_⟩
  conv=>whnf
  refine⟨_,add_nz (q.num.val*p.den.val) (p.num.val*q.den.val) (by omega) (by omega),?_⟩
  conv=>whnf
  refine⟨_,mul_ok (a:=q.den) (b:=p.den) h2 g2 (by omega),?_⟩
  conv=>whnf
  refine⟨_,over_eq (a:=ofZ (q.num.val*p.den.val+p.num.val*q.den.val)) (b:=ofZ (q.den.val*p.den.val)) (x:=q.val+p.val) (by rw[ofZ_val,ofZ_val];exact gen.symm) (ofZ_ok _) (ofZ_ok _) (by rw[ofZ_len];omega) (by rw[ofZ_len];omega),?_⟩
  conv=>whnf
  exact⟨rfl,Sub.refl _⟩
theorem qlen_neg (x:Rat):qlen (-x)=qlen x:=by unfold qlen;simp[zlen_neg]
theorem qsub_ok {q p:RawR} {L L':Nat} (h:q.Fit L) (h':p.Fit L') (h0:1≤L') (hL:L+L'+4≤LIM):FnOK Tryz.prog true 50 [.g (rr q),.g (rr p)] (.g (nq (q.val-p.val))):=by
 have hn:=qlen_neg p.val
 have hq:=h'.qlen h0
 refine fn_ok (E:=E1) E1_ok Tryz.func50 rfl mixed (by kernel_rfl) (by kernel_rfl) ?_
 conv=>whnf
 refine⟨_,qneg_ok (q:=p) h' (by omega),?_⟩
 conv=>whnf
 refine⟨_,qadd_ok (q:=q) (p:=ofR (-p.val)) h (ofR_fit (L:=L') (by omega)) hL,?_⟩
 conv=>whnf
 refine⟨rfl,?_⟩
 rw[ofR_val,← Rat.sub_eq_add_neg]
 exact Sub.refl _
theorem qquo_ok {q p:RawR} {L L':Nat} (h:q.Fit L) (h':p.Fit L') (hL:L+L'+4≤LIM) (hp:p.val≠0):FnOK Tryz.prog true 59 [.g (rr q),.g (rr p)] (.t2 (.g (nq (q.val / p.val))) (.c (.int .i64 0))):=by
 have z1:=h.zn
 have z2:=h.zd
 have z3:=h'.zn
 have z4:=h'.zd
 have y1:=zlen_mul q.num.val p.den.val
 have y2:=zlen_mul q.den.val p.num.val
 have k2:=h'
 obtain⟨h1,h2,h3,h4⟩:=h
 obtain⟨g1,g2,g3,g4⟩:=h'
 refine fn_ok (E:=E1) E1_ok Tryz.func59 rfl mixed (by kernel_rfl) (by kernel_rfl) ?_
 conv=>whnf
 refine⟨_,qsign_ok (q:=p) k2 (by omega),?_⟩
 conv=>whnf
 refine bcase (fun(h:decide (p.val.num.sign=0)=true)=>?_) fun h=>?_
 ·exact absurd ((rat_sign_zero _).1 (of_decide_eq_true h)) hp
 conv=>whnf
 refine⟨_,mul_ok (a:=q.num) (b:=p.den) h1 g2 (by omega),?_⟩
 conv=>whnf
 refine⟨_,mul_ok (a:=q.den) (b:=p.num) h2 g1 (by omega),?_⟩
 conv=>whnf
 refine⟨_,over_eq (a:=ofZ (q.num.val*p.den.val)) (b:=ofZ (q.den.val*p.num.val)) (x:=q.val / p.val) (by rw[ofZ_val,ofZ_val];exact(ratio_div _ _ _ _).symm) (ofZ_ok _) (ofZ_ok _) (by rw[ofZ_len];omega) (by rw[ofZ_len];omega),?_⟩
 conv=>whnf
 exact⟨rfl,Sub.refl _⟩
end Go.Proofs.YtkmbnldginonbaaGreat
/- The document's fractions. -/
set_option maxHeartbeats 8000000
namespace Go.Proofs.YtkmbnldginonbaaGreat
open Go.RowKit
namespace Rf
theorem same_nz {x y:Int} (h:zlen x≤1048576):FnOK Tryz.prog false 51 [.g (nz x),.g (nz y)] (.c (.bool (decide (x=y)))):=by
 refine same_ok (n:=(digs x.natAbs).length) (m:=(digs y.natAbs).length) (a:=ld (digs x.natAbs)) (b:=ld (digs y.natAbs)) h ⟨fun e=>?_,fun⟨h1,h2,h3⟩=>?_⟩
 ·have e:=of_decide_eq_true e
  subst e
  exact⟨rfl,rfl,fun _ _=>rfl⟩
 ·refine decide_eq_true ?_
  have hd:digs x.natAbs=digs y.natAbs:=List.ext_getElem h2 fun i h4 h5=>by
   have:=h3 i h4
   unfold ld at this
   simpa [List.getD,h4,h5] using this
  have hn:x.natAbs=y.natAbs:=by rw[← digs_val x.natAbs,hd,digs_val]
  have h1:decide (x<0)=decide (y<0):=h1
  have h1:x<0↔y<0:=decide_eq_decide.1 h1
  omega
theorem divd_ok {a b:RawZ} (ha:wr a) (hb:wr b) (h1:zlen a.val≤524286) (h2:zlen b.val≤524286) (h0:b.val≠0):FnOK Tryz.prog false 146 [.g (zr a),.g (zr b)] (.g (nz (a.val / b.val))):=by
 have h:=euclid_ok ha hb h1 h2 h0
 refine fn_ok (E:=E0) E0_ok Tryz.func146 rfl mixed (by kernel_rfl) (by kernel_rfl) ?_
 conv=>whnf
 refine⟨_,h,?_⟩
 conv=>whnf
 exact⟨rfl,Sub.refl _⟩
theorem rqof_ok {n:Int} (h0 : -9223372036854775808≤n) (h1:n<9223372036854775808):FnOK Tryz.prog false 52 [.c (.int .i64 n)] (.g (nq n)):=by
 have o1:=rof_ok h0 h1
 have o2:=rof_ok (x:=1) (by decide) (by decide)
 refine fn_ok (E:=E0) E0_ok Tryz.func52 rfl mixed (by kernel_rfl) (by kernel_rfl) ?_
 conv=>whnf
 refine⟨_,o1,?_⟩
 conv=>whnf
 refine⟨_,o2,?_⟩
 conv=>whnf
 refine⟨rfl,leaf (x:=(n:Rat)) (n:=n) (d:=1) ?_⟩
 unfold ofR;simp
theorem zlen_gcd {x y:Int} {L:Nat} (h:y≠0) (hy:zlen y≤L):zlen ((Nat.gcd x.natAbs y.natAbs:Nat):Int)≤L :=
 Nat.le_trans (zlen_natAbs_le (by rw[Int.natAbs_natCast];exact Nat.gcd_le_right _ (by omega))) hy
theorem rover_ok {a b:RawZ} (ha:wr a) (hb:wr b) (h1:zlen a.val≤524286) (h2:zlen b.val≤524286):FnOK Tryz.prog false 103 [.g (zr a),.g (zr b)] (.g (nq (ratio a.val b.val))):=by
 have s0:=zsign_ok hb
 have n1:=znorm_ok ha
 have n2:=znorm_ok hb
 have hG:=gcd_ok ha hb h1 h2
 have o0:=rqof_ok (n:=0) (by decide) (by decide)
 have o1:=rof_ok (x:=1) (by decide) (by decide)
 rcases Int.lt_trichotomy b.val 0 with c | c | c
 ·have e1:(-a.val) / ((Nat.gcd (-a.val).natAbs (-b.val).natAbs:Nat):Int)=a.val / -((Nat.gcd a.val.natAbs b.val.natAbs:Nat):Int):=by
   rw[Int.natAbs_neg,Int.natAbs_neg,Int.ediv_neg,Int.neg_ediv_of_dvd (Int.ofNat_dvd_left.2 (Nat.gcd_dvd_left _ _))]
  have e2:(-b.val) / ((Nat.gcd (-a.val).natAbs (-b.val).natAbs:Nat):Int)=b.val / -((Nat.gcd a.val.natAbs b.val.natAbs:Nat):Int):=by
   rw[Int.natAbs_neg,Int.natAbs_neg,Int.ediv_neg,Int.neg_ediv_of_dvd (Int.ofNat_dvd_left.2 (Nat.gcd_dvd_right _ _))]
  have hR:=parts (n := -a.val) (d := -b.val) (by omega)
  rw[ratio_neg,e1,e2]at hR
  have hz:=zlen_gcd (x:=a.val) (by omega) h2
  have hp:0<Nat.gcd a.val.natAbs b.val.natAbs:=Nat.gcd_pos_of_pos_right _ (by omega)
  generalize Nat.gcd a.val.natAbs b.val.natAbs=G at *
  have hN:=zneg_ok (a:=ofZ (G:Nat)) (wr_nz (by omega))
  rw[ofZ_val]at hN
  have hz':zlen (-(G:Int))≤524286:=by rw[zlen_neg];exact hz
  have hS:=same_nz (x := -(G:Int)) (y:=1) (by omega)
  have hd1:=divd_ok ha (b:=ofZ (-(G:Int))) (wr_nz (by omega)) h1 (by rw[ofZ_val];exact hz') (by rw[ofZ_val];omega)
  have hd2:=divd_ok hb (b:=ofZ (-(G:Int))) (wr_nz (by omega)) h2 (by rw[ofZ_val];exact hz') (by rw[ofZ_val];omega)
  rw[ofZ_val]at hd1 hd2
  have d1:decide (b.val.sign=0)=false:=by rw[Int.sign_eq_neg_one_of_neg c];rfl
  have d2:decide (b.val.sign<0)=true:=by rw[Int.sign_eq_neg_one_of_neg c];rfl
  have d3:decide (-(G:Int)=1)=false:=decide_eq_false (by omega)
  refine fn_ok (E:=E0) E0_ok Tryz.func103 rfl mixed (by kernel_rfl) (by kernel_rfl) ?_
  conv=>whnf
  refine⟨_,s0,?_⟩
  conv=>whnf
  refine bneg d1 ?_
  conv=>whnf
  refine⟨_,hG,?_⟩
  conv=>whnf
  refine⟨_,s0,?_⟩
  conv=>whnf
  refine bpos d2 ?_
  conv=>whnf
  refine⟨_,hN,?_⟩
  conv=>whnf
  refine⟨_,o1,?_⟩
  conv=>whnf
  refine⟨_,hS,?_⟩
  conv=>whnf
  refine bneg d3 ?_
  conv=>whnf
  refine⟨_,hd1,?_⟩
  conv=>whnf
  refine⟨_,hd2,?_⟩
  conv=>whnf
  exact⟨rfl,leaf hR⟩
 ·have d1:decide (b.val.sign=0)=true:=by rw[c];rfl
  have hR:ratio a.val b.val=0:=by rw[c];exact ratio_zero_right _
  rw[hR]
  refine fn_ok (E:=E0) E0_ok Tryz.func103 rfl mixed (by kernel_rfl) (by kernel_rfl) ?_
  conv=>whnf
  refine⟨_,s0,?_⟩
  conv=>whnf
  refine bpos d1 ?_
  conv=>whnf
  refine⟨_,o0,?_⟩
  conv=>whnf
  exact⟨rfl,Sub.refl _⟩
 ·have hR:=parts (n:=a.val) (d:=b.val) (by omega)
  have hz:=zlen_gcd (x:=a.val) (by omega) h2
  have hp:0<Nat.gcd a.val.natAbs b.val.natAbs:=Nat.gcd_pos_of_pos_right _ (by omega)
  generalize Nat.gcd a.val.natAbs b.val.natAbs=G at *
  have hS:=same_nz (x:=(G:Int)) (y:=1) (by omega)
  have hd1:=divd_ok ha (b:=ofZ (G:Int)) (wr_nz (by omega)) h1 (by rw[ofZ_val];exact hz) (by rw[ofZ_val];omega)
  have hd2:=divd_ok hb (b:=ofZ (G:Int)) (wr_nz (by omega)) h2 (by rw[ofZ_val];exact hz) (by rw[ofZ_val];omega)
  rw[ofZ_val]at hd1 hd2
  have d1:decide (b.val.sign=0)=false:=by rw[Int.sign_eq_one_of_pos c];rfl
  have d2:decide (b.val.sign<0)=false:=by rw[Int.sign_eq_one_of_pos c];rfl
  refine fn_ok (E:=E0) E0_ok Tryz.func103 rfl mixed (by kernel_rfl) (by kernel_rfl) ?_
  conv=>whnf
  refine⟨_,s0,?_⟩
  conv=>whnf
  refine bneg d1 ?_
  conv=>whnf
  refine⟨_,hG,?_⟩
  conv=>whnf
  refine⟨_,s0,?_⟩
  conv=>whnf
  refine bneg d2 ?_
  conv=>whnf
  refine⟨_,o1,?_⟩
  conv=>whnf
  refine⟨_,hS,?_⟩
  conv=>whnf
  refine bcase (fun(h:decide ((G:Int)=1)=true)=>?_) fun(h:decide ((G:Int)=1)=false)=>?_
  ·have hR':ofR (ratio a.val b.val)=⟨ofZ a.val,ofZ b.val⟩:=by
    have:=of_decide_eq_true h
    rw[this]at hR
    simpa using hR
   conv=>whnf
   refine⟨_,n1,?_⟩
   conv=>whnf
   refine⟨_,n2,?_⟩
   conv=>whnf
   exact⟨rfl,leaf hR'⟩
  ·conv=>whnf
   refine⟨_,hd1,?_⟩
   conv=>whnf
   refine⟨_,hd2,?_⟩
   conv=>whnf
   exact⟨rfl,leaf hR⟩
def wq (q:RawR):Prop:=(wr q.num/\wr q.den)/\zlen q.num.val≤524286/\zlen q.den.val≤524286
theorem rqnormal_ok {q:RawR} (h:wq q):FnOK Tryz.prog false 102 [.g (rr q)] (.g (nq q.val)):=by
 have ho:=rover_ok h.1.1 h.1.2 h.2.1 h.2.2
 refine fn_ok (E:=E0) E0_ok Tryz.func102 rfl mixed (by kernel_rfl) (by kernel_rfl) ?_
 conv=>whnf
 refine⟨_,ho,?_⟩
 conv=>whnf
 exact⟨rfl,Sub.refl _⟩
end Rf
end Go.Proofs.YtkmbnldginonbaaGreat
/- Lists of large integers, raw and normalized, and the document's functions of layer 5 that a field's form asks for. -/
namespace Go.Proofs.YtkmbnldginonbaaGreat
open Go.RowKit
abbrev zlF (c:Nat->RawZ) (i j:Nat):Cell:=(zr (c i)).getD j .any
abbrev zl (n:Nat) (c:Nat->RawZ):Cell := .row 2 n (zlF c)
abbrev nl (n:Nat) (v:Nat->Int):Cell:=zl n fun i=>ofZ (v i)
def tl (a : Nat → Int) : Nat → Nat
 | 0=>0
 | n+1=>if a n=0 then tl a n else n+1
namespace Rf
theorem app_same {α:Type} (g:Nat->α) (i j:Nat):(if j=i then g i else g j)=g j:=by
 by_cases e:j=i
 ·rw[if_pos e,e]
 ·rw[if_neg e]
def co (v:Nat->Int) (n:Nat) (i:Int):Int:=if 0≤i/\i<n then v i.toNat else 0
abbrev ldc (n:Nat) (v:Nat->Int):Int:=co v n ((tl v n:Nat)-1)
def formed (n:Nat) (v:Nat->Int):Prop:=2≤tl v n/\tl v n≤13/\ldc n v=1
instance (n:Nat) (v:Nat->Int):Decidable (formed n v):=by unfold formed;infer_instance
end Rf
end Go.Proofs.YtkmbnldginonbaaGreat
/- The document's integers in normal form: products; the same as themselves. -/
namespace Go.Proofs.YtkmbnldginonbaaGreat
open Go.RowKit
namespace Rf
theorem zmul_n {a b:Int} (h:zlen a+zlen b≤1048576):FnOK Tryz.prog false 105 [.g (nz a),.g (nz b)] (.g (nz (a*b))):=by
 have:=rmulz_ok (a:=ofZ a) (b:=ofZ b) (wr_nz (by omega)) (wr_nz (by omega)) (by rw[ofZ_val,ofZ_val];exact h)
 rwa [ofZ_val,ofZ_val]at this
set_option maxHeartbeats 4000000 in
theorem sameInt_ok {n m:Nat} {a b:Nat->Nat} {s s' r:Bool} (hn:n≤1048576) (hr:r=true↔s=s'/\n=m/\∀ i,i<n->a i=b i):FnOK Tryz.prog false 116 [bn s n a,bn s' m b] (.c (.bool r)):=by
 refine fn_ok (E:=E0) E0_ok Tryz.func116 rfl mixed (by kernel_rfl) (by kernel_rfl) ?_
 conv=>whnf
 refine bcase (fun(h:gw false (!(s == s'))=true)=>?_) fun(h:gw false (!(s == s'))=false)=>?_
 ·have hs:s=s':=by have:=gwf h;simpa using this
  conv=>whnf
  refine bcase (fun(h1:(!decide ((n:Int)=m))=true)=>?_) fun(h1:(!decide ((n:Int)=m))=false)=>?_
  ·have h1':r=false:=Bool.eq_false_iff.2 fun e=>by have:=(hr.1 e).2.1;subst this;simp at h1
   conv=>whnf
   exact⟨rfl,sub_bool h1'.symm⟩
  have h1':n=m:=by
   have:(n:Int)=m:=by simpa using h1
   omega
  subst h1'
  conv=>whnf
  refine loop_ints (fun i:Nat=>gst [(2,.c (.p 0 0 2 0 0)),(3,.c (.p 1 0 2 0 0)),(5,.c (.int .i64 i))] [gi s n a,gi s' n b]) (fun i=>n-i) (fun i=>i≤n/\∀ j,j<i->a j=b j) 0 rfl ?_ ⟨Nat.zero_le _,fun j h=>by omega⟩ fun i ⟨hi,hh⟩=>?_
  ·exact Weak.gen [some 0,some 1] rfl ⟨boxK rfl rfl,boxK rfl rfl,trivial⟩ ⟨⟨_,rfl,rfl,rfl⟩,⟨_,rfl,rfl,rfl⟩,⟨_,rfl,rfl⟩,trivial⟩
  have hr':r=false∨a i=b i∨¬ i<n:=by
   by_cases c:i<n
   ·by_cases c':a i=b i
    ·exact .inr (.inl c')
    ·exact .inl (Bool.eq_false_iff.2 fun e=>c' ((hr.1 e).2.2 i c))
   ·exact .inr (.inr c)
  conv=>whnf
  refine bcase (fun(h2:decide ((i:Int)<n)=true)=>?_) fun(h2:decide ((i:Int)<n)=false)=>?_
  ·have h2':=of_decide_eq_true h2
   conv=>whnf
   refine⟨by omega,by omega,?_⟩
   conv=>whnf
   refine⟨by omega,by omega,?_⟩
   conv=>whnf
   refine bcase (fun(h3:(!decide ((a i:Int)=(b i:Int)))=true)=>?_) fun(h3:(!decide ((a i:Int)=(b i:Int)))=false)=>?_
   ·have h3':r=false:=by
     refine Bool.eq_false_iff.2 fun e=>?_
     have:=(hr.1 e).2.2 i (by omega)
     rw[this]at h3;simp at h3
    conv=>whnf
    exact⟨rfl,sub_bool h3'.symm⟩
   ·have h3':a i=b i:=by
     have:(a i:Int)=b i:=by simpa using h3
     omega
    conv=>whnf
    refine⟨i64 (by omega) (by omega),?_⟩
    conv=>whnf
    exact⟨i+1,by omega,Weak.gen [some 0,some 1] rfl ⟨boxK rfl rfl,boxK rfl rfl,trivial⟩ ⟨⟨_,rfl,rfl,rfl⟩,⟨_,rfl,rfl,rfl⟩,⟨_,rfl,by omega⟩,trivial⟩,by omega,fun j hj=>if e:j=i then by rw[e];exact h3' else hh j (by omega)⟩
  ·have h2':=of_decide_eq_false h2
   have h3':r=true:=hr.2 ⟨hs,rfl,fun j hj=>hh j (by omega)⟩
   conv=>whnf
   exact⟨rfl,sub_bool h3'.symm⟩
 ·have hs:s≠s':=by
   have:=gwf' h
   intro e;subst e;simp at this
  have h1':r=false:=Bool.eq_false_iff.2 fun e=>hs (hr.1 e).1
  conv=>whnf
  exact⟨rfl,sub_bool h1'.symm⟩
theorem sameInt_n (x:Int) (h:zlen x≤1048576):FnOK Tryz.prog false 116 [.g (nz x),.g (nz x)] (.c (.bool true)) :=
 sameInt_ok (n:=(digs x.natAbs).length) (m:=(digs x.natAbs).length) (a:=ld (digs x.natAbs)) (b:=ld (digs x.natAbs)) h ⟨fun _=>⟨rfl,rfl,fun _ _=>rfl⟩,fun _=>rfl⟩
theorem regApp {q:Nat} {bl:List Blk} {ks:List (Option Nat)} {i a b:Nat} {f:Nat->Nat->Cell} {c:Cell} {t:Nat->Cell} (ha:a<i+1) (hb:b<1) (hold:a<i->regC q bl ks (t a) fun z=>f a b=z) (hnew:regC q bl ks (t i) fun z=>c=z):regC q bl ks (t a) fun z=>appF i f (rowF 1 [c]) a b=z:=by
 obtain rfl:=Nat.lt_one_iff.1 hb
 by_cases h:a<i
 ·rw[show appF i f (rowF 1 [c]) a 0=f a 0 from if_pos h]
  exact hold h
 ·obtain rfl:a=i:=by omega
  rw[show appF a f (rowF 1 [c]) a 0=c from by unfold appF;rw[if_neg h,Nat.sub_self];rfl]
  exact hnew
end Rf
end Go.Proofs.YtkmbnldginonbaaGreat
/- Lists of integers and of fractions in the program; the form of a number field. -/
namespace Go.Proofs.YtkmbnldginonbaaGreat
open Go.RowKit
def tb (p : Nat → Bool) : Nat → Nat
 | 0=>0
 | n+1=>if p n=true then tb p n else n+1
abbrev qlF (q:Nat->RawR) (i j:Nat):Cell:=(rr (q i)).getD j .any
abbrev ql (n:Nat) (q:Nat->RawR):Cell := .row 4 n (qlF q)
theorem qlF_eq {c e:Nat->RawR} {i j k:Nat} (h:c i=e k):qlF c i j=qlF e k j:=by unfold qlF;rw[h]
theorem ql_clos {c:Nat->RawR} (i j:Nat):(qlF c i j).clos=true:=by
 match j with
 | 0=>rfl
 | 1=>rfl
 | 2=>rfl
 | 3=>rfl
 | j+4=>rfl
namespace Rf
set_option maxHeartbeats 4000000 in
theorem qtrim_ok {n:Nat} {c:Nat->RawR} (hn:n≤1048576):FnOK Tryz.prog false 100 [.c (ql n c)] (.c (ql (tb (fun i=>decide ((c i).num.ds.length=0)) n) c)):=by
 refine fn_ok (E:=E0) E0_ok Tryz.func100 rfl mixed (by kernel_rfl) (by kernel_rfl) ?_
 conv=>whnf
 refine loop_ints (fun m:Nat=>gst [(0,.c (ql m c))] []) (fun m=>m) (fun m=>m≤n/\tb (fun i=>decide ((c i).num.ds.length=0)) m=tb (fun i=>decide ((c i).num.ds.length=0)) n) n rfl (Weak.gen [] rfl trivial ⟨.inl ⟨_,_,rfl,rfl,fun _ _ _ _=>rfl⟩,trivial⟩) ⟨Nat.le_refl _,rfl⟩ fun m ⟨hm,ht⟩=>?_
 have hz:∀ k,m=k+1->(c k).num.ds.length=0->tb (fun i=>decide ((c i).num.ds.length=0)) k=tb (fun i=>decide ((c i).num.ds.length=0)) n:=fun k e h=>by
  rw[← ht,e]
  simp only[tb]
  rw[if_pos (decide_eq_true h)]
 have hz':∀ k,m=k+1->(c k).num.ds.length≠0->m=tb (fun i=>decide ((c i).num.ds.length=0)) n:=fun k e h=>by
  rw[← ht,e]
  simp only[tb]
  rw[if_neg (by simpa using h)]
 have h0:m=0->m=tb (fun i=>decide ((c i).num.ds.length=0)) n:=fun e=>by rw[← ht,e];rfl
 clear ht
 generalize tb (fun i=>decide ((c i).num.ds.length=0)) n=N at *
 conv=>whnf
 refine bcase (fun(h:gw true (decide ((0:Int)<m))=true)=>?_) fun(h:gw true (decide ((0:Int)<m))=false)=>?_
 ·have h:=of_decide_eq_true (gw_true.1 h)
  have ek:m=((m:Int)-1).toNat+1:=by omega
  have g1:=hz _ ek
  have g2:=hz' _ ek
  conv=>whnf
  refine⟨i64 (by omega) (by omega),?_⟩
  conv=>whnf
  refine⟨by omega,by omega,?_⟩
  conv=>whnf
  refine bcase (fun(h1:decide (((c ((m:Int)-1).toNat).num.ds.length:Int)=0)=true)=>?_) fun(h1:decide (((c ((m:Int)-1).toNat).num.ds.length:Int)=0)=false)=>?_
  ·have h1:=of_decide_eq_true h1
   have g:=g1 (by omega)
   conv=>whnf
   refine⟨i64 (by omega) (by omega),?_⟩
   conv=>whnf
   refine⟨by omega,by omega,?_⟩
   conv=>whnf
   refine⟨by omega,?_⟩
   conv=>whnf
   exact⟨((m:Int)-1).toNat,by omega,Weak.gen [] rfl trivial ⟨.inl ⟨_,_,rfl,by omega,fun i j hi hj=>qlF_eq (c:=c) (e:=c) (i:=Int.toNat 0+i) (k:=i) (congrArg c (by omega))⟩,trivial⟩,by omega,g⟩
  ·have h1:=of_decide_eq_false h1
   have g:=g2 (by omega)
   conv=>whnf
   exact⟨rfl,subRowG g fun _ _ _ _=>rfl⟩
 ·have h:¬(0:Int)<m:=of_decide_eq_false (gw_false.1 h)
  have g:=h0 (by omega)
  conv=>whnf
  exact⟨rfl,subRowG g fun _ _ _ _=>rfl⟩
end Rf
end Go.Proofs.YtkmbnldginonbaaGreat
/- Normal forms of lists in the program, and the form of a number field. -/
namespace Go.Proofs.YtkmbnldginonbaaGreat
open Go.RowKit
namespace Rf
def qpF (v:Nat->Rat) (i k:Nat):List Cell:=if k<i then nq (v k)else [.bool false,.nil,.bool false,.nil]
theorem qp_next (v:Nat->Rat) (i k:Nat):(if k=i then nq (v i)else qpF v i k)=qpF v (i+1) k:=by
 unfold qpF
 by_cases e:k=i
 ·rw[if_pos e,if_pos (by omega),e]
 ·rw[if_neg e]
  by_cases e2:k<i
  ·rw[if_pos e2,if_pos (by omega)]
  ·rw[if_neg e2,if_neg (by omega)]
theorem qp_clos {v:Nat->Rat} {i:Nat} (k j:Nat):((qpF v i k).getD j .any).clos=true:=by
 unfold qpF
 split
 ·exact ql_clos (c:=fun i=>ofR (v i)) k j
 ·match j with
  | 0=>rfl
  | 1=>rfl
  | 2=>rfl
  | 3=>rfl
  | j+4=>rfl
theorem qp_all {v:Nat->Rat} {n k:Nat} (h:k<n) (j:Nat):(qpF v n k).getD j .any=qlF (fun i=>ofR (v i)) k j:=by
 unfold qpF;rw[if_pos h]
theorem qp_zero (v:Nat->Rat) (k:Nat):qpF v 0 k=[.bool false,.nil,.bool false,.nil]:=by
 unfold qpF;rw[if_neg (Nat.not_lt_zero k)]
abbrev gqp (n:Nat) (v:Nat->Rat) (i:Nat):Gx:=⟨38,4,n,fun k j=>(qpF v i k).getD j .any⟩
abbrev nql (n:Nat) (v:Nat->Rat):Cell:=ql n fun i=>ofR (v i)
end Rf
end Go.Proofs.YtkmbnldginonbaaGreat
/- Short lists of fractions. -/
namespace Go.Proofs.YtkmbnldginonbaaGreat
open Go.RowKit
namespace Rf
def dgq (a:RawR):Prop:=Dg.ok a.num.ds/\Dg.ok a.den.ds
end Rf
end Go.Proofs.YtkmbnldginonbaaGreat
/- Polynomials over the rational numbers, as functions: sums of products, and division by a monic one. No condition. -/
namespace Go.Proofs.YtkmbnldginonbaaGreat
namespace Q
def su (f : Nat → Rat) : Nat → Rat
 | 0=>0
 | n+1=>su f n+f n
theorem su_congr {f g : Nat → Rat} : ∀ {n : Nat}, (∀ i, i < n → f i = g i) → su f n = su g n
 | 0,_=>rfl
 | n+1,h=>by
  unfold su
  rw[su_congr fun i hi=>h i (by omega),h n (by omega)]
theorem su_zero {f : Nat → Rat} : ∀ {n : Nat}, (∀ i, i < n → f i = 0) → su f n = 0
 | 0,_=>rfl
 | n+1,h=>by
  unfold su
  rw[su_zero fun i hi=>h i (by omega),h n (by omega),Rat.add_zero]
theorem su_more {f : Nat → Rat} {n : Nat} (h : ∀ i, n ≤ i → f i = 0) : ∀ {m : Nat}, n ≤ m → su f m = su f n
 | 0,hm=>by rw[show n=0 by omega]
 | m+1,hm=>by
  rcases Nat.lt_or_ge m n with h1 | h1
  ·rw[show n=m+1 by omega]
  ·rw[← su_more h h1]
   show su f m+f m=su f m
   rw[h m h1,Rat.add_zero]
def cf (F G:Nat->Rat) (k:Nat):Rat:=su (fun i=>F i*G (k-i)) (k+1)
def Fin (n:Nat) (F:Nat->Rat):Prop:=∀ k,n≤k->F k=0
def tq (v : Nat → Rat) : Nat → Nat
 | 0=>0
 | n+1=>if v n=0 then tq v n else n+1
theorem tq_le (v : Nat → Rat) : ∀ n, tq v n ≤ n
 | 0=>Nat.le_refl _
 | n+1=>by
  unfold tq
  split
  ·exact Nat.le_succ_of_le (tq_le v n)
  ·exact Nat.le_refl _
theorem tq_top {v : Nat → Rat} : ∀ {n k : Nat}, tq v n = k + 1 → v k ≠ 0
 | 0,k,h=>by simp[tq]at h
 | n+1,k,h=>by
  unfold tq at h
  split at h
  ·exact tq_top h
  ·rename_i h0
   obtain rfl:n=k:=by omega
   exact h0
theorem tq_behind {v : Nat → Rat} : ∀ {n k : Nat}, tq v n ≤ k → k < n → v k = 0
 | 0,k,_,h=>absurd h (Nat.not_lt_zero k)
 | n+1,k,h,hk=>by
  unfold tq at h
  split at h
  ·rename_i h0
   by_cases e:k=n
   ·rw[e];exact h0
   ·exact tq_behind h (by omega)
  ·omega
theorem tq_self {v:Nat->Rat} {n:Nat} (h:∀ k,n=k+1->v k≠0):tq v n=n:=by
 cases n with
 | zero=>rfl
 | succ k=>unfold tq;rw[if_neg (h k rfl)]
def qx (n:Nat) (v:Nat->Rat) (i:Nat):Rat:=if i<n then v i else 0
theorem qx_fin (n:Nat) (v:Nat->Rat):Fin n (qx n v):=fun k hk=>if_neg (by omega)
theorem qx_lt {n i:Nat} {v:Nat->Rat} (h:i<n):qx n v i=v i:=if_pos h
theorem qx_self {n:Nat} {v:Nat->Rat} (h:Fin n v):qx n v=v:=funext fun k=>by
 unfold qx
 split
 ·rfl
 ·rename_i c;exact(h k (by omega)).symm
def mu (F G:Nat->Rat) (i k:Nat):Rat:=su (fun a=>if a≤k then F a*G (k-a)else 0) i
def mp (c:Rat) (G r:Nat->Rat) (i j k:Nat):Rat:=r k+(if i≤k/\k<i+j then c*G (k-i)else 0)
theorem mp_zero (c:Rat) (G r:Nat->Rat) (i k:Nat):mp c G r i 0 k=r k:=by
 unfold mp
 rw[if_neg (by omega),Rat.add_zero]
theorem mp_old {c:Rat} {G r:Nat->Rat} {i j:Nat}:mp c G r i j (i+j)=r (i+j):=by
 unfold mp
 rw[if_neg (by omega),Rat.add_zero]
theorem mp_next (c:Rat) (G r:Nat->Rat) (i j k:Nat):(if k=i+j then r (i+j)+c*G j else mp c G r i j k)=mp c G r i (j+1) k:=by
 unfold mp
 by_cases e:k=i+j
 ·rw[if_pos e,if_pos (by omega),e,show i+j-i=j by omega]
 ·rw[if_neg e]
  by_cases e2:i≤k/\k<i+j
  ·rw[if_pos e2,if_pos (by omega)]
  ·rw[if_neg e2,if_neg (by omega)]
theorem mp_skip {c:Rat} {G r:Nat->Rat} {i j:Nat} (h:G j=0) (k:Nat):mp c G r i j k=mp c G r i (j+1) k:=by
 rw[← mp_next]
 split
 ·rename_i e
  rw[e,mp_old,h,Rat.mul_zero,Rat.add_zero]
 ·rfl
theorem mp_none {c:Rat} (h:c=0) (G r:Nat->Rat) (i j k:Nat):mp c G r i j k=r k:=by
 unfold mp
 split
 ·rw[h,Rat.zero_mul,Rat.add_zero]
 ·rw[Rat.add_zero]
theorem mp_all {m:Nat} {F G:Nat->Rat} (hG:Fin m G) (i k:Nat):mp (F i) G (mu F G i) i m k=mu F G (i+1) k:=by
 show mu F G i k+(if i≤k/\k<i+m then F i*G (k-i)else 0)=mu F G i k+(if i≤k then F i*G (k-i)else 0)
 by_cases e:i≤k
 ·rw[if_pos e]
  by_cases e2:k<i+m
  ·rw[if_pos ⟨e,e2⟩]
  ·rw[if_neg (by omega),hG (k-i) (by omega),Rat.mul_zero]
 ·rw[if_neg (by omega),if_neg e]
theorem mu_all {n:Nat} {F G:Nat->Rat} (hF:Fin n F) (k:Nat):mu F G n k=cf F G k:=by
 have z:∀ i,min n (k+1)≤i->(if i≤k then F i*G (k-i)else 0)=0:=fun i hi=>by
  split
  ·rw[hF i (by omega),Rat.zero_mul]
  ·rfl
 have e:cf F G k=su (fun a=>if a≤k then F a*G (k-a)else 0) (k+1):=su_congr fun i hi=>(if_pos (by omega)).symm
 rw[e]
 unfold mu
 rw[su_more z (Nat.min_le_left _ _),su_more z (Nat.min_le_right _ _)]
end Q
end Go.Proofs.YtkmbnldginonbaaGreat
/- Blocks as parts of themselves. -/
namespace Go.Proofs.YtkmbnldginonbaaGreat
open Go.RowKit
end Go.Proofs.YtkmbnldginonbaaGreat
/- Lists of fractions in the program: what is dropped at the end, in a block of the caller's; the normal form, in a block of its own. -/
set_option maxHeartbeats 16000000
namespace Go.Proofs.YtkmbnldginonbaaGreat
open Go.RowKit
namespace Rf
theorem tb_tq {p : Nat → Bool} {v : Nat → Rat} : ∀ {n : Nat}, (∀ i, i < n → (p i = true ↔ v i = 0)) → tb p n = Q.tq v n
 | 0,_=>rfl
 | n+1,h=>by
  have h1:=h n (by omega)
  unfold tb Q.tq
  rw[tb_tq fun i hi=>h i (by omega)]
  by_cases c:v n=0
  ·rw[if_pos (h1.2 c),if_pos c]
  ·rw[if_neg (fun e=>c (h1.1 e)),if_neg c]
theorem num_zero (x:Rat):decide ((ofR x).num.ds.length=0)=true↔x=0 :=
 ⟨fun a=>Rat.num_eq_zero.1 (zlen_eq_zero.1 (of_decide_eq_true a)),fun a=>decide_eq_true (zlen_eq_zero.2 (Rat.num_eq_zero.2 a))⟩
theorem qtrim_nql {n:Nat} {v:Nat->Rat} (hn:n≤1048576):FnOK Tryz.prog true 100 [.c (nql n v)] (.c (nql (Q.tq v n) v)):=by
 have:=(qtrim_ok (c:=fun i=>ofR (v i)) hn).weak (r:=true)
 rwa [tb_tq (p:=fun i=>decide ((ofR (v i)).num.ds.length=0)) (v:=v) fun i _=>num_zero _]at this
theorem qnorm_ok {n:Nat} {q:Nat->RawR} {L:Nat} {v:Nat->Rat} (hv:(fun i=>(q i).val)=v) (hn:n≤1048576) (hq:∀ i,i<n->(q i).Fit L) (hL:L+3≤LIM):FnOK Tryz.prog true 48 [.c (ql n q)] (.c (nql (Q.tq v n) v)):=by
 have h1:∀ i,i<n->FnOK Tryz.prog true 73 [.g (rr (q i))] (.g (nq (v i))):=fun i hi=>by
  rw[← hv]
  exact qnormal_ok (hq i hi) hL
 have h2:=qtrim_nql (v:=v) hn
 clear hv hq
 generalize Q.tq v n=N at *
 have hT:∀ i,i=n->FnOK Tryz.prog true 100 [.c (.row 4 n fun k j=>(qpF v i k).getD j .any)] (.c (nql N v)):=fun i e=>arg_ok h2 fun D w vs h=>by
  match vs,h with
  | [v1],⟨h1,_⟩=>exact⟨subRowG rfl (fun k j hk hj=>by rw[e];exact qp_all hk j) D w v1 h1,trivial⟩
 refine fn_ok (E:=E1) E1_ok Tryz.func48 rfl mixed (by kernel_rfl) (by kernel_rfl) ?_
 conv=>whnf
 refine⟨by omega,Int.le_refl _,by omega,by show(64:Int)*n≤281474976710656;omega,?_⟩
 conv=>whnf
 refine loop_ints (fun i:Nat=>gst [(3,.c (.gs 0 0)),(9,.c (ql n q)),(10,.c (.int .i64 n)),(11,.c (.int .i64 i))] [gqp n v i]) (fun i=>n-i) (fun i=>i≤n) 0 rfl (Weak.gen [some 0] rfl ⟨⟨_,rfl,rfl,rfl,by show Int.toNat n=n;omega,rfl,fun k j hk hj=>?_⟩,trivial⟩ ⟨⟨_,rfl,rfl,rfl⟩,.inl ⟨_,_,rfl,rfl,fun _ _ _ _=>rfl⟩,⟨_,rfl,rfl⟩,⟨_,rfl,rfl⟩,trivial⟩) (Nat.zero_le _) fun i hi=>?_
 ·exact regE (congrArg (fun l=>l.getD j .any) (qp_zero v k).symm) (qp_clos k j)
 conv=>whnf
 refine bcase (fun(h:decide ((i:Int)<n)=true)=>?_) fun(h:decide ((i:Int)<n)=false)=>?_
 ·have h:=of_decide_eq_true h
  have g1:=h1 i (by omega)
  conv=>whnf
  refine⟨by omega,by omega,?_⟩
  conv=>whnf
  refine⟨_,g1,?_⟩
  conv=>whnf
  refine⟨by omega,by show(i:Int)<(n:Int);omega,?_⟩
  conv=>whnf
  refine⟨i64 (by omega) (by omega),?_⟩
  conv=>whnf
  refine⟨i+1,by omega,Weak.gen [some 0] rfl ⟨⟨_,rfl,rfl,rfl,rfl,rfl,fun j k hj hk=>regE ?_ (qp_clos j k)⟩,trivial⟩ ⟨⟨_,rfl,rfl,rfl⟩,.inl ⟨_,_,rfl,rfl,fun _ _ _ _=>rfl⟩,⟨_,rfl,rfl⟩,⟨_,rfl,rfl⟩,trivial⟩,by omega⟩
  exact updG (sz:=4) (g:=qpF v i) (g':=qpF v (i+1)) (l:=nq (v i)) rfl hk (qp_next v i j)
 ·have h:=of_decide_eq_false h
  have g:=hT i (by omega)
  conv=>whnf
  refine .inr ⟨fun k j _ _=>qp_clos k j,?_⟩
  conv=>whnf
  refine⟨_,g,?_⟩
  conv=>whnf
  exact⟨rfl,Sub.refl _⟩
def rmid (v:Nat->Rat) (i k:Nat):RawR:=if k<i then ofR (v k)else⟨⟨false,[]⟩,⟨false,[]⟩⟩
theorem rmid_next (v:Nat->Rat) (i k:Nat):(if k=i then nq (v i)else rr (rmid v i k))=rr (rmid v (i+1) k):=by
 unfold rmid
 by_cases e:k=i
 ·rw[if_pos e,if_pos (by omega),e]
 ·rw[if_neg e]
  by_cases e2:k<i
  ·rw[if_pos e2,if_pos (by omega)]
  ·rw[if_neg e2,if_neg (by omega)]
theorem rmid_all {v:Nat->Rat} {n k:Nat} (h:k<n):rmid v n k=ofR (v k):=if_pos h
theorem rmid_zero (v:Nat->Rat):rmid v 0=fun _=>⟨⟨false,[]⟩,⟨false,[]⟩⟩:=funext fun k=>if_neg (Nat.not_lt_zero k)
abbrev gqr (n:Nat) (c:Nat->RawR):Gx:=⟨38,4,n,qlF c⟩
end Rf
end Go.Proofs.YtkmbnldginonbaaGreat
/- Sums and products of lists of fractions in the program. -/
namespace Go.Proofs.YtkmbnldginonbaaGreat
open Go.RowKit
namespace Rf
theorem qzero_ok {q:RawR} {L:Nat} {x:Rat} (hx:q.val=x) (h:q.Fit L) (hL:L+3≤LIM):FnOK Tryz.prog true 112 [.g (rr q)] (.c (.bool (decide (x=0)))):=by
 have h1:=qsign_ok h hL
 rw[hx]at h1
 have e:x.num.sign=0↔x=0:=⟨fun a=>Rat.num_eq_zero.1 (Int.sign_eq_zero_iff_zero.1 a),fun a=>by rw[a];rfl⟩
 refine fn_ok (E:=E1) E1_ok Tryz.func112 rfl mixed (by kernel_rfl) (by kernel_rfl) ?_
 conv=>whnf
 refine⟨_,h1,?_⟩
 conv=>whnf
 exact⟨rfl,sub_bool (decide_eq_decide.2 e)⟩
abbrev zraw:RawR:=⟨⟨false,[]⟩,⟨false,[]⟩⟩
abbrev zcells:List Cell:=[.bool false,.nil,.bool false,.nil]
theorem zraw_fit (L:Nat):zraw.Fit L:=⟨fun _ hd=>absurd hd List.not_mem_nil,fun _ hd=>absurd hd List.not_mem_nil,Nat.zero_le _,Nat.zero_le _⟩
theorem zraw_val:zraw.val=0:=by
 show ratio _ (sgn false (Dg.val []))=0
 exact ratio_zero_right _
theorem zsub:Sub (.g zcells) (.g (rr zraw)):=Sub.cells rfl fun i x y hx hy=>by
 match i,hx,hy with
 | 0,hx,hy=>cases hx;cases hy;exact SubC.refl _
 | 1,hx,hy=>cases hx;cases hy;exact SubC.nil _ _
 | 2,hx,hy=>cases hx;cases hy;exact SubC.refl _
 | 3,hx,hy=>cases hx;cases hy;exact SubC.nil _ _
 | i+4,hx,hy=>simp at hx
end Rf
end Go.Proofs.YtkmbnldginonbaaGreat
/- Products of lists of fractions in the program. -/
namespace Go.Proofs.YtkmbnldginonbaaGreat
open Go.RowKit
namespace Rf
theorem qlen_mul {x y:Rat} {L L':Nat} (hx:qlen x≤L) (hy:qlen y≤L') (h1:1≤L+L'):qlen (x*y)≤L+L':=by
 have e:x*y=ratio (x.num*y.num) ((x.den:Int)*(y.den:Int)):=by
  rw[← ratio_mul,ratio_num_den,ratio_num_den]
 rw[e]
 unfold qlen at hx hy
 have a1:=zlen_mul x.num y.num
 have a2:=zlen_mul (x.den:Int) (y.den:Int)
 exact qlen_ratio (by omega) (by omega) h1
theorem tq_zero {v : Nat → Rat} (h : ∀ k, v k = 0) : ∀ n, Q.tq v n = 0
 | 0=>rfl
 | n+1=>by unfold Q.tq;rw[if_pos (h n),tq_zero h n]
theorem cf_nil {F G:Nat->Rat} (h:(∀ k,F k=0)∨∀ k,G k=0) (k:Nat):Q.cf F G k=0:=Q.su_zero fun i _=>by
 rcases h with h | h
 ·rw[h,Rat.zero_mul]
 ·rw[h,Rat.mul_zero]
theorem nil_row (n:Nat) (f:Nat->Nat->Cell) (h:n=0):Sub (.c .nil) (.c (.row 4 n f)):=by
 subst h
 exact fun D w v h=>SubC.nil 4 f D w v h
theorem qof_zero:FnOK Tryz.prog true 45 [.c (.int .i64 0)] (.g (nq 0)):=by
 have h:=qof_ok (n:=0) (by decide) (by decide)
 rwa [show((0:Int):Rat)=0 from rfl]at h
theorem qpMul_ok {n m:Nat} {q p:Nat->RawR} {L K:Nat} {F G:Nat->Rat} (hF:Q.qx n (fun i=>(q i).val)=F) (hG:Q.qx m (fun i=>(p i).val)=G) (hn:n≤4096) (hm:m≤4096) (hq:∀ i,i<n->(q i).Fit L) (hp:∀ i,i<m->(p i).Fit L) (h1:1≤L) (hs:∀ i k,i≤n->qlen (Q.mu F G i k)≤K) (hL:L+L+K+8≤LIM):FnOK Tryz.prog true 66 [.c (ql n q),.c (ql m p)] (.c (nql (Q.tq (Q.cf F G) (n+m-1)) (Q.cf F G))):=by
 have vF:∀ i,i<n->(q i).val=F i:=fun i hi=>by rw[← hF,Q.qx_lt hi]
 have vG:∀ i,i<m->(p i).val=G i:=fun i hi=>by rw[← hG,Q.qx_lt hi]
 have fF:Q.Fin n F:=by rw[← hF];exact Q.qx_fin _ _
 have fG:Q.Fin m G:=by rw[← hG];exact Q.qx_fin _ _
 have hz0:n=0∨m=0->Sub (.c .nil) (.c (nql (Q.tq (Q.cf F G) (n+m-1)) (Q.cf F G))):=fun h=>nil_row _ _ (tq_zero (cf_nil (h.imp (fun e k=>fF k (by omega)) fun e k=>fG k (by omega))) _)
 obtain⟨N,hN⟩:∃ N,N=n+m-1:=⟨_,rfl⟩
 rw[← hN]at hz0 ⊢
 have h0:=qof_zero
 have z1:∀ i,i<n->FnOK Tryz.prog true 112 [.g (rr (q i))] (.c (.bool (decide (F i=0)))):=fun i hi=>qzero_ok (vF i hi) (hq i hi) (by omega)
 have z2:∀ j,j<m->FnOK Tryz.prog true 112 [.g (rr (p j))] (.c (.bool (decide (G j=0)))):=fun j hj=>qzero_ok (vG j hj) (hp j hj) (by omega)
 have p1:∀ i j,i<n->j<m->FnOK Tryz.prog true 46 [.g (rr (q i)),.g (rr (p j))] (.g (nq (F i*G j))):=fun i j hi hj=>by
  have:=qmul_ok (hq i hi) (hp j hj) (by omega)
  rwa [vF i hi,vG j hj]at this
 have a1:∀ i j,i<n->j<m->FnOK Tryz.prog true 93 [.g (nq (Q.mp (F i) G (Q.mu F G i) i j ((i:Int)+(j:Int)).toNat)),.g (nq (F i*G j))] (.g (nq (Q.mu F G i (i+j)+F i*G j))):=fun i j hi hj=>by
  rw[show((i:Int)+(j:Int)).toNat=i+j by omega,Q.mp_old]
  have k1:qlen (F i)≤L:=by rw[← vF i hi];exact(hq i hi).qlen h1
  have k2:qlen (G j)≤L:=by rw[← vG j hj];exact(hp j hj).qlen h1
  have:=qadd_ok (q:=ofR (Q.mu F G i (i+j))) (p:=ofR (F i*G j)) (ofR_fit (hs i _ (by omega))) (ofR_fit (qlen_mul k1 k2 (by omega))) (by omega)
  rwa [ofR_val,ofR_val]at this
 have w0:∀ i,i<n->F i=0->∀ k,Q.mu F G i k=Q.mu F G (i+1) k:=fun i hi e k=>by
  rw[← Q.mp_all fG i k,Q.mp_none e]
 have w1:=fun i k=>Q.mp_all fG (F:=F) i k
 have w2:=fun k=>Q.mu_all fF (G:=G) k
 have hT:=qtrim_nql (n:=N) (v:=Q.cf F G) (by omega)
 generalize Q.tq (Q.cf F G) N=T at *
 have hT:∀ i,i=n->FnOK Tryz.prog true 100 [.c (.row 4 N (qlF fun k=>ofR (Q.mu F G i k)))] (.c (nql T (Q.cf F G))):=fun i e=>by
  rw[e,show(fun k=>ofR (Q.mu F G n k))=fun k=>ofR (Q.cf F G k)from funext fun k=>by rw[w2]]
  exact hT
 clear w2 hq hp hs vF vG hF hG fF fG
 refine fn_ok (E:=E1) E1_ok Tryz.func66 rfl mixed (by kernel_rfl) (by kernel_rfl) ?_
 conv=>whnf
 refine bcase (fun(c1:gw false (decide ((n:Int)=0))=true)=>?_) fun(c1:gw false (decide ((n:Int)=0))=false)=>?_
 ·have c1:=of_decide_eq_false (gwf c1)
  conv=>whnf
  refine bcase (fun(c2:decide ((m:Int)=0)=true)=>?_) fun(c2:decide ((m:Int)=0)=false)=>?_
  ·have g:=hz0 (.inr (by have:=of_decide_eq_true c2;omega))
   conv=>whnf
   exact⟨rfl,g⟩
  ·have c2:=of_decide_eq_false c2
   conv=>whnf
   refine⟨i64 (by omega) (by omega),?_⟩
   conv=>whnf
   refine⟨i64 (by omega) (by omega),?_⟩
   conv=>whnf
   refine⟨by omega,Int.le_refl _,by omega,by show(64:Int)*((n:Int)+(m:Int)-1)≤281474976710656;omega,?_⟩
   have eN:((n:Int)+(m:Int)-1).toNat=N:=by omega
   conv=>whnf
   refine loop_ints (fun i:Nat=>gst [(0,.c (ql n q)),(1,.c (ql m p)),(5,.c (.gs 0 0)),(27,.c (.int .i64 N)),(28,.c (.int .i64 i))] [gqp N (fun _=>0) i]) (fun i=>N-i) (fun i=>i≤N) 0 rfl (Weak.gen [some 0] rfl ⟨⟨_,rfl,rfl,rfl,eN,rfl,fun k j hk hj=>?_⟩,trivial⟩ ⟨.inl ⟨_,_,rfl,rfl,fun _ _ _ _=>rfl⟩,.inl ⟨_,_,rfl,rfl,fun _ _ _ _=>rfl⟩,⟨_,rfl,rfl,rfl⟩,⟨_,rfl,by show(((n:Int)+(m:Int)-1).toNat:Int)=_;rw[eN]⟩,⟨_,rfl,rfl⟩,trivial⟩) (Nat.zero_le _) fun i hi=>?_
   ·exact regE (congrArg (fun l=>l.getD j .any) (qp_zero (fun _=>0) k).symm) (qp_clos k j)
   conv=>whnf
   refine bcase (fun(h:decide ((i:Int)<N)=true)=>?_) fun(h:decide ((i:Int)<N)=false)=>?_
   ·have h:=of_decide_eq_true h
    conv=>whnf
    refine⟨_,h0,?_⟩
    conv=>whnf
    refine⟨by omega,by show(i:Int)<(N:Int);omega,?_⟩
    conv=>whnf
    refine⟨i64 (by omega) (by omega),?_⟩
    conv=>whnf
    refine⟨i+1,by omega,Weak.gen [some 0] rfl ⟨⟨_,rfl,rfl,rfl,rfl,rfl,fun j k hj hk=>regE ?_ (qp_clos j k)⟩,trivial⟩ ⟨.inl ⟨_,_,rfl,rfl,fun _ _ _ _=>rfl⟩,.inl ⟨_,_,rfl,rfl,fun _ _ _ _=>rfl⟩,⟨_,rfl,rfl,rfl⟩,⟨_,rfl,rfl⟩,⟨_,rfl,rfl⟩,trivial⟩,by omega⟩
    exact updG (sz:=4) (g:=qpF (fun _=>0) i) (g':=qpF (fun _=>0) (i+1)) (l:=nq 0) rfl hk (qp_next (fun _=>0) i j)
   ·have h:=of_decide_eq_false h
    conv=>whnf
    refine loop_ints (fun a:Nat=>gst [(1,.c (ql m p)),(5,.c (.gs 0 0)),(36,.c (ql n q)),(37,.c (.int .i64 n)),(38,.c (.int .i64 a))] [gqr N fun k=>ofR (Q.mu F G a k)]) (fun a=>n-a) (fun a=>a≤n) 0 rfl (Weak.gen [some 0] rfl ⟨⟨_,rfl,rfl,rfl,rfl,rfl,fun k j hk hj=>regE ?_ (ql_clos (c:=fun k=>ofR (Q.mu F G 0 k)) k j)⟩,trivial⟩ ⟨.inl ⟨_,_,rfl,rfl,fun _ _ _ _=>rfl⟩,⟨_,rfl,rfl,rfl⟩,.inl ⟨_,_,rfl,rfl,fun _ _ _ _=>rfl⟩,⟨_,rfl,rfl⟩,⟨_,rfl,rfl⟩,trivial⟩) (Nat.zero_le _) fun a ha=>?_
    ·exact qp_all (v:=fun _=>0) (Nat.lt_of_lt_of_le hk (show N≤i by omega)) j
    have y1:=z1 a
    have y2:=w0 a
    conv=>whnf
    refine bcase (fun(h2:decide ((a:Int)<n)=true)=>?_) fun(h2:decide ((a:Int)<n)=false)=>?_
    ·have h2:=of_decide_eq_true h2
     have y1:=y1 (by omega)
     have y2:=y2 (by omega)
     conv=>whnf
     refine⟨by omega,by omega,?_⟩
     conv=>whnf
     refine⟨_,y1,?_⟩
     conv=>whnf
     refine bcase (fun(h3:decide (F a=0)=true)=>?_) fun(h3:decide (F a=0)=false)=>?_
     ·have y3:=y2 (of_decide_eq_true h3)
      conv=>whnf
      refine⟨i64 (by omega) (by omega),?_⟩
      conv=>whnf
      exact⟨a+1,by omega,Weak.gen [some 0] rfl ⟨⟨_,rfl,rfl,rfl,rfl,rfl,fun k j hk hj=>regE (qlF_eq (c:=fun k=>ofR (Q.mu F G a k)) (e:=fun k=>ofR (Q.mu F G (a+1) k)) (i:=k) (k:=k) (congrArg ofR (y3 k))) (ql_clos (c:=fun k=>ofR (Q.mu F G (a+1) k)) k j)⟩,trivial⟩ ⟨.inl ⟨_,_,rfl,rfl,fun _ _ _ _=>rfl⟩,⟨_,rfl,rfl,rfl⟩,.inl ⟨_,_,rfl,rfl,fun _ _ _ _=>rfl⟩,⟨_,rfl,rfl⟩,⟨_,rfl,rfl⟩,trivial⟩,by omega⟩
     ·conv=>whnf
      refine loop_ints (fun j:Nat=>gst [(1,.c (ql m p)),(5,.c (.gs 0 0)),(7,.c (.int .i64 a)),(8,.c (.p 1 0 4 0 0)),(36,.c (ql n q)),(37,.c (.int .i64 n)),(38,.c (.int .i64 a)),(45,.c (ql m p)),(46,.c (.int .i64 m)),(47,.c (.int .i64 j))] [gqr N fun k=>ofR (Q.mp (F a) G (Q.mu F G a) a j k),⟨38,4,1,boxF (rr (q a))⟩]) (fun j=>m-j) (fun j=>j≤m) 0 rfl ?_ (Nat.zero_le _) fun j hj=>?_
      ·exact Weak.gen [some 0,some 1] rfl ⟨⟨_,rfl,rfl,rfl,rfl,rfl,fun k x hk hx=>regE (qlF_eq (c:=fun k=>ofR (Q.mu F G a k)) (e:=fun k=>ofR (Q.mp (F a) G (Q.mu F G a) a 0 k)) (i:=k) (k:=k) (congrArg ofR (Q.mp_zero _ _ _ _ k).symm)) (ql_clos (c:=fun k=>ofR (Q.mp (F a) G (Q.mu F G a) a 0 k)) k x)⟩,boxU rfl rfl rfl,trivial⟩ ⟨.inl ⟨_,_,rfl,rfl,fun _ _ _ _=>rfl⟩,⟨_,rfl,rfl,rfl⟩,⟨_,rfl,rfl⟩,⟨_,rfl,rfl,rfl⟩,.inl ⟨_,_,rfl,rfl,fun _ _ _ _=>rfl⟩,⟨_,rfl,rfl⟩,⟨_,rfl,rfl⟩,.inl ⟨_,_,rfl,rfl,fun _ _ _ _=>rfl⟩,⟨_,rfl,rfl⟩,⟨_,rfl,rfl⟩,trivial⟩
      have u1:=z2 j
      have u2:=p1 a j (by omega)
      have u3:=a1 a j (by omega)
      have u4:G j=0->∀ k,Q.mp (F a) G (Q.mu F G a) a j k=Q.mp (F a) G (Q.mu F G a) a (j+1) k:=fun e k=>Q.mp_skip e k
      have u5:=Q.mp_next (F a) G (Q.mu F G a) a j
      have u6:=fun k=>w1 a k
      conv=>whnf
      refine bcase (fun(h4:decide ((j:Int)<m)=true)=>?_) fun(h4:decide ((j:Int)<m)=false)=>?_
      ·have h4:=of_decide_eq_true h4
       have u1:=u1 (by omega)
       have u2:=u2 (by omega)
       have u3:=u3 (by omega)
       conv=>whnf
       refine⟨by omega,by omega,?_⟩
       conv=>whnf
       refine⟨_,u1,?_⟩
       conv=>whnf
       refine bcase (fun(h5:(!decide (G j=0))=true)=>?_) fun(h5:(!decide (G j=0))=false)=>?_
       ·conv=>whnf
        refine⟨i64 (by omega) (by omega),?_⟩
        conv=>whnf
        refine⟨i64 (by omega) (by omega),?_⟩
        conv=>whnf
        refine⟨by omega,by show(a:Int)+(j:Int)<(N:Int);omega,?_⟩
        conv=>whnf
        refine⟨_,u2,?_⟩
        conv=>whnf
        refine⟨_,u3,?_⟩
        conv=>whnf
        refine⟨by omega,by show(a:Int)+(j:Int)<(N:Int);omega,?_⟩
        conv=>whnf
        refine⟨i64 (by omega) (by omega),?_⟩
        conv=>whnf
        refine⟨j+1,by omega,Weak.gen [some 0,some 1] rfl ⟨⟨_,rfl,rfl,rfl,rfl,rfl,fun k x hk hx=>regE ?_ (ql_clos (c:=fun k=>ofR (Q.mp (F a) G (Q.mu F G a) a (j+1) k)) k x)⟩,boxK rfl rfl,trivial⟩ ⟨.inl ⟨_,_,rfl,rfl,fun _ _ _ _=>rfl⟩,⟨_,rfl,rfl,rfl⟩,⟨_,rfl,rfl⟩,⟨_,rfl,rfl,rfl⟩,.inl ⟨_,_,rfl,rfl,fun _ _ _ _=>rfl⟩,⟨_,rfl,rfl⟩,⟨_,rfl,rfl⟩,.inl ⟨_,_,rfl,rfl,fun _ _ _ _=>rfl⟩,⟨_,rfl,rfl⟩,⟨_,rfl,rfl⟩,trivial⟩,by omega⟩
        exact updG (sz:=4) (g:=fun k=>nq (Q.mp (F a) G (Q.mu F G a) a j k)) (g':=fun k=>nq (Q.mp (F a) G (Q.mu F G a) a (j+1) k)) (l:=nq (Q.mu F G a (a+j)+F a*G j)) rfl hx (by
         show(if k=((a:Int)+(j:Int)).toNat then nq (Q.mu F G a (a+j)+F a*G j)else nq (Q.mp (F a) G (Q.mu F G a) a j k))=nq (Q.mp (F a) G (Q.mu F G a) a (j+1) k)
         rw[show((a:Int)+(j:Int)).toNat=a+j by omega,← u5 k]
         split <;> rfl)
       ·have u4:=u4 (by simpa using h5)
        conv=>whnf
        refine⟨i64 (by omega) (by omega),?_⟩
        conv=>whnf
        exact⟨j+1,by omega,Weak.gen [some 0,some 1] rfl ⟨⟨_,rfl,rfl,rfl,rfl,rfl,fun k x hk hx=>regE (qlF_eq (c:=fun k=>ofR (Q.mp (F a) G (Q.mu F G a) a j k)) (e:=fun k=>ofR (Q.mp (F a) G (Q.mu F G a) a (j+1) k)) (i:=k) (k:=k) (congrArg ofR (u4 k))) (ql_clos (c:=fun k=>ofR (Q.mp (F a) G (Q.mu F G a) a (j+1) k)) k x)⟩,boxK rfl rfl,trivial⟩ ⟨.inl ⟨_,_,rfl,rfl,fun _ _ _ _=>rfl⟩,⟨_,rfl,rfl,rfl⟩,⟨_,rfl,rfl⟩,⟨_,rfl,rfl,rfl⟩,.inl ⟨_,_,rfl,rfl,fun _ _ _ _=>rfl⟩,⟨_,rfl,rfl⟩,⟨_,rfl,rfl⟩,.inl ⟨_,_,rfl,rfl,fun _ _ _ _=>rfl⟩,⟨_,rfl,rfl⟩,⟨_,rfl,rfl⟩,trivial⟩,by omega⟩
      ·have h4:=of_decide_eq_false h4
       have e:j=m:=by omega
       conv=>whnf
       refine⟨i64 (by omega) (by omega),?_⟩
       conv=>whnf
       exact⟨a+1,by omega,Weak.gen [some 0] rfl ⟨⟨_,rfl,rfl,rfl,rfl,rfl,fun k x hk hx=>regE (qlF_eq (c:=fun k=>ofR (Q.mp (F a) G (Q.mu F G a) a j k)) (e:=fun k=>ofR (Q.mu F G (a+1) k)) (i:=k) (k:=k) (congrArg ofR (by rw[e];exact u6 k))) (ql_clos (c:=fun k=>ofR (Q.mu F G (a+1) k)) k x)⟩,trivial⟩ ⟨.inl ⟨_,_,rfl,rfl,fun _ _ _ _=>rfl⟩,⟨_,rfl,rfl,rfl⟩,.inl ⟨_,_,rfl,rfl,fun _ _ _ _=>rfl⟩,⟨_,rfl,rfl⟩,⟨_,rfl,rfl⟩,trivial⟩,by omega⟩
    ·have h2:=of_decide_eq_false h2
     have g:=hT a (by omega)
     conv=>whnf
     refine .inr ⟨fun k j _ _=>ql_clos (c:=fun k=>ofR (Q.mu F G a k)) k j,?_⟩
     conv=>whnf
     refine⟨_,g,?_⟩
     conv=>whnf
     exact⟨rfl,Sub.refl _⟩
 ·have g:=hz0 (.inl (by have:=of_decide_eq_true (gwf' c1);omega))
  conv=>whnf
  exact⟨rfl,g⟩
end Rf
end Go.Proofs.YtkmbnldginonbaaGreat
/- A walk in pieces: behind each piece the state is told anew. -/
namespace Go.Proofs.YtkmbnldginonbaaGreat
open Go.RowKit
structure Swp (E : Env) (N : Nat) (c : Code) (σ : St) (R : Exit → St → Prop) : Prop where
 run:∀(C:Ctx) (a:Act) (w:World),C.r=E.r->C.ρ0.length≤E.m0->C.N=N->Rel C σ a w->c.wp E.P (QR C R) a w
theorem swp_of {E:Env} (hE:EnvOK E) (hm:E.P.follows .mixedOrders=true) {N:Nat} {c:Code} {σ:St} {R:Exit->St->Prop} (hc:codeB N c=true) (h:awp E c σ R):Swp E N c σ R :=
 ⟨fun C a w h1 h2 h3 hr=>awp_sound (C:=C) hE h1 h2 hm c (by rw[h3];exact hc) h hr⟩
theorem swp_seq {E:Env} (hE:EnvOK E) (hm:E.P.follows .mixedOrders=true) {N:Nat} {x y:Code} {σ:St} {R:Exit->St->Prop} (hc:codeB N x=true) (h:awp E x σ (seqR (fun σ'=>∃ σ2,Weak E.m0 σ' σ2/\Swp E N y σ2 R) R)):Swp E N (.seq x y) σ R:=by
 refine⟨fun C a w h1 h2 h3 hr=>?_⟩
 refine wp_seq (wp_mono (awp_sound (C:=C) hE h1 h2 hm x (by rw[h3];exact hc) h hr) ?_)
 rintro e a' w' ⟨σ',hrel,hk⟩
 cases e with
 | normal =>
  obtain⟨σ2,hw,hs⟩:=hk
  exact hs.run C a' w' h1 h2 h3 (hw C a' w' h2 hrel)
 | _=>exact⟨σ',hrel,hk⟩
theorem swp_seq0 {E:Env} (hE:EnvOK E) (hm:E.P.follows .mixedOrders=true) {N:Nat} {x y:Code} {σ:St} {R:Exit->St->Prop} (hc:codeB N x=true) (h:awp E x σ (seqR (fun σ'=>Swp E N y σ' R) R)):Swp E N (.seq x y) σ R:=by
 refine⟨fun C a w h1 h2 h3 hr=>?_⟩
 refine wp_seq (wp_mono (awp_sound (C:=C) hE h1 h2 hm x (by rw[h3];exact hc) h hr) ?_)
 rintro e a' w' ⟨σ',hrel,hk⟩
 cases e with
 | normal=>exact hk.run C a' w' h1 h2 h3 hrel
 | _=>exact⟨σ',hrel,hk⟩
theorem swp_seqS {E:Env} {N:Nat} {x y:Code} {σ:St} {R:Exit->St->Prop} (h:Swp E N x σ (seqR (fun σ'=>Swp E N y σ' R) R)):Swp E N (.seq x y) σ R:=by
 refine⟨fun C a w h1 h2 h3 hr=>?_⟩
 refine wp_seq (wp_mono (h.run C a w h1 h2 h3 hr) ?_)
 rintro e a' w' ⟨σ',hrel,hk⟩
 cases e with
 | normal=>exact hk.run C a' w' h1 h2 h3 hrel
 | _=>exact⟨σ',hrel,hk⟩
theorem swp_block {E:Env} {N id:Nat} {c:Code} {σ:St} {R:Exit->St->Prop} (h:Swp E N c σ (blockR id R)):Swp E N (.block id c) σ R:=by
 refine⟨fun C a w h1 h2 h3 hr=>?_⟩
 refine wp_block (wp_mono (h.run C a w h1 h2 h3 hr) ?_)
 rintro e a' w' ⟨σ',hrel,hk⟩
 cases e with
 | exit i =>
  simp only[blockR]at hk
  simp only[Exit.inBlock]
  split
  ·rename_i e;rw[if_pos e]at hk;exact⟨σ',hrel,hk⟩
  ·rename_i e;rw[if_neg e]at hk;exact⟨σ',hrel,hk⟩
 | _=>exact⟨σ',hrel,hk⟩
theorem swp_loop {E:Env} {N:Nat} {c:Code} {σ:St} {R:Exit->St->Prop} {α:Type} (S:α->St) (m:α->Nat) (I:α->Prop) (x0:α) (h0:Weak E.m0 σ (S x0)) (hI:I x0) (hr:∀ x,I x->Swp E N c (S x) (seqR (fun σ2=>∃ x',m x'<m x/\Weak E.m0 σ2 (S x')/\I x') R)):Swp E N (.loop c) σ R:=by
 refine⟨fun C a w h1 h2 h3 hrel=>?_⟩
 refine wp_loop_ghost (fun n a w=>∃ x,n=m x/\I x/\Rel C (S x) a w) (m x0) ⟨x0,rfl,hI,h0 _ _ _ h2 hrel⟩ ?_
 rintro n a w ⟨x,rfl,hx,hrel⟩
 refine wp_mono ((hr x hx).run C a w h1 h2 h3 hrel) ?_
 rintro e a' w' ⟨σ2,hrel2,hk⟩
 cases e with
 | normal =>
  obtain⟨x',hlt,hw,hI'⟩:=hk
  exact⟨m x',hlt,x',rfl,hI',hw _ _ _ h2 hrel2⟩
 | _=>exact⟨σ2,hrel2,hk⟩
theorem fn_okS {E : Env} (hE : EnvOK E) {f : FuncId} {fn : Func} {c : Code} {args : List V} {X : V} (hf : E.P.funcs[f]? = some fn) (hb : fn.body = some c) (hbd : hasBody E.P f = true)
  (h:Swp E fn.ntmps c ⟨frame0 args,[]⟩ (retOK E fn.results.toList X)):FnOK E.P E.r f args X:=by
 refine⟨hbd,?_⟩
 intro D w vs hD hU hargs
 refine calls_of_wp hf hb ?_
 let C:Ctx:=⟨D,⟨w,fun _=>False⟩,E.r,fn.ntmps,[]⟩
 have hlen:=hargs.length
 have hrel:Rel C ⟨frame0 args,[]⟩ { tmps:=vs.toArray++Array.replicate (fn.ntmps-vs.toArray.size) undef,defers:=[] } w:=by
  have hDof:∀ b,Dof D [] [] b->D b:=by
   rintro b (h | ⟨k,l,B,h1,_⟩)
   ·exact h
   ·simp at h1
  refine⟨[],⟨⟨rfl,rfl,rfl,Nat.le_refl _,fun _ _ _=>rfl⟩,fun b hb=>⟨hD b hb,id⟩,rfl,fun k l B h1 _=>by simp at h1,fun i j li lj Bi Bj b h1=>by simp at h1,fun hr b o d hb=>hU hr b o d (hDof b hb)⟩,⟨by simp[C];omega,LocsLe.refl _⟩,rfl,fun t=>?_⟩
  have h1:=hargs.get t
  have h2:VRel (Dof D [] []) w [] (args.getD t (.c .any)) (vs.getD t undef):=h1.step (Ext.refl _ _) (fun b _ hb=>hDof b hb) (LocsLe.refl _)
  show VRel (Dof D [] []) w [] (args.getD t (.c .any)) _
  rcases Nat.lt_or_ge t vs.length with hlt | hge
  ·have:(vs.toArray++Array.replicate (fn.ntmps-vs.toArray.size) undef).getD t undef=vs.getD t undef:=by
    rw[Array.getD_eq_getD_getElem?,Array.getElem?_append_left (by simpa using hlt)]
    simp[List.getD]
   rw[this];exact h2
  ·rw[show args.getD t (V.c .any) = .c .any by rw[List.getD,List.getElem?_eq_none (by omega)];rfl]
   trivial
 refine wp_mono (h.run C _ _ rfl (Nat.zero_le _) rfl hrel) ?_
 rintro e a w' ⟨σ,hr,hk⟩
 have fin:retOK E fn.results.toList X .ret σ->a.defers=[]/\∃ v,(results fn a.tmps).run E.P w' = .ok v w'/\∃ u,Ending.returned v = .returned u/\VRel D w' [] X u/\Below w.heap.size w w':=by
  intro hk
  obtain⟨ρ,hs,hN,hdf,hfr⟩:=hr
  refine⟨hdf,?_⟩
  simp only[retOK]at hk
  split at hk
  ·rename_i v hv
   obtain⟨x,hx,hxr⟩:=ret_run hE hs hfr hv
   -- the result in a slot of its own
   let tm':Nat->V:=fun t=>if t=a.tmps.size then v else σ.tm t
   let a':Act:={ a with tmps:=a.tmps.push x }
   have hrel':Rel C ⟨tm',σ.bl⟩ a' w':=by
    refine⟨ρ,hs,⟨by show _≤(a.tmps.push x).size;have:=hN.1;simp;omega,hN.2⟩,hdf,fun t=>?_⟩
    show VRel _ _ _ (if t=a.tmps.size then v else σ.tm t) ((a.tmps.push x).getD t undef)
    by_cases e:t=a.tmps.size
    ·rw[if_pos e,e];simpa [Array.getD] using hxr
    ·rw[if_neg e]
     have:(a.tmps.push x).getD t undef=a.tmps.getD t undef:=by
      rw[Array.getD_eq_getD_getElem?,Array.getD_eq_getD_getElem?,Array.getElem?_push]
      rw[if_neg e]
     rw[this];exact hfr t
   have hk':=frzA_tm (tm:=tm') (K':=fun σ'=>closT (closeT σ'.bl v)=true/\Sub (closeT σ'.bl v) X) (partsV v) (fun bl h=>h) hk
   obtain⟨σ',⟨h1,h2⟩,⟨ρ',hs',_,_,hfr'⟩,htm⟩:=Rel.frzA hk' hrel'
   have h3:=hfr' a.tmps.size
   rw[htm]at h3
   have h4:VRel (Dof D ρ' σ'.bl) w' ρ' v x:=by
    have e1:tm' a.tmps.size=v:=by show(if a.tmps.size=a.tmps.size then v else _)=v;rw[if_pos rfl]
    have e2:a'.tmps.getD a.tmps.size undef=x:=by show(a.tmps.push x).getD a.tmps.size undef=x;simp[Array.getD]
    rw[← e1,← e2]
    exact h3
   have h5:=closT_rel (ρ':=[]) (closeT_rel hs' h4) h1
   exact⟨x,hx,x,rfl,h2 D w' x (h5.step (Ext.refl _ _) (fun b _ hb => .inl hb) (LocsLe.refl _)),⟨hs'.below.os,hs'.below.tape,hs'.below.output,hs'.below.size,fun k hk=>hs'.below.block k hk id⟩⟩
  ·exact hk.elim
 cases e with
 | normal=>exact fin hk
 | ret=>exact fin hk
 | exit i=>exact hk.elim
 | goto l=>exact hk.elim
 | panic ch=>exact hk.elim
 | outgrown=>exact hk.elim
def retS (E:Env) (rs:List ResultVar) (X:V) (m:Nat) (post:List Blk) (e:Exit) (σ:St):Prop :=
 match e with
 | .normal | .ret=>match retV E σ rs with
  | some v=>Weak m ⟨asg [(0,v)],σ.bl⟩ ⟨asg [(0,X)],post⟩
  | none=>False
 | _=>False
theorem fns_okS {E : Env} (hE : EnvOK E) {f : FuncId} {fn : Func} {c : Code} {args : List V} {X : V} {bl post : List Blk} (hf : E.P.funcs[f]? = some fn) (hb : fn.body = some c) (hbd : hasBody E.P f = true) (hm0 : E.m0 = bl.length)
  (h:Swp E fn.ntmps c ⟨frame0 args,bl⟩ (retS E fn.results.toList X bl.length post)):FnS E.P E.r f bl args X post:=by
 refine⟨hbd,?_⟩
 intro D w0 ρ w vs hs0 hargs
 refine calls_of_wp hf hb ?_
 let C:Ctx:=⟨D,w0,E.r,fn.ntmps,ρ⟩
 have hlen:=hargs.length
 have hrl:ρ.length=bl.length:=hs0.len
 have hrel:Rel C ⟨frame0 args,bl⟩ { tmps:=vs.toArray++Array.replicate (fn.ntmps-vs.toArray.size) undef,defers:=[] } w:=by
  refine⟨ρ,hs0,⟨by simp[C];omega,LocsLe.refl _⟩,rfl,fun t=>?_⟩
  have h2:=hargs.get t
  show VRel (Dof D ρ bl) w ρ (args.getD t (.c .any)) _
  rcases Nat.lt_or_ge t vs.length with hlt | hge
  ·have:(vs.toArray++Array.replicate (fn.ntmps-vs.toArray.size) undef).getD t undef=vs.getD t undef:=by
    rw[Array.getD_eq_getD_getElem?,Array.getElem?_append_left (by simpa using hlt)]
    simp[List.getD]
   rw[this];exact h2
  ·rw[show args.getD t (V.c .any) = .c .any by rw[List.getD,List.getElem?_eq_none (by omega)];rfl]
   trivial
 refine wp_mono (h.run C _ _ rfl (by show ρ.length≤E.m0;omega) rfl hrel) ?_
 rintro e a w' ⟨σ,hr,hk⟩
 have fin:retS E fn.results.toList X bl.length post .ret σ->a.defers=[]/\∃ v,(results fn a.tmps).run E.P w' = .ok v w'/\∃ u ρ',Ending.returned v = .returned u/\Sat D w0 E.r ρ' post w'/\LocsLe ρ ρ'/\VRel (Dof D ρ' post) w' ρ' X u:=by
  intro hk
  obtain⟨ρ1,hs,hN,hdf,hfr⟩:=hr
  refine⟨hdf,?_⟩
  simp only[retS]at hk
  split at hk
  ·rename_i v hv
   obtain⟨x,hx,hxr⟩:=ret_run hE hs hfr hv
   have hrel':Rel ⟨D,w0,E.r,0,ρ⟩ ⟨asg [(0,v)],σ.bl⟩ ⟨#[x],[]⟩ w':=by
    refine⟨ρ1,hs,⟨Nat.zero_le _,hN.2⟩,rfl,fun t=>?_⟩
    show VRel _ _ _ (if t=0 then v else .c .any) _
    split
    ·rename_i e;subst e;exact hxr
    ·trivial
   obtain⟨ρ2,hs2,hN2,_,hf2⟩:=hk ⟨D,w0,E.r,0,ρ⟩ _ _ (by show ρ.length≤bl.length;omega) hrel'
   exact⟨x,hx,x,ρ2,rfl,hs2,hN2.2,hf2 0⟩
  ·exact hk.elim
 cases e with
 | normal=>exact fin hk
 | ret=>exact fin hk
 | exit i=>exact hk.elim
 | goto l=>exact hk.elim
 | panic ch=>exact hk.elim
 | outgrown=>exact hk.elim
end Go.Proofs.YtkmbnldginonbaaGreat
/- Division of lists of fractions by a monic one, in the program. -/
namespace Go.Proofs.YtkmbnldginonbaaGreat
open Go.RowKit
namespace Rf
theorem div_one_ok (x:Rat) {L:Nat} (h:qlen x≤L) (hL:L+8≤LIM):FnOK Tryz.prog true 59 [.g (nq x),.g (nq 1)] (.t2 (.g (nq x)) (.c (.int .i64 0))):=by
 have:=qquo_ok (q:=ofR x) (p:=ofR 1) (ofR_fit h) (ofR_fit (L:=1) (by decide)) (by omega) (by rw[ofR_val];decide)
 rw[ofR_val,ofR_val,show x / 1=x by grind]at this
 exact this
end Rf
end Go.Proofs.YtkmbnldginonbaaGreat
/- Quotient and remainder by a monic polynomial in the program. -/
namespace Go.Proofs.YtkmbnldginonbaaGreat
open Go.RowKit
theorem FnOK.res {P:Program} {r:Bool} {f:FuncId} {args:List V} {X X':V} (h:FnOK P r f args X) (s:Sub X X'):FnOK P r f args X' :=
 ⟨h.1,fun D w vs a b c=>(h.2 D w vs a b c).mono fun _ _ ⟨v,e,hv,hb⟩=>⟨v,e,s _ _ _ hv,hb⟩⟩
namespace Rf
end Rf
end Go.Proofs.YtkmbnldginonbaaGreat
/- Fractions with a common denominator, and how long they are. -/
namespace Go.Proofs.YtkmbnldginonbaaGreat
def Bd (D B:Nat) (x:Rat):Prop:=∃ z:Int,x*((D:Int):Rat)=(z:Rat)/\z.natAbs≤B
namespace Q
end Q
end Go.Proofs.YtkmbnldginonbaaGreat
/- The ring of rests modulo a monic polynomial, and the matrices of its multiplications. No condition. -/
namespace Go.Proofs.YtkmbnldginonbaaGreat
namespace Q
def xp (i k:Nat):Rat:=if k=i then 1 else 0
end Q
end Go.Proofs.YtkmbnldginonbaaGreat
/- A well-formed number field opened; normal forms, sums and products of its elements. -/
namespace Go.Proofs.YtkmbnldginonbaaGreat
open Go.RowKit
namespace Rf
abbrev KD:Nat:=67108864
end Rf
end Go.Proofs.YtkmbnldginonbaaGreat
/- Number fields: the calls of sums and products; coordinates, and the letter. -/
namespace Go.Proofs.YtkmbnldginonbaaGreat
open Go.RowKit
namespace Rf
end Rf
end Go.Proofs.YtkmbnldginonbaaGreat
/- The document's fractions in normal form: sign, comparison, product, sum; combinations of lists. -/
set_option maxHeartbeats 8000000
namespace Go.Proofs.YtkmbnldginonbaaGreat
open Go.RowKit
namespace Rf
theorem lenZ {x:Rat} {L:Nat} (h:qlen x≤L):zlen x.num≤L/\zlen (x.den:Int)≤L:=by
 have h:max (zlen x.num) (zlen (x.den:Int))≤L:=h
 omega
theorem wq_n {x:Rat} (h:qlen x≤524286):wq (ofR x):=by
 have h1:=lenZ h
 refine⟨⟨wr_nz (by omega),wr_nz (by omega)⟩,?_,?_⟩
 ·show zlen (ofZ x.num).val≤_
  rw[ofZ_val];exact h1.1
 ·show zlen (ofZ (x.den:Int)).val≤_
  rw[ofZ_val];exact h1.2
theorem rqnorm_n {x:Rat} (h:qlen x≤524286):FnOK Tryz.prog false 102 [.g (nq x)] (.g (nq x)):=by
 have:=rqnormal_ok (wq_n h)
 rwa [ofR_val]at this
theorem rqsign_n {x:Rat} (h:qlen x≤524286):FnOK Tryz.prog false 106 [.g (nq x)] (.c (.int .i64 x.num.sign)):=by
 have h1:=lenZ h
 have s1:=zsign_ok (a:=ofZ x.num) (wr_nz (by omega))
 have s2:=zsign_ok (a:=ofZ (x.den:Int)) (wr_nz (by omega))
 rw[ofZ_val]at s1 s2
 have e:x.num.sign*(x.den:Int).sign=x.num.sign:=by
  have:=x.den_pos
  rw[Int.sign_eq_one_of_pos (show(0:Int)<(x.den:Int)by omega),Int.mul_one]
 refine fn_ok (E:=E0) E0_ok Tryz.func106 rfl mixed (by kernel_rfl) (by kernel_rfl) ?_
 conv=>whnf
 refine⟨_,s1,?_⟩
 conv=>whnf
 refine⟨_,s2,?_⟩
 conv=>whnf
 refine⟨sign_range _ _,?_⟩
 conv=>whnf
 exact⟨rfl,Sub.int e⟩
theorem over_n {a b:Int} {x:Rat} (hx:ratio a b=x) (h1:zlen a≤524286) (h2:zlen b≤524286):FnOK Tryz.prog false 103 [.g (nz a),.g (nz b)] (.g (nq x)):=by
 have:=rover_ok (a:=ofZ a) (b:=ofZ b) (wr_nz (by omega)) (wr_nz (by omega)) (by rw[ofZ_val];exact h1) (by rw[ofZ_val];exact h2)
 rw[ofZ_val,ofZ_val,hx]at this
 exact this
theorem rqmul_n {x y:Rat} (hx:qlen x≤65535) (hy:qlen y≤65535):FnOK Tryz.prog false 91 [.g (nq x),.g (nq y)] (.g (nq (x*y))):=by
 have h1:=lenZ hx
 have h2:=lenZ hy
 have m1:=zmul_n (a:=x.num) (b:=y.num) (by omega)
 have m2:=zmul_n (a:=(x.den:Int)) (b:=(y.den:Int)) (by omega)
 have l1:=zlen_mul x.num y.num
 have l2:=zlen_mul (x.den:Int) (y.den:Int)
 have o:=over_n (x:=x*y) (a:=x.num*y.num) (b:=(x.den:Int)*(y.den:Int)) (by rw[← ratio_mul,ratio_num_den,ratio_num_den]) (by omega) (by omega)
 refine fn_ok (E:=E0) E0_ok Tryz.func91 rfl mixed (by kernel_rfl) (by kernel_rfl) ?_
 conv=>whnf
 refine⟨_,m1,?_⟩
 conv=>whnf
 refine⟨_,m2,?_⟩
 conv=>whnf
 refine⟨_,o,?_⟩
 conv=>whnf
 exact⟨rfl,Sub.refl _⟩
theorem rqadd_n {x y:Rat} (hx:qlen x≤131070) (hy:qlen y≤131070):FnOK Tryz.prog false 53 [.g (nq x),.g (nq y)] (.g (nq (x+y))):=by
 have h1:=lenZ hx
 have h2:=lenZ hy
 have n1:=rqnorm_n (x:=x) (by omega)
 have n2:=rqnorm_n (x:=y) (by omega)
 have m1:=zmul_n (a:=x.num) (b:=(y.den:Int)) (by omega)
 have m2:=zmul_n (a:=y.num) (b:=(x.den:Int)) (by omega)
 have m3:=zmul_n (a:=(x.den:Int)) (b:=(y.den:Int)) (by omega)
 have l1:=zlen_mul x.num (y.den:Int)
 have l2:=zlen_mul y.num (x.den:Int)
 have l3:=zlen_mul (x.den:Int) (y.den:Int)
 have l4:=zlen_add (x.num*(y.den:Int)) (y.num*(x.den:Int))
 have a1:=zadd_ok (a:=ofZ (x.num*(y.den:Int))) (b:=ofZ (y.num*(x.den:Int))) (wr_nz (by omega)) (wr_nz (by omega)) (by rw[ofZ_val];omega) (by rw[ofZ_val];omega)
 rw[ofZ_val,ofZ_val]at a1
 have d1:=x.den_pos
 have d2:=y.den_pos
 have o:=over_n (x:=x+y) (a:=x.num*(y.den:Int)+y.num*(x.den:Int)) (b:=(x.den:Int)*(y.den:Int)) (by rw[← ratio_add (by omega) (by omega),ratio_num_den,ratio_num_den]) (by omega) (by omega)
 refine fn_ok (E:=E0) E0_ok Tryz.func53 rfl mixed (by kernel_rfl) (by kernel_rfl) ?_
 conv=>whnf
 refine⟨_,n1,?_⟩
 conv=>whnf
 refine⟨_,n2,?_⟩
 conv=>whnf
 refine⟨_,m1,?_⟩
 conv=>whnf
 refine⟨_,m2,?_⟩
 conv=>whnf
 refine⟨_,a1,?_⟩
 conv=>whnf
 refine⟨_,m3,?_⟩
 conv=>whnf
 refine⟨_,o,?_⟩
 conv=>whnf
 exact⟨rfl,Sub.refl _⟩
end Rf
end Go.Proofs.YtkmbnldginonbaaGreat
/- The document's lists of fractions: zeros, combinations. -/
namespace Go.Proofs.YtkmbnldginonbaaGreat
open Go.RowKit
namespace Rf
theorem rqof_zero:FnOK Tryz.prog false 52 [.c (.int .i64 0)] (.g (nq 0)):=by
 have h:=rqof_ok (n:=0) (by decide) (by decide)
 rwa [show((0:Int):Rat)=0 from rfl]at h
theorem app_sameq (v:Nat->Rat) (i j:Nat):(if j=i then nq (v i)else nq (v j))=nq (v j):=app_same (fun i=>nq (v i)) i j
theorem one_nq {bl:List Blk} (x:Rat) (r:Bool) (i j:Nat) (hi:i<1) (hj:j<4):St.one bl (rowF 4 (nq x) i j)=true/\(r=true->(rowF 4 (nq x) i j).noU=true):=by
 match i,j,hi,hj with
 | 0,0,_,_=>exact⟨rfl,fun _=>rfl⟩
 | 0,1,_,_=>exact⟨rfl,fun _=>rfl⟩
 | 0,2,_,_=>exact⟨rfl,fun _=>rfl⟩
 | 0,3,_,_=>exact⟨rfl,fun _=>rfl⟩
theorem rzeros_ok {n:Nat} (hn:n≤1024):FnOK Tryz.prog false 64 [.c (.int .i64 n)] (.c (nql n fun _=>0)):=by
 have h0:=rqof_zero
 refine fn_ok (E:=E0) E0_ok Tryz.func64 rfl mixed (by kernel_rfl) (by kernel_rfl) ?_
 conv=>whnf
 refine loop_ints (fun i:Nat=>gst [(0,.c (.int .i64 n)),(3,.c (.gs 0 0)),(4,.c (.int .i64 i))] [gqr i fun _=>ofR 0]) (fun i=>n-i) (fun i=>i≤n) 0 rfl (Weak.gen [none] rfl ⟨rfl,trivial⟩ ⟨⟨_,rfl,rfl⟩,rfl,⟨_,rfl,rfl⟩,trivial⟩) (Nat.zero_le _) fun i hi=>?_
 conv=>whnf
 refine bcase (fun(h:decide ((i:Int)<n)=true)=>?_) fun(h:decide ((i:Int)<n)=false)=>?_
 ·have h:=of_decide_eq_true h
  conv=>whnf
  refine⟨_,h0,?_⟩
  conv=>whnf
  refine⟨by show i+1≤16777216;omega,fun a b ha hb=>one_nq 0 _ a b ha hb,?_⟩
  conv=>whnf
  refine⟨i64 (by omega) (by omega),?_⟩
  conv=>whnf
  refine⟨i+1,by omega,Weak.gen [some 0] rfl ⟨⟨_,rfl,rfl,rfl,rfl,rfl,fun a b ha hb=>regE ?_ (ql_clos (c:=fun _=>ofR 0) a b)⟩,trivial⟩ ⟨⟨_,rfl,rfl⟩,⟨_,rfl,rfl,rfl⟩,⟨_,rfl,rfl⟩,trivial⟩,by omega⟩
  exact appG (sz:=4) (g:=fun _=>nq 0) (g':=fun _=>nq 0) (l:=nq 0) (app_sameq (fun _=>0) i a) (Nat.le_refl (i+1)) ha
 ·have h:=of_decide_eq_false h
  have e:i=n:=by omega
  conv=>whnf
  refine⟨fun a b _ _=>ql_clos (c:=fun _=>ofR 0) a b,?_⟩
  conv=>whnf
  exact⟨rfl,subRowG e fun _ _ _ _=>rfl⟩
theorem rcomb_ok {n:Nat} {X Y:Nat->Rat} {c:Rat} (hn:n≤1024) (hX:∀ i,i<n->qlen (X i)≤65535) (hY:∀ i,i<n->qlen (Y i)≤65535) (hc:qlen c≤65535):FnOK Tryz.prog false 63 [.c (nql n X),.g (nq c),.c (nql n Y)] (.c (nql n fun i=>X i+c*Y i)):=by
 have s0:=rqsign_n (x:=c) (by omega)
 have s1:∀ i,i<n->FnOK Tryz.prog false 106 [.g (nq (Y i))] (.c (.int .i64 (Y i).num.sign)):=fun i hi=>rqsign_n (by have:=hY i hi;omega)
 have n1:∀ i,i<n->c*Y i=0->FnOK Tryz.prog false 102 [.g (nq (X i))] (.g (nq (X i+c*Y i))):=fun i hi e=>by
  rw[e,Rat.add_zero]
  exact rqnorm_n (by have:=hX i hi;omega)
 have m1:∀ i,i<n->FnOK Tryz.prog false 91 [.g (nq c),.g (nq (Y i))] (.g (nq (c*Y i))):=fun i hi=>rqmul_n hc (hY i hi)
 have a1:∀ i,i<n->FnOK Tryz.prog false 53 [.g (nq (X i)),.g (nq (c*Y i))] (.g (nq (X i+c*Y i))):=fun i hi=>rqadd_n (Nat.le_trans (hX i hi) (by decide)) (qlen_mul hc (hY i hi) (by decide))
 have z0:c.num.sign=0->∀ i,c*Y i=0:=fun e i=>by rw[Rat.num_eq_zero.1 (Int.sign_eq_zero_iff_zero.1 e),Rat.zero_mul]
 have z1:∀ i,(Y i).num.sign=0->c*Y i=0:=fun i e=>by rw[Rat.num_eq_zero.1 (Int.sign_eq_zero_iff_zero.1 e),Rat.mul_zero]
 obtain⟨Z,hZ⟩:∃ Z:Nat->Rat,Z=fun i=>X i+c*Y i:=⟨_,rfl⟩
 have n1:∀ i,i<n->c*Y i=0->FnOK Tryz.prog false 102 [.g (nq (X i))] (.g (nq (Z i))):=by rw[hZ];exact n1
 have a1:∀ i,i<n->FnOK Tryz.prog false 53 [.g (nq (X i)),.g (nq (c*Y i))] (.g (nq (Z i))):=by rw[hZ];exact a1
 rw[← hZ]
 clear hZ hX hY hc
 refine fn_ok (E:=E0) E0_ok Tryz.func63 rfl mixed (by kernel_rfl) (by kernel_rfl) ?_
 conv=>whnf
 refine⟨_,s0,?_⟩
 conv=>whnf
 refine loop_ints (fun i:Nat=>gst [(0,.c (nql n X)),(2,.c (nql n Y)),(4,.c (.p 0 0 4 0 0)),(7,.c (.gs 1 0)),(8,.c (.bool (decide (c.num.sign=0)))),(9,.c (.int .i64 i))] [⟨38,4,1,boxF (nq c)⟩,gqr i fun k=>ofR (Z k)]) (fun i=>n-i) (fun i=>i≤n) 0 rfl (Weak.gen [some 0,none] rfl ⟨boxK rfl rfl,rfl,trivial⟩ ⟨.inl ⟨_,_,rfl,rfl,fun _ _ _ _=>rfl⟩,.inl ⟨_,_,rfl,rfl,fun _ _ _ _=>rfl⟩,⟨_,rfl,rfl,rfl⟩,rfl,⟨_,rfl,rfl⟩,⟨_,rfl,rfl⟩,trivial⟩) (Nat.zero_le _) fun i hi=>?_
 have s1:=s1 i
 have n1:=n1 i
 have m1:=m1 i
 have a1:=a1 i
 have z1:=z1 i
 conv=>whnf
 refine bcase (fun(h:decide ((i:Int)<n)=true)=>?_) fun(h:decide ((i:Int)<n)=false)=>?_
 ·have h:=of_decide_eq_true h
  have s1:=s1 (by omega)
  have n1:=n1 (by omega)
  have m1:=m1 (by omega)
  have a1:=a1 (by omega)
  conv=>whnf
  refine bcase (fun(k:gw false (decide (c.num.sign=0))=true)=>?_) fun(k:gw false (decide (c.num.sign=0))=false)=>?_
  ·conv=>whnf
   refine⟨by omega,by omega,?_⟩
   conv=>whnf
   refine⟨_,s1,?_⟩
   conv=>whnf
   refine bcase (fun(k2:decide ((Y i).num.sign=0)=true)=>?_) fun(k2:decide ((Y i).num.sign=0)=false)=>?_
   ·have n1:=n1 (z1 (of_decide_eq_true k2))
    conv=>whnf
    refine⟨by omega,by omega,?_⟩
    conv=>whnf
    refine⟨_,n1,?_⟩
    conv=>whnf
    refine⟨by show i+1≤16777216;omega,fun a b ha hb=>one_nq (Z i) _ a b ha hb,?_⟩
    conv=>whnf
    refine⟨i64 (by omega) (by omega),?_⟩
    conv=>whnf
    refine⟨i+1,by omega,Weak.gen [some 0,some 1] rfl ⟨boxK rfl rfl,⟨_,rfl,rfl,rfl,rfl,rfl,fun a b ha hb=>regE ?_ (ql_clos (c:=fun k=>ofR (Z k)) a b)⟩,trivial⟩ ⟨.inl ⟨_,_,rfl,rfl,fun _ _ _ _=>rfl⟩,.inl ⟨_,_,rfl,rfl,fun _ _ _ _=>rfl⟩,⟨_,rfl,rfl,rfl⟩,⟨_,rfl,rfl,rfl⟩,⟨_,rfl,rfl⟩,⟨_,rfl,rfl⟩,trivial⟩,by omega⟩
    exact appG (sz:=4) (g:=fun k=>nq (Z k)) (g':=fun k=>nq (Z k)) (l:=nq (Z i)) (app_sameq Z i a) (Nat.le_refl (i+1)) ha
   ·conv=>whnf
    refine⟨by omega,by omega,?_⟩
    conv=>whnf
    refine⟨by omega,by omega,?_⟩
    conv=>whnf
    refine⟨_,m1,?_⟩
    conv=>whnf
    refine⟨_,a1,?_⟩
    conv=>whnf
    refine .inr ⟨rfl,?_⟩
    conv=>whnf
    refine⟨by show i+1≤16777216;omega,fun a b ha hb=>one_nq (Z i) _ a b ha hb,?_⟩
    conv=>whnf
    refine⟨i64 (by omega) (by omega),?_⟩
    conv=>whnf
    refine⟨i+1,by omega,Weak.gen [some 0,some 1] rfl ⟨boxK rfl rfl,⟨_,rfl,rfl,rfl,rfl,rfl,fun a b ha hb=>regE ?_ (ql_clos (c:=fun k=>ofR (Z k)) a b)⟩,trivial⟩ ⟨.inl ⟨_,_,rfl,rfl,fun _ _ _ _=>rfl⟩,.inl ⟨_,_,rfl,rfl,fun _ _ _ _=>rfl⟩,⟨_,rfl,rfl,rfl⟩,⟨_,rfl,rfl,rfl⟩,⟨_,rfl,rfl⟩,⟨_,rfl,rfl⟩,trivial⟩,by omega⟩
    exact appG (sz:=4) (g:=fun k=>nq (Z k)) (g':=fun k=>nq (Z k)) (l:=nq (Z i)) (app_sameq Z i a) (Nat.le_refl (i+1)) ha
  ·have n1:=n1 (z0 (of_decide_eq_true (gwf' k)) i)
   conv=>whnf
   refine⟨by omega,by omega,?_⟩
   conv=>whnf
   refine⟨_,n1,?_⟩
   conv=>whnf
   refine⟨by show i+1≤16777216;omega,fun a b ha hb=>one_nq (Z i) _ a b ha hb,?_⟩
   conv=>whnf
   refine⟨i64 (by omega) (by omega),?_⟩
   conv=>whnf
   refine⟨i+1,by omega,Weak.gen [some 0,some 1] rfl ⟨boxK rfl rfl,⟨_,rfl,rfl,rfl,rfl,rfl,fun a b ha hb=>regE ?_ (ql_clos (c:=fun k=>ofR (Z k)) a b)⟩,trivial⟩ ⟨.inl ⟨_,_,rfl,rfl,fun _ _ _ _=>rfl⟩,.inl ⟨_,_,rfl,rfl,fun _ _ _ _=>rfl⟩,⟨_,rfl,rfl,rfl⟩,⟨_,rfl,rfl,rfl⟩,⟨_,rfl,rfl⟩,⟨_,rfl,rfl⟩,trivial⟩,by omega⟩
   exact appG (sz:=4) (g:=fun k=>nq (Z k)) (g':=fun k=>nq (Z k)) (l:=nq (Z i)) (app_sameq Z i a) (Nat.le_refl (i+1)) ha
 ·have h:=of_decide_eq_false h
  have e:i=n:=by omega
  conv=>whnf
  refine⟨fun a b _ _=>ql_clos (c:=fun k=>ofR (Z k)) a b,?_⟩
  conv=>whnf
  exact⟨rfl,subRowG e fun _ _ _ _=>rfl⟩
end Rf
end Go.Proofs.YtkmbnldginonbaaGreat
/- The document's matrices: rows. -/
namespace Go.Proofs.YtkmbnldginonbaaGreat
open Go.RowKit
abbrev matL (n m:Nat) (G:Nat->Nat->Rat):List Cell:=[.int .i64 n,.int .i64 m,.row 4 (n*m) (qlF fun k=>ofR (G (k / m) (k%m)))]
abbrev rmat (n m:Nat) (q:Nat->RawR):List Cell:=[.int .i64 n,.int .i64 m,ql (n*m) q]
namespace Rf
abbrev rowsC (n m:Nat) (G:Nat->Nat->Rat):Cell := .row 1 n fun i _=>nql m (G i)
theorem mat_idx {n m i j:Nat} (hi:i<n) (hj:j<m):i*m+j<n*m/\(i*m+j) / m=i/\(i*m+j)%m=j:=by
 have h1:(i+1)*m≤n*m:=Nat.mul_le_mul_right _ hi
 rw[Nat.add_mul]at h1
 refine⟨by omega,?_,?_⟩
 ·rw[Nat.mul_comm,Nat.mul_add_div (by omega),Nat.div_eq_of_lt hj,Nat.add_zero]
 ·rw[Nat.mul_comm,Nat.mul_add_mod,Nat.mod_eq_of_lt hj]
theorem val_mat {n m:Nat} {G:Nat->Nat->Rat} (i j:Nat) (hi:i<n) (hj:j<m):(ofR (G ((i*m+j) / m) ((i*m+j)%m))).val=G i j:=by
 obtain⟨_,e2,e3⟩:=mat_idx hi hj
 rw[ofR_val,e2,e3]
end Rf
end Go.Proofs.YtkmbnldginonbaaGreat
/- The document's matrices: a list times a matrix; a matrix of rows; products. -/
namespace Go.Proofs.YtkmbnldginonbaaGreat
open Go.RowKit
namespace Rf
abbrev sumR (x:Nat->Rat) (G:Nat->Nat->Rat) (i j:Nat):Rat:=Q.su (fun a=>x a*G a j) i
theorem mat_next {n m i j:Nat} (G:Nat->Nat->Rat) (hj:j<m) (hi:i<n):nq (G ((i*m+j) / m) ((i*m+j)%m))=nq (G i j):=by
 obtain⟨_,e2,e3⟩:=mat_idx hi hj
 rw[e2,e3]
end Rf
end Go.Proofs.YtkmbnldginonbaaGreat
/- The document's product of matrices. -/
namespace Go.Proofs.YtkmbnldginonbaaGreat
open Go.RowKit
namespace Rf
end Rf
end Go.Proofs.YtkmbnldginonbaaGreat
/- Lists and matrices are the same as themselves. -/
namespace Go.Proofs.YtkmbnldginonbaaGreat
open Go.RowKit
namespace Rf
theorem sameRat_n {x:Rat} (h:qlen x≤524286):FnOK Tryz.prog false 68 [.g (nq x),.g (nq x)] (.c (.bool true)):=by
 have h1:=lenZ h
 have s1:=sameInt_n x.num (by omega)
 have s2:=sameInt_n (x.den:Int) (by omega)
 refine fn_ok (E:=E0) E0_ok Tryz.func68 rfl mixed (by kernel_rfl) (by kernel_rfl) ?_
 conv=>whnf
 refine⟨_,s1,?_⟩
 conv=>whnf
 refine⟨_,s2,?_⟩
 conv=>whnf
 exact⟨rfl,Sub.refl _⟩
theorem sameRats_n {n:Nat} {v:Nat->Rat} (hn:n≤4096) (h:∀ i,i<n->qlen (v i)≤524286):FnOK Tryz.prog false 21 [.c (nql n v),.c (nql n v)] (.c (.bool true)):=by
 have s1:=fun i hi=>sameRat_n (h i hi)
 clear h
 refine fn_ok (E:=E0) E0_ok Tryz.func21 rfl mixed (by kernel_rfl) (by kernel_rfl) ?_
 conv=>whnf
 refine bneg (show(!decide ((n:Int)=n))=false by simp) ?_
 conv=>whnf
 refine loop_ints (fun i:Nat=>gst [(0,.c (nql n v)),(1,.c (nql n v)),(5,.c (.int .i64 i))] []) (fun i=>n-i) (fun i=>i≤n) 0 rfl (Weak.gen [] rfl trivial ⟨.inl ⟨_,_,rfl,rfl,fun _ _ _ _=>rfl⟩,.inl ⟨_,_,rfl,rfl,fun _ _ _ _=>rfl⟩,⟨_,rfl,rfl⟩,trivial⟩) (Nat.zero_le _) fun i hi=>?_
 have s1:=s1 i
 conv=>whnf
 refine bcase (fun(h:decide ((i:Int)<n)=true)=>?_) fun(h:decide ((i:Int)<n)=false)=>?_
 ·have h:=of_decide_eq_true h
  have s1:=s1 (by omega)
  conv=>whnf
  refine⟨by omega,by omega,?_⟩
  conv=>whnf
  refine⟨by omega,by omega,?_⟩
  conv=>whnf
  refine⟨_,s1,?_⟩
  conv=>whnf
  refine⟨i64 (by omega) (by omega),?_⟩
  conv=>whnf
  exact⟨i+1,by omega,Weak.gen [] rfl trivial ⟨.inl ⟨_,_,rfl,rfl,fun _ _ _ _=>rfl⟩,.inl ⟨_,_,rfl,rfl,fun _ _ _ _=>rfl⟩,⟨_,rfl,rfl⟩,trivial⟩,by omega⟩
 ·conv=>whnf
  exact⟨rfl,Sub.refl _⟩
theorem sameMat_n {n m:Nat} {G:Nat->Nat->Rat} (hn:n≤64) (hm:m≤64) (h:∀ i j,i<n->j<m->qlen (G i j)≤524286):FnOK Tryz.prog false 18 [.g (matL n m G),.g (matL n m G)] (.c (.bool true)):=by
 have s:=sameRats_n (n:=n*m) (v:=fun k=>G (k / m) (k%m)) (Nat.le_trans (Nat.mul_le_mul hn hm) (by decide)) fun i hi=>by
  have h0:0<m:=Nat.pos_of_ne_zero fun e=>by rw[e,Nat.mul_zero]at hi;omega
  exact h _ _ (Nat.div_lt_of_lt_mul (by rw[Nat.mul_comm];exact hi)) (Nat.mod_lt _ h0)
 refine fn_ok (E:=E0) E0_ok Tryz.func18 rfl mixed (by kernel_rfl) (by kernel_rfl) ?_
 conv=>whnf
 refine bpos (gw_true.2 (show decide ((n:Int)=n)=true by simp)) ?_
 conv=>whnf
 refine bpos (gw_true.2 (show decide ((m:Int)=m)=true by simp)) ?_
 conv=>whnf
 refine⟨_,s,?_⟩
 conv=>whnf
 exact⟨rfl,Sub.refl _⟩
end Rf
end Go.Proofs.YtkmbnldginonbaaGreat
/- Rows of fractions: zeros, normal forms. -/
set_option maxHeartbeats 4000000
namespace Go.Proofs.YtkmbnldginonbaaGreat
open Go.RowKit
def rows (sz n:Nat) (g:Nat->List Cell):V := .c (.row sz n fun i j=>(g i).getD j .any)
theorem SubC.row {sz n:Nat} {f f':Nat->Nat->Cell} (h:∀ i j,i<n->j<sz->f i j=f' i j):SubC (.row sz n f) (.row sz n f'):=by
  rintro D w v ⟨A,c,rfl,h1,h3⟩
  refine⟨A,c,rfl,h1,fun hn=>?_⟩
  obtain⟨b,o,hA,hb,hD,hc⟩:=h3 hn
  refine⟨b,o,hA,hb,hD,fun i j hi hj=>?_⟩
  rw[← h i j hi hj]
  exact hc i j hi hj
theorem Sub.row {sz n n':Nat} {f f':Nat->Nat->Cell} (hn:n=n') (h:∀ i j,i<n->j<sz->f i j=f' i j):Sub (.c (.row sz n f)) (.c (.row sz n' f')):=by
  subst hn
  exact fun D w v hv=>SubC.row h D w v hv
theorem rr_clos (q:RawR) (j:Nat) (h:j<4):((rr q).getD j .any).clos=true:=by
  match j,h with
  | 0,_=>rfl
  | 1,_=>rfl
  | 2,_=>rfl
  | 3,_=>rfl
theorem qof0:FnOK Tryz.prog true 45 [.c (.int .i64 0)] (.g (nq 0)):=qof_ok (n:=0) (by omega) (by omega)
theorem i64_range {n:Int} (h1 : -9223372036854775808≤n) (h2:n<9223372036854775808):inR .i64 n:=⟨h1,h2⟩
theorem clos_lt : ∀ {c : Cell} {m : Nat}, c.clos = true → c.lt m = true
  | .cl _ _ _,_,h=>by
    simp only[Cell.clos,Cell.lt,List.all_eq_true,List.mem_range]at h ⊢
    exact fun j hj=>clos_lt (h j hj)
  | .any,_,_=>rfl
  | .bool _,_,_=>rfl
  | .int _ _,_,_=>rfl
  | .nil,_,_=>rfl
  | .row _ _ _,_,_=>rfl
  | .xp _ _,_,_=>rfl
  | .fn _,_,_=>rfl
  | .str _,_,_=>rfl
  | .p ..,_,h=>by simp[Cell.clos]at h
  | .gs ..,_,h=>by simp[Cell.clos]at h
  | .sl ..,_,h=>by simp[Cell.clos]at h
theorem zeroF_clos {l:List Cell} (h:l.all Cell.clos=true) (i j:Nat) (hj:j<l.length):(zeroF l i j).clos=true:=by
  show(l.getD j .any).clos=true
  simp only[List.getD,List.getElem?_eq_getElem hj,Option.getD_some]
  exact List.all_eq_true.1 h _ (List.getElem_mem hj)
structure Filled (n i : Nat) (g : Nat → List Cell) (f : Nat → Nat → Cell) : Prop where
  done:∀ i' j,i'<i->j<4->f i' j=(g i').getD j .any
  clos:∀ i' j,i'<n->j<4->(f i' j).clos=true
theorem Filled.step {n i:Nat} {g:Nat->List Cell} {f:Nat->Nat->Cell} (h:Filled n i g f) {q:RawR} (hq:g i=rr q):Filled n (i+1) g (updF f i 0 (rr q)):=by
  constructor
  · intro i' j hi hj
    unfold updF
    by_cases e:i'=i
    · subst e
      rw[if_pos ⟨rfl,Nat.zero_le _,by simpa [rr] using hj⟩,hq];rfl
    · rw[if_neg (fun h=>e h.1)];exact h.done i' j (by omega) hj
  · intro i' j hi hj
    unfold updF
    split
    · exact rr_clos q _ (by omega)
    · exact h.clos i' j hi hj
end Go.Proofs.YtkmbnldginonbaaGreat
/- Rows that are written: combine; vectors times rows. -/
namespace Go.Proofs.YtkmbnldginonbaaGreat
open Go.RowKit
def qrow (n:Nat) (A:Nat->Rat):Cell := .row 4 n fun i j=>(nq (A i)).getD j .any
def qblk (n:Nat) (A:Nat->Rat):Blk:=⟨38,4,n,0,0,fun i j=>(nq (A i)).getD j .any⟩
theorem qblk_plain (n:Nat) (A:Nat->Rat):(qblk n A).plain:=fun _ _ _ _ hj=>rr_clos _ _ hj
def QS:Nat:=274877906944
theorem nonzero_ok {q:RawR} {L:Nat} (h:q.Fit L) (hL:L+3≤LIM):FnOK Tryz.prog true 154 [.g (rr q)] (.c (.bool (decide (q.val≠0)))):=by
  refine fn_ok (E:=E1) E1_ok Tryz.func154 rfl mixed (by kernel_rfl) (by kernel_rfl) ?_
  conv=>whnf
  refine⟨_,qsign_ok (q:=q) h hL,?_⟩
  conv=>whnf
  refine⟨rfl,Sub.bool ?_⟩
  show(!decide (q.val.num.sign=0))=decide (q.val≠0)
  by_cases e:q.val=0
  · simp[e]
  · have:¬ q.val.num.sign=0:=fun h=>e ((rat_sign_zero _).1 h)
    simp[e]
theorem QS_lim:3*QS+16≤LIM:=by decide
theorem qlen_mul {x y:Rat} {L L':Nat} (hx:qlen x≤L) (hy:qlen y≤L') (h1:1≤L+L'):qlen (x*y)≤L+L':=by
  have e:x*y=ratio (x.num*y.num) ((x.den:Int)*(y.den:Int)):=by
    rw[← ratio_mul,ratio_num_den,ratio_num_den]
  rw[e]
  unfold qlen at hx hy
  have a1:=zlen_mul x.num y.num
  have a2:=zlen_mul (x.den:Int) (y.den:Int)
  exact qlen_ratio (by omega) (by omega) h1
theorem upd_alike {n i:Nat} {A A':Nat->Rat} {y:Rat} (h1:A' i=y) (h2:∀ i',i'<n->i'≠i->A' i'=A i'):Blk.alike ⟨38,4,n,0,0,updF (qblk n A).f i 0 (nq y)⟩ (qblk n A'):=by
  refine⟨rfl,fun i' j hi hj=>?_⟩
  show updF (qblk n A).f i 0 (nq y) i' j=(nq (A' i')).getD j .any
  unfold updF
  by_cases e:i'=i
  · subst e
    rw[if_pos ⟨rfl,Nat.zero_le _,by simpa [rr] using hj⟩,h1];rfl
  · rw[if_neg (fun h=>e h.1),h2 i' hi e];rfl
theorem mid_alike {n:Nat} {A A':Nat->Rat} (h2:∀ i',i'<n->A' i'=A i'):Blk.alike (qblk n A) (qblk n A'):=by
  refine⟨rfl,fun i' j hi hj=>?_⟩
  show(nq (A i')).getD j .any=(nq (A' i')).getD j .any
  rw[h2 i' hi]
def mid (A Bv:Nat->Rat) (x:Rat) (i i':Nat):Rat:=if i'<i then A i'+x*Bv i' else A i'
theorem mid_self {A Bv:Nat->Rat} {x:Rat} {i:Nat}:mid A Bv x i i=A i:=by simp[mid]
theorem mid_succ {A Bv:Nat->Rat} {x:Rat} {i:Nat}:mid A Bv x (i+1) i=A i+x*Bv i:=by simp[mid]
theorem mid_ne {A Bv:Nat->Rat} {x:Rat} {i i':Nat} (h:i'≠i):mid A Bv x (i+1) i'=mid A Bv x i i':=by
  unfold mid
  by_cases e:i'<i
  · rw[if_pos e,if_pos (by omega)]
  · rw[if_neg e,if_neg (by omega)]
theorem qblk_lt (n m:Nat) (A:Nat->Rat) (i j:Nat) (hj:j<4):((qblk n A).f i j).lt m=true:=clos_lt (rr_clos _ _ hj)
theorem box_lt (q:RawR) (m i j:Nat) (hj:j<4):(boxF (rr q) i j).lt m=true:=clos_lt (rr_clos _ _ hj)
theorem upd_clos {n i:Nat} {A:Nat->Rat} {y:Rat} (i' j:Nat) (hj:j<4):(updF (qblk n A).f i 0 (nq y) i' j).clos=true:=by
  unfold updF
  split
  · exact rr_clos _ _ (by omega)
  · exact rr_clos _ _ hj
theorem combine_m {n : Nat} {A Bv : Nat → Rat} {x : Rat} (hn : n ≤ 1048576) (hA : ∀ i, i < n → qlen (A i) ≤ QS) (hB : ∀ i, i < n → qlen (Bv i) ≤ QS) (hx : qlen x ≤ QS) :
    FnM Tryz.prog true 155 (qblk n A) [.c (.gs 0 0),.c (qrow n Bv),.g (nq x),.c (.int .i64 0)] (.c .any) (qblk n fun i=>A i+x*Bv i) []:=by
  have hQ:=QS_lim
  have hQ1:1≤QS:=by decide
  refine fnm_ok (E:=E1m) E1m_ok Tryz.func155 rfl mixed (by kernel_rfl) (by kernel_rfl) rfl ?_
  conv=>whnf
  refine loop_inv (fun k σ=>∃ i:Nat,k=n-i/\i≤n/\σ=⟨asg [(0,.c (.gs 0 0)),(1,.c (qrow n Bv)),(6,.c (.p 1 0 4 0 0)),(8,.c (.int .i64 i))],[qblk n (mid A Bv x i),⟨38,4,1,0,0,boxF (nq x)⟩]⟩) n ?_ ?_
  · refine⟨_,Weak.cut (tl:=[(0,.c (.gs 0 0)),(1,.c (qrow n Bv)),(6,.c (.p 1 0 4 0 0)),(8,.c (.int .i64 0))]) (bl':=[qblk n (mid A Bv x 0),⟨38,4,1,0,0,boxF (nq x)⟩]) rfl ⟨rfl,rfl,rfl,rfl,trivial⟩ rfl ⟨fun _ i j _ hj=>qblk_lt _ _ _ i j hj,fun _ i j _ hj=>box_lt _ _ i j hj,trivial⟩ rfl,0,rfl,by omega,rfl⟩
  · rintro k σ' ⟨i,hk,hi,rfl⟩
    conv=>whnf
    refine bcase (fun(h:decide ((i:Int)<n)=true)=>?_) fun(h:decide ((i:Int)<n)=false)=>?_
    · have h:=of_decide_eq_true h
      have hin:i<n:=by omega
      conv=>whnf
      refine⟨by omega,by show((i:Nat):Int)<(n:Int);omega,?_⟩
      conv=>whnf
      refine⟨_,nonzero_ok (q:=ofR (Bv i)) (ofR_fit (hB i hin)) (by omega),?_⟩
      conv=>whnf
      refine bcase (fun(h2:decide ((ofR (Bv i)).val≠0)=true)=>?_) fun(h2:decide ((ofR (Bv i)).val≠0)=false)=>?_
      · conv=>whnf
        refine⟨by omega,by show((i:Nat):Int)<(n:Int);omega,?_⟩
        conv=>whnf
        refine⟨by omega,by show((i:Nat):Int)<(n:Int);omega,?_⟩
        conv=>whnf
        refine⟨_,qmul_ok (q:=ofR x) (p:=ofR (Bv i)) (ofR_fit hx) (ofR_fit (hB i hin)) (by omega),?_⟩
        conv=>whnf
        refine⟨_,qadd_ok (q:=ofR (mid A Bv x i i)) (p:=ofR ((ofR x).val*(ofR (Bv i)).val)) (ofR_fit (L:=QS) (by rw[mid_self];exact hA i hin)) (ofR_fit (L:=QS+QS) (by rw[ofR_val,ofR_val];exact qlen_mul hx (hB i hin) (by omega))) (by omega),?_⟩
        conv=>whnf
        refine⟨by omega,by show((i:Nat):Int)<(n:Int);omega,?_⟩
        conv=>whnf
        refine⟨i64_range (by omega) (by omega),?_⟩
        conv=>whnf
        refine⟨n-(i+1),by omega,_,(Weak.cut (tl:=[(0,.c (.gs 0 0)),(1,.c (qrow n Bv)),(6,.c (.p 1 0 4 0 0)),(8,.c (.int .i64 (i+1:Nat)))]) (bl':=[⟨38,4,n,0,0,updF (qblk n (mid A Bv x i)).f i 0 (nq ((ofR (mid A Bv x i i)).val+(ofR ((ofR x).val*(ofR (Bv i)).val)).val))⟩,⟨38,4,1,0,0,boxF (nq x)⟩]) rfl ⟨rfl,rfl,rfl,rfl,trivial⟩ rfl ⟨fun _ i' j _ hj=>clos_lt (upd_clos i' j hj),fun _ i j _ hj=>box_lt _ _ i j hj,trivial⟩ rfl).trans (Weak.alike (bl':=[qblk n (mid A Bv x (i+1)),_]) ⟨upd_alike (by rw[ofR_val,ofR_val,ofR_val,ofR_val,mid_self,mid_succ]) fun i' _ he=>mid_ne he,Blk.alike.refl _,trivial⟩),i+1,rfl,by omega,rfl⟩
      · have h2:Bv i=0:=by have:=of_decide_eq_false h2;rw[ofR_val]at this;exact Decidable.not_not.1 this
        conv=>whnf
        refine⟨i64_range (by omega) (by omega),?_⟩
        conv=>whnf
        refine⟨n-(i+1),by omega,_,(Weak.cut (tl:=[(0,.c (.gs 0 0)),(1,.c (qrow n Bv)),(6,.c (.p 1 0 4 0 0)),(8,.c (.int .i64 (i+1:Nat)))]) (bl':=[qblk n (mid A Bv x i),⟨38,4,1,0,0,boxF (nq x)⟩]) rfl ⟨rfl,rfl,rfl,rfl,trivial⟩ rfl ⟨fun _ i j _ hj=>qblk_lt _ _ _ i j hj,fun _ i j _ hj=>box_lt _ _ i j hj,trivial⟩ rfl).trans (Weak.alike (bl':=[qblk n (mid A Bv x (i+1)),_]) ⟨mid_alike fun i' _=>?_,Blk.alike.refl _,trivial⟩),i+1,rfl,by omega,rfl⟩
        by_cases e:i'=i
        · subst e;rw[mid_self,mid_succ,h2,Rat.mul_zero,Rat.add_zero]
        · exact mid_ne e
    · have h:=of_decide_eq_false h
      obtain rfl:i=n:=by omega
      conv=>whnf
      exact(Weak.cut (m0:=1) (tl:=[(0,.c .any)]) (bl':=[qblk i (mid A Bv x i)]) rfl ⟨rfl,trivial⟩ rfl ⟨fun _ i j _ hj=>qblk_lt _ _ _ i j hj,trivial⟩ rfl).trans (Weak.alike (bl':=[qblk i fun i=>A i+x*Bv i]) ⟨mid_alike fun i' hi'=>by unfold mid;rw[if_pos hi'],trivial⟩)
theorem zeros_m {n:Nat} (hn:n≤1048576):FnM Tryz.prog true 151 phB [.c (.int .i64 n)] (.c (.gs 1 0)) phB [qblk n fun _=>0]:=by
  refine fnm_ok (E:=E1m) E1m_ok Tryz.func151 rfl mixed (by kernel_rfl) (by kernel_rfl) rfl ?_
  conv=>whnf
  refine⟨by omega,by omega,by omega,by show((64:Nat):Int)*(n:Int)≤_;omega,?_⟩
  conv=>whnf
  refine loop_inv (fun k σ=>∃(i:Nat) (f:Nat->Nat->Cell),k=n-i/\i≤n/\Filled n i (fun _=>nq 0) f/\σ=⟨asg [(3,.c (.gs 1 0)),(8,.c (.int .i64 n)),(9,.c (.int .i64 i))],[phB,⟨38,4,n,0,0,f⟩]⟩) n ?_ ?_
  · have hz:=zeroF_clos (l:=[.bool false,.nil,.bool false,.nil]) rfl
    refine⟨_,Weak.cut (tl:=[(3,.c (.gs 1 0)),(8,.c (.int .i64 n)),(9,.c (.int .i64 0))]) (bl':=[phB,⟨38,4,n,0,0,_⟩]) rfl ⟨rfl,rfl,rfl,trivial⟩ rfl ⟨fun h=>absurd h (by decide),fun _ i j _ hj=>clos_lt (hz i j hj),trivial⟩ rfl,0,_,rfl,by omega,⟨fun i' j h=>by omega,fun i j _ hj=>hz i j hj⟩,rfl⟩
  · rintro k σ' ⟨i,f,hk,hi,hf,rfl⟩
    conv=>whnf
    refine bcase (fun(h:decide ((i:Int)<n)=true)=>?_) fun(h:decide ((i:Int)<n)=false)=>?_
    · have h:=of_decide_eq_true h
      conv=>whnf
      refine⟨_,qof0,?_⟩
      conv=>whnf
      refine⟨by omega,by show((i:Nat):Int)<(n:Int);omega,?_⟩
      conv=>whnf
      refine⟨i64_range (by omega) (by omega),?_⟩
      conv=>whnf
      have hf':=hf.step (q:=ofR 0) rfl
      refine⟨n-(i+1),by omega,_,Weak.cut (tl:=[(3,.c (.gs 1 0)),(8,.c (.int .i64 n)),(9,.c (.int .i64 (i+1:Nat)))]) (bl':=[phB,⟨38,4,n,0,0,_⟩]) rfl ⟨rfl,rfl,rfl,trivial⟩ rfl ⟨fun h=>absurd h (by decide),fun _ i j hi hj=>clos_lt (hf'.clos i j hi hj),trivial⟩ rfl,i+1,_,rfl,by omega,hf',rfl⟩
    · have h:=of_decide_eq_false h
      obtain rfl:i=n:=by omega
      conv=>whnf
      exact(Weak.cut (m0:=1) (tl:=[(0,.c (.gs 1 0))]) (bl':=[phB,⟨38,4,i,0,0,f⟩]) rfl ⟨rfl,trivial⟩ rfl ⟨fun h=>absurd h (by decide),fun _ i j hi hj=>clos_lt (hf.clos i j hi hj),trivial⟩ rfl).trans (Weak.alike (bl':=[phB,qblk i fun _=>0]) ⟨Blk.alike.refl _,⟨rfl,fun i' j hi hj=>hf.done i' j hi hj⟩,trivial⟩)
def rowSum (X : Nat → Rat) (G : Nat → Nat → Rat) : Nat → Nat → Rat
  | 0,_=>0
  | i+1,j=>rowSum X G i j+X i*G i j
theorem times_ok {n m : Nat} {X : Nat → Rat} {G : Nat → Nat → Rat} (hn : n ≤ 1048576) (hm : m ≤ 1048576) (hX : ∀ i, i < n → qlen (X i) ≤ QS) (hG : ∀ i j, i < n → j < m → qlen (G i j) ≤ QS) (hS : ∀ i j, i < n → j < m → qlen (rowSum X G i j) ≤ QS) :
    FnOK Tryz.prog true 120 [.c (qrow n X),.c (.row 1 n fun i _=>qrow m (G i)),.c (.int .i64 m)] (.c (qrow m (rowSum X G n))):=by
  have hQ:=QS_lim
  refine fn_ok (E:=E1) E1_ok Tryz.func120 rfl mixed (by kernel_rfl) (by kernel_rfl) ?_
  conv=>whnf
  refine .inl ⟨[],true,?_⟩
  conv=>whnf
  refine⟨0,phB,[.c (.int .i64 m)],_,_,_,zeros_m hm,rfl,.inr (Nat.le_refl 2),fun h=>absurd h (by decide),fun h=>absurd h (by decide),fun F hF=>?_,rfl,rfl,?_⟩
  · simp at hF;subst hF;exact qblk_plain _ _
  conv=>whnf
  refine loop_inv (fun k σ=>∃ i:Nat,k=n-i/\i≤n/\σ=⟨asg [(0,.c (qrow n X)),(1,.c (.row 1 n fun i _=>qrow m (G i))),(7,.c (.gs 1 0)),(12,.c (.int .i64 n)),(13,.c (.int .i64 i))],[phB,qblk m (rowSum X G i)]⟩) n ?_ ?_
  · refine⟨_,Weak.cut (tl:=[(0,.c (qrow n X)),(1,.c (.row 1 n fun i _=>qrow m (G i))),(7,.c (.gs 1 0)),(12,.c (.int .i64 n)),(13,.c (.int .i64 0))]) (bl':=[phB,qblk m (rowSum X G 0)]) rfl ⟨rfl,rfl,rfl,rfl,rfl,trivial⟩ rfl ⟨fun h=>absurd h (by decide),fun _ i j _ hj=>qblk_lt _ _ _ i j hj,trivial⟩ rfl,0,rfl,by omega,rfl⟩
  · rintro k σ' ⟨i,hk,hi,rfl⟩
    conv=>whnf
    refine bcase (fun(h:decide ((i:Int)<n)=true)=>?_) fun(h:decide ((i:Int)<n)=false)=>?_
    · have h:=of_decide_eq_true h
      have hin:i<n:=by omega
      conv=>whnf
      refine⟨by omega,by show((i:Nat):Int)<(n:Int);omega,?_⟩
      conv=>whnf
      refine⟨_,nonzero_ok (q:=ofR (X i)) (ofR_fit (hX i hin)) (by omega),?_⟩
      conv=>whnf
      refine bcase (fun(h2:decide ((ofR (X i)).val≠0)=true)=>?_) fun(h2:decide ((ofR (X i)).val≠0)=false)=>?_
      · conv=>whnf
        refine⟨by omega,by show((i:Nat):Int)<(n:Int);omega,?_⟩
        conv=>whnf
        refine⟨by omega,by show((i:Nat):Int)<(n:Int);omega,?_⟩
        conv=>whnf
        refine⟨1,qblk m (rowSum X G i),[.c (.gs 0 0),.c (qrow m (G i)),.g (nq (X i)),.c (.int .i64 0)],.c .any,_,combine_m hm (hS i · hin) (hG i · hin) (hX i hin),rfl,rfl,qblk_plain _ _,qblk_plain _ _,rfl,rfl,rfl,⟨_,List.Mem.head _,rfl⟩,rfl,rfl,?_⟩
        conv=>whnf
        refine⟨i64_range (by omega) (by omega),?_⟩
        conv=>whnf
        refine⟨n-(i+1),by omega,_,Weak.cut (tl:=[(0,.c (qrow n X)),(1,.c (.row 1 n fun i _=>qrow m (G i))),(7,.c (.gs 1 0)),(12,.c (.int .i64 n)),(13,.c (.int .i64 (i+1:Nat)))]) (bl':=[phB,qblk m (rowSum X G (i+1))]) rfl ⟨rfl,rfl,rfl,rfl,rfl,trivial⟩ rfl ⟨fun h=>absurd h (by decide),fun _ i j _ hj=>qblk_lt _ _ _ i j hj,trivial⟩ rfl,i+1,rfl,by omega,rfl⟩
      · have h2:X i=0:=by have:=of_decide_eq_false h2;rw[ofR_val]at this;exact Decidable.not_not.1 this
        conv=>whnf
        refine⟨i64_range (by omega) (by omega),?_⟩
        conv=>whnf
        refine⟨n-(i+1),by omega,_,(Weak.cut (tl:=[(0,.c (qrow n X)),(1,.c (.row 1 n fun i _=>qrow m (G i))),(7,.c (.gs 1 0)),(12,.c (.int .i64 n)),(13,.c (.int .i64 (i+1:Nat)))]) (bl':=[phB,qblk m (rowSum X G i)]) rfl ⟨rfl,rfl,rfl,rfl,rfl,trivial⟩ rfl ⟨fun h=>absurd h (by decide),fun _ i j _ hj=>qblk_lt _ _ _ i j hj,trivial⟩ rfl).trans (Weak.alike (bl':=[phB,qblk m (rowSum X G (i+1))]) ⟨Blk.alike.refl _,mid_alike fun j _=>?_,trivial⟩),i+1,rfl,by omega,rfl⟩
        show rowSum X G i j+X i*G i j=rowSum X G i j
        rw[h2,Rat.zero_mul,Rat.add_zero]
    · have h:=of_decide_eq_false h
      obtain rfl:i=n:=by omega
      conv=>whnf
      refine⟨fun i' j _ hj=>rr_clos _ _ hj,?_⟩
      conv=>whnf
      exact⟨rfl,Sub.refl _⟩
end Go.Proofs.YtkmbnldginonbaaGreat
/- Matrices: rows put one behind the other. -/
namespace Go.Proofs.YtkmbnldginonbaaGreat
open Go.RowKit
def flat (m:Nat) (G:Nat->Nat->Rat) (x:Nat):Rat:=G (x / m) (x%m)
def qmat (n m:Nat) (G:Nat->Nat->Rat):V := .g [.int .i64 n,.int .i64 m,qrow (n*m) (flat m G)]
def qblkU (u n:Nat) (A:Nat->Rat):Blk:=⟨38,4,n,u,0,fun i j=>(nq (A i)).getD j .any⟩
theorem rr_one (bl:List Blk) (q:RawR) (j:Nat) (h:j<4):St.one bl ((rr q).getD j .any)=true:=by
  match j,h with
  | 0,_=>rfl
  | 1,_=>rfl
  | 2,_=>rfl
  | 3,_=>rfl
theorem rr_noU (q:RawR) (j:Nat) (h:j<4):((rr q).getD j .any).noU=true:=by
  match j,h with
  | 0,_=>rfl
  | 1,_=>rfl
  | 2,_=>rfl
  | 3,_=>rfl
theorem flat_app {i m u:Nat} {G:Nat->Nat->Rat}:Blk.alike ⟨38,4,i*m+m,u,0,appF (i*m) (qblkU u (i*m) (flat m G)).f fun a b=>(nq (G i a)).getD b .any⟩ (qblkU u ((i+1)*m) (flat m G)):=by
  have e:i*m+m=(i+1)*m:=by rw[Nat.succ_mul]
  refine⟨by unfold qblkU;rw[e],fun x j hx hj=>?_⟩
  have hx:x<i*m+m:=hx
  show appF (i*m) (qblkU u (i*m) (flat m G)).f (fun a b=>(nq (G i a)).getD b .any) x j=(nq (flat m G x)).getD j .any
  unfold appF
  by_cases h:x<i*m
  · rw[if_pos h];rfl
  · rw[if_neg h]
    obtain⟨d,rfl⟩:=Nat.exists_eq_add_of_le (show i*m≤x by omega)
    have hm:0<m:=by omega
    have q1:(i*m+d) / m=i:=by rw[Nat.mul_comm,Nat.mul_add_div hm,Nat.div_eq_of_lt (by omega)];rfl
    have q2:(i*m+d)%m=d:=by rw[Nat.mul_comm,Nat.mul_add_mod,Nat.mod_eq_of_lt (by omega)]
    unfold flat
    rw[q1,q2,Nat.add_sub_cancel_left]
theorem store_ok {n m:Nat} {G:Nat->Nat->Rat} (hn:n≤1024) (hm:m≤1024):FnOK Tryz.prog true 108 [.c (.int .i64 m),.c (.row 1 n fun i _=>qrow m (G i))] (qmat n m G):=by
  refine fn_ok (E:=E1) E1_ok Tryz.func108 rfl mixed (by kernel_rfl) (by kernel_rfl) ?_
  conv=>whnf
  refine loop_inv (fun k σ=>∃ i:Nat,k=n-i/\i≤n/\σ=⟨asg [(4,.c (.p 0 0 3 0 0)),(5,.c (.p 1 0 3 0 0)),(12,.c (.row 1 n fun i _=>qrow m (G i))),(13,.c (.int .i64 n)),(14,.c (.int .i64 i))],[⟨24,3,1,0,0,boxF [.int .i64 0,.int .i64 0,.nil]⟩,⟨24,3,1,0,0,boxF [.int .i64 n,.int .i64 m,.gs 2 0]⟩,qblkU 0 (i*m) (flat m G)]⟩) n ?_ ?_
  · refine⟨_,(Weak.cut (tl:=[(4,.c (.p 0 0 3 0 0)),(5,.c (.p 1 0 3 0 0)),(12,.c (.row 1 n fun i _=>qrow m (G i))),(13,.c (.int .i64 n)),(14,.c (.int .i64 0))]) (bl':=[⟨24,3,1,0,0,boxF [.int .i64 0,.int .i64 0,.nil]⟩,⟨24,3,1,0,0,updF (boxF [.int .i64 0,.int .i64 0,.nil]) 0 0 [.int .i64 n,.int .i64 m,.nil]⟩]) rfl ⟨rfl,rfl,rfl,rfl,rfl,trivial⟩ rfl ⟨fun _ i j _ hj=>?_,fun _ i j (hi:i<1) hj=>?_,trivial⟩ rfl).trans ((Weak.nil (tm:=asg [(4,.c (.p 0 0 3 0 0)),(5,.c (.p 1 0 3 0 0)),(12,.c (.row 1 n fun i _=>qrow m (G i))),(13,.c (.int .i64 n)),(14,.c (.int .i64 0))]) (bl:=[⟨24,3,1,0,0,boxF [.int .i64 0,.int .i64 0,.nil]⟩,⟨24,3,1,0,0,updF (boxF [.int .i64 0,.int .i64 0,.nil]) 0 0 [.int .i64 n,.int .i64 m,.nil]⟩]) (tm':=asg [(4,.c (.p 0 0 3 0 0)),(5,.c (.p 1 0 3 0 0)),(12,.c (.row 1 n fun i _=>qrow m (G i))),(13,.c (.int .i64 n)),(14,.c (.int .i64 0))]) (bl':=[⟨24,3,1,0,0,boxF [.int .i64 0,.int .i64 0,.nil]⟩,⟨24,3,1,0,0,boxF [.int .i64 n,.int .i64 m,.gs 2 0]⟩]) 38 4 ⟨Blk.nilLike.refl _ _,⟨rfl,fun h=>absurd rfl h,fun i j hi hj=>?_⟩,trivial⟩ fun t => .inl rfl).trans (Weak.alike (bl':=[_,_,qblkU 0 (0*m) (flat m G)]) ⟨Blk.alike.refl _,Blk.alike.refl _,⟨by unfold qblkU;rw[Nat.zero_mul],fun i j hi hj=>?_⟩,trivial⟩)),0,rfl,by omega,rfl⟩
    · match j,hj with
      | 0,_=>rfl
      | 1,_=>rfl
      | 2,_=>rfl
    · obtain rfl:i=0:=by omega
      match j,hj with
      | 0,_=>rfl
      | 1,_=>rfl
      | 2,_=>rfl
    · obtain rfl : i = 0 := by have hi : i < 1 := hi
                               omega
      match j,hj with
      | 0,_=>exact .inl rfl
      | 1,_=>exact .inl rfl
      | 2,_=>exact .inr ⟨rfl,rfl⟩
    · have hi:i<0:=hi
      omega
  · rintro k σ' ⟨i,hk,hi,rfl⟩
    conv=>whnf
    refine bcase (fun(h:decide ((i:Int)<n)=true)=>?_) fun(h:decide ((i:Int)<n)=false)=>?_
    · have h:=of_decide_eq_true h
      have hin:i<n:=by omega
      have hle:i*m+m≤1024*1024:=by
        have:=Nat.mul_le_mul (show i+1≤1024 by omega) hm
        rw[Nat.succ_mul]at this;omega
      conv=>whnf
      refine⟨by omega,by show((i:Nat):Int)<(n:Int);omega,?_⟩
      conv=>whnf
      refine⟨by show i*m+m≤16777216;omega,fun a b _ hb=>⟨rr_one _ _ _ hb,fun _=>rr_noU _ _ hb⟩,?_⟩
      conv=>whnf
      refine⟨i64_range (by omega) (by omega),?_⟩
      conv=>whnf
      have hac:∀ a b,b<4->(appF (i*m) (qblkU 0 (i*m) (flat m G)).f (fun a b=>(nq (G i a)).getD b .any) a b).clos=true:=fun a b hb=>by
        unfold appF
        split
        · exact rr_clos _ _ hb
        · exact rr_clos _ _ hb
      refine⟨n-(i+1),by omega,_,(Weak.cut (tl:=[(4,.c (.p 0 0 3 0 0)),(5,.c (.p 1 0 3 0 0)),(12,.c (.row 1 n fun i _=>qrow m (G i))),(13,.c (.int .i64 n)),(14,.c (.int .i64 ((i+1:Nat):Int)))]) (bl':=[⟨24,3,1,0,0,boxF [.int .i64 0,.int .i64 0,.nil]⟩,⟨24,3,1,0,0,updF (boxF [.int .i64 n,.int .i64 m,.gs 2 0]) 0 2 [.gs 2 1]⟩,⟨38,4,i*m+m,1,0,appF (i*m) (qblkU 0 (i*m) (flat m G)).f fun a b=>(nq (G i a)).getD b .any⟩]) rfl ⟨rfl,rfl,rfl,rfl,rfl,trivial⟩ rfl ⟨fun _ i j _ hj=>?_,fun _ i j (hi:i<1) hj=>?_,fun _ i j _ hj=>clos_lt (hac i j hj),trivial⟩ rfl).trans ((Weak.reset (m0:=0) 2 (B:=⟨38,4,i*m+m,1,0,appF (i*m) (qblkU 0 (i*m) (flat m G)).f fun a b=>(nq (G i a)).getD b .any⟩) rfl (by show 0≤1;omega) rfl).trans ((Weak.cut (tl:=[(4,.c (.p 0 0 3 0 0)),(5,.c (.p 1 0 3 0 0)),(12,.c (.row 1 n fun i _=>qrow m (G i))),(13,.c (.int .i64 n)),(14,.c (.int .i64 ((i+1:Nat):Int)))]) (bl':=[⟨24,3,1,0,0,fun x y=>resetC 2 1 (boxF [.int .i64 0,.int .i64 0,.nil] x y)⟩,⟨24,3,1,0,0,fun x y=>resetC 2 1 (updF (boxF [.int .i64 n,.int .i64 m,.gs 2 0]) 0 2 [.gs 2 1] x y)⟩,⟨38,4,i*m+m,0,0,fun x y=>resetC 2 1 ((appF (i*m) (qblkU 0 (i*m) (flat m G)).f (fun a b=>(nq (G i a)).getD b .any)) x y)⟩]) rfl ⟨rfl,rfl,rfl,rfl,rfl,trivial⟩ rfl ⟨fun _ i j _ hj=>?_,fun _ i j (hi:i<1) hj=>?_,fun _ i j _ hj=>?_,trivial⟩ rfl).trans (Weak.alike (bl':=[⟨24,3,1,0,0,boxF [.int .i64 0,.int .i64 0,.nil]⟩,⟨24,3,1,0,0,boxF [.int .i64 n,.int .i64 m,.gs 2 0]⟩,qblkU 0 ((i+1)*m) (flat m G)]) ⟨⟨rfl,fun x y _ hy=>?_⟩,⟨rfl,fun x y (hx:x<1) hy=>?_⟩,⟨flat_app.1,fun x y hx hy=>?_⟩,trivial⟩))),i+1,rfl,by omega,rfl⟩
      · match j,hj with
        | 0,_=>rfl
        | 1,_=>rfl
        | 2,_=>rfl
      · obtain rfl:i=0:=by omega
        match j,hj with
        | 0,_=>rfl
        | 1,_=>rfl
        | 2,_=>rfl
      · match j,hj with
        | 0,_=>rfl
        | 1,_=>rfl
        | 2,_=>rfl
      · obtain rfl:i=0:=by omega
        match j,hj with
        | 0,_=>rfl
        | 1,_=>rfl
        | 2,_=>rfl
      · exact clos_lt (show(resetC 2 1 _).clos=true by rw[resetC_clos (hac i j hj)];exact hac i j hj)
      · match y,hy with
        | 0,_=>rfl
        | 1,_=>rfl
        | 2,_=>rfl
      · obtain rfl:x=0:=by omega
        match y,hy with
        | 0,_=>rfl
        | 1,_=>rfl
        | 2,_=>rfl
      · exact(resetC_clos (hac x y hy)).trans ((flat_app (u:=0)).2 x y hx hy)
    · have h:=of_decide_eq_false h
      obtain rfl:i=n:=by omega
      conv=>whnf
      refine⟨fun _ _ _ hb=>rr_clos _ _ hb,?_⟩
      conv=>whnf
      exact⟨rfl,Sub.refl _⟩
theorem fits_ok (n:Int):FnOK Tryz.prog true 107 [.c (.int .i64 n)] (.c (.bool (decide (0≤n/\n≤1024)))):=by
  refine fn_ok (E:=E1) E1_ok Tryz.func107 rfl mixed (by kernel_rfl) (by kernel_rfl) ?_
  conv=>whnf
  refine bcase (fun(h:decide (0≤n)=true)=>?_) fun(h:decide (0≤n)=false)=>?_
  · have h:=of_decide_eq_true h
    conv=>whnf
    refine⟨rfl,Sub.bool ?_⟩
    show decide (n≤1024)=decide (0≤n/\n≤1024)
    simp[h]
  · have h:=of_decide_eq_false h
    conv=>whnf
    refine⟨rfl,Sub.bool ?_⟩
    show false=decide (0≤n/\n≤1024)
    simp[h]
theorem valid_ok {r c:Int} {len:Nat} {f:Nat->Nat->Cell}:FnOK Tryz.prog true 72 [.g [.int .i64 r,.int .i64 c,.row 4 len f]] (.c (.bool (decide ((0≤r/\r≤1024)/\(0≤c/\c≤1024)/\(len:Int)=r*c)))):=by
  refine fn_ok (E:=E1) E1_ok Tryz.func72 rfl mixed (by kernel_rfl) (by kernel_rfl) ?_
  conv=>whnf
  refine⟨_,fits_ok r,?_⟩
  conv=>whnf
  refine bcase (fun(h:decide (0≤r/\r≤1024)=true)=>?_) fun(h:decide (0≤r/\r≤1024)=false)=>?_
  · have h:=of_decide_eq_true h
    conv=>whnf
    refine⟨_,fits_ok c,?_⟩
    conv=>whnf
    refine bcase (fun(h2:decide (0≤c/\c≤1024)=true)=>?_) fun(h2:decide (0≤c/\c≤1024)=false)=>?_
    · have h2:=of_decide_eq_true h2
      have hb:r*c≤1024*1024:=Int.mul_le_mul h.2 h2.2 h2.1 (by omega)
      have h0:0≤r*c:=Int.mul_nonneg h.1 h2.1
      conv=>whnf
      refine⟨i64_range (by omega) (by omega),?_⟩
      conv=>whnf
      refine⟨rfl,Sub.bool ?_⟩
      show decide ((len:Int)=r*c)=_
      simp[h,h2]
    · have h2:=of_decide_eq_false h2
      conv=>whnf
      refine⟨rfl,Sub.bool ?_⟩
      show false=_
      simp[h2]
  · have h:=of_decide_eq_false h
    conv=>whnf
    refine⟨rfl,Sub.bool ?_⟩
    show false=_
    simp[h]
end Go.Proofs.YtkmbnldginonbaaGreat
/- Package charpoly: the first errors. -/
namespace Go.Proofs.YtkmbnldginonbaaGreat
open Go.RowKit
def firstErr (r c len:Int):Int:=if((0≤r/\r≤1024)/\(0≤c/\c≤1024)/\len=r*c)/\r=c then(if r > 64 then 7 else 0)else 4
theorem check_ok {r c:Int} {len:Nat} {f:Nat->Nat->Cell}:FnOK Tryz.prog true 38 [.g [.int .i64 r,.int .i64 c,.row 4 len f]] (.c (.int .i64 (firstErr r c len))):=by
  refine fn_ok (E:=E1) E1_ok Tryz.func38 rfl mixed (by kernel_rfl) (by kernel_rfl) ?_
  conv=>whnf
  refine⟨_,valid_ok (r:=r) (c:=c) (len:=len) (f:=f),?_⟩
  conv=>whnf
  refine bcase (fun h=>?_) fun h=>?_
  · have h:(!decide ((0≤r/\r≤1024)/\(0≤c/\c≤1024)/\(len:Int)=r*c))=false:=gwf h
    have hv:(0≤r/\r≤1024)/\(0≤c/\c≤1024)/\(len:Int)=r*c:=by simpa using h
    conv=>whnf
    refine bcase (fun(h2:(!decide (r=c))=true)=>?_) fun(h2:(!decide (r=c))=false)=>?_
    · have h2:r≠c:=by simpa using h2
      conv=>whnf
      refine⟨rfl,Sub.int ?_⟩
      unfold firstErr;rw[if_neg (fun h=>h2 h.2)]
    · have h2:r=c:=by simpa using h2
      conv=>whnf
      refine bcase (fun(h3:decide (r > 64)=true)=>?_) fun(h3:decide (r > 64)=false)=>?_
      · have h3:=of_decide_eq_true h3
        conv=>whnf
        refine⟨rfl,Sub.int ?_⟩
        unfold firstErr;rw[if_pos ⟨hv,h2⟩,if_pos h3]
      · have h3:=of_decide_eq_false h3
        conv=>whnf
        refine⟨rfl,Sub.int ?_⟩
        unfold firstErr;rw[if_pos ⟨hv,h2⟩,if_neg h3]
  · have h:(!decide ((0≤r/\r≤1024)/\(0≤c/\c≤1024)/\(len:Int)=r*c))=true:=gwf' h
    have hv:¬((0≤r/\r≤1024)/\(0≤c/\c≤1024)/\(len:Int)=r*c):=by
      intro hh;rw[decide_eq_true hh]at h;cases h
    conv=>whnf
    refine⟨rfl,Sub.int ?_⟩
    unfold firstErr;rw[if_neg (fun h=>hv h.1)]
end Go.Proofs.YtkmbnldginonbaaGreat
/- Rows of rows: blank. -/
namespace Go.Proofs.YtkmbnldginonbaaGreat
open Go.RowKit
def gridF (i:Nat) (R:Nat->Cell) (x _y:Nat):Cell:=if x<i then R x else .nil
def gblk (n i:Nat) (R:Nat->Cell):Blk:=⟨22,1,n,0,0,gridF i R⟩
theorem gridF_clos {i:Nat} {R:Nat->Cell} (hR:∀ x,(R x).clos=true) (x y:Nat):(gridF i R x y).clos=true:=by
  unfold gridF;split
  · exact hR x
  · rfl
theorem gblk_clos (n m i x y:Nat):((gblk n i fun _=>qrow m fun _=>0).f x y).clos=true:=gridF_clos (i:=i) (R:=fun _=>qrow m fun _=>0) (fun _=>rfl) x y
theorem blank_ok {n m:Nat} (hn:n≤1048576) (hm:m≤1048576):FnOK Tryz.prog true 109 [.c (.int .i64 n),.c (.int .i64 m)] (.c (.row 1 n fun _ _=>qrow m fun _=>0)):=by
  refine fn_ok (E:=E1) E1_ok Tryz.func109 rfl mixed (by kernel_rfl) (by kernel_rfl) ?_
  conv=>whnf
  refine⟨by omega,by omega,by omega,by show((24:Nat):Int)*(n:Int)≤_;omega,?_⟩
  conv=>whnf
  refine loop_inv (fun k σ=>∃ i:Nat,k=n-i/\i≤n/\σ=⟨asg [(1,.c (.int .i64 m)),(5,.c (.gs 0 0)),(10,.c (.int .i64 n)),(11,.c (.int .i64 i))],[gblk n i fun _=>qrow m fun _=>0]⟩) n ?_ ?_
  · refine⟨_,(Weak.cut (tl:=[(1,.c (.int .i64 m)),(5,.c (.gs 0 0)),(10,.c (.int .i64 n)),(11,.c (.int .i64 0))]) (bl':=[⟨22,1,n,0,0,zeroF [.nil]⟩]) rfl ⟨rfl,rfl,rfl,rfl,trivial⟩ rfl ⟨fun _ i j _ hj=>?_,trivial⟩ rfl).trans (Weak.alike (bl':=[gblk n 0 fun _=>qrow m fun _=>0]) ⟨⟨rfl,fun i j _ hj=>?_⟩,trivial⟩),0,rfl,by omega,rfl⟩
    · match j,hj with
      | 0,_=>rfl
    · match j,hj with
      | 0,_=>rfl
  · rintro k σ' ⟨i,hk,hi,rfl⟩
    conv=>whnf
    refine bcase (fun(h:decide ((i:Int)<n)=true)=>?_) fun(h:decide ((i:Int)<n)=false)=>?_
    · have h:=of_decide_eq_true h
      conv=>whnf
      refine .inl ⟨[],true,?_⟩
      conv=>whnf
      refine⟨1,phB,[.c (.int .i64 m)],_,_,_,zeros_m hm,rfl,.inr (Nat.le_refl 2),fun h=>absurd h (by decide),fun h=>absurd h (by decide),fun F hF=>?_,rfl,rfl,?_⟩
      · simp at hF;subst hF;exact qblk_plain _ _
      conv=>whnf
      refine⟨by omega,by show((i:Nat):Int)<(n:Int);omega,?_⟩
      conv=>whnf
      refine⟨i64_range (by omega) (by omega),?_⟩
      conv=>whnf
      have hup:∀ x y,(updF (gblk n i fun _=>qrow m fun _=>0).f i 0 [.gs 2 0] x y).lt 3=true:=fun x y=>by
        unfold updF
        split
        · rename_i h'
          obtain rfl:y=0:=by have:=h'.2.2;simp at this;omega
          rfl
        · exact clos_lt (gblk_clos _ _ _ x y)
      refine⟨n-(i+1),by omega,_,(Weak.cut (tl:=[(1,.c (.int .i64 m)),(5,.c (.gs 0 0)),(10,.c (.int .i64 n)),(11,.c (.int .i64 ((i+1:Nat):Int)))]) (bl':=[⟨22,1,n,0,0,updF (gblk n i fun _=>qrow m fun _=>0).f i 0 [.gs 2 0]⟩,phB,qblk m fun _=>0]) rfl ⟨rfl,rfl,rfl,rfl,trivial⟩ rfl ⟨fun _ x y _ _=>hup x y,fun h=>absurd h (by decide),fun _ i j _ hj=>qblk_lt _ _ _ i j hj,trivial⟩ rfl).trans ((Weak.freeze 2 (B:=qblk m fun _=>0) rfl rfl fun x y _ hy=>rr_clos _ _ hy).trans ((Weak.close (tm:=asg [(1,.c (.int .i64 m)),(5,.c (.gs 0 0)),(10,.c (.int .i64 n)),(11,.c (.int .i64 ((i+1:Nat):Int)))]) (bl:=[⟨22,1,n,0,0,updF (gblk n i fun _=>qrow m fun _=>0).f i 0 [.gs 2 0]⟩,phB,{ (qblk m fun _=>0)with st:=1 }]) (tm':=asg [(1,.c (.int .i64 m)),(5,.c (.gs 0 0)),(10,.c (.int .i64 n)),(11,.c (.int .i64 ((i+1:Nat):Int)))]) (bl':=[gblk n (i+1) fun _=>qrow m fun _=>0,phB,{ (qblk m fun _=>0)with st:=1 }]) ⟨⟨rfl,fun h=>absurd rfl h,fun x y hx hy=>?_⟩,Blk.closed.refl _ _,Blk.closed.refl _ _,trivial⟩ fun t => .inl rfl).trans (Weak.cut (tl:=[(1,.c (.int .i64 m)),(5,.c (.gs 0 0)),(10,.c (.int .i64 n)),(11,.c (.int .i64 ((i+1:Nat):Int)))]) (bl':=[gblk n (i+1) fun _=>qrow m fun _=>0]) rfl ⟨rfl,rfl,rfl,rfl,trivial⟩ rfl ⟨fun _ x y _ _=>clos_lt (gblk_clos _ _ _ x y),trivial⟩ rfl))),i+1,rfl,by omega,rfl⟩
      have hy:y<1:=hy
      obtain rfl:y=0:=by omega
      by_cases e:x=i
      · subst e
        right
        show gridF (x+1) (fun _=>qrow m fun _=>0) x 0=St.closeC [⟨22,1,n,0,0,updF (gblk n x fun _=>qrow m fun _=>0).f x 0 [.gs 2 0]⟩,phB,{ (qblk m fun _=>0)with st:=1 }] (updF (gblk n x fun _=>qrow m fun _=>0).f x 0 [.gs 2 0] x 0)
        have e1:updF (gblk n x fun _=>qrow m fun _=>0).f x 0 [.gs 2 0] x 0 = .gs 2 0:=by unfold updF;rw[if_pos ⟨rfl,Nat.le_refl _,by simp⟩];rfl
        rw[e1]
        unfold gridF
        rw[if_pos (by omega)]
        rfl
      · left
        show gridF (i+1) (fun _=>qrow m fun _=>0) x 0=updF (gblk n i fun _=>qrow m fun _=>0).f i 0 [.gs 2 0] x 0
        unfold updF
        rw[if_neg (fun h=>e h.1)]
        show gridF (i+1) (fun _=>qrow m fun _=>0) x 0=gridF i (fun _=>qrow m fun _=>0) x 0
        unfold gridF
        by_cases e2:x<i
        · rw[if_pos e2,if_pos (by omega)]
        · rw[if_neg e2,if_neg (by omega)]
    · have h:=of_decide_eq_false h
      obtain rfl:i=n:=by omega
      conv=>whnf
      refine⟨fun x y _ _=>gblk_clos _ _ _ x y,?_⟩
      conv=>whnf
      refine⟨rfl,Sub.row rfl fun x y hx _=>?_⟩
      show gridF i (fun _=>qrow m fun _=>0) x y=qrow m fun _=>0
      have hx:x<i:=hx
      unfold gridF;rw[if_pos hx]
end Go.Proofs.YtkmbnldginonbaaGreat
/- Package matrix: New. -/
namespace Go.Proofs.YtkmbnldginonbaaGreat
open Go.RowKit
theorem new_ok {n m:Nat} (hn:n≤1024) (hm:m≤1024):FnOK Tryz.prog true 58 [.c (.int .i64 n),.c (.int .i64 m)] (.t2 (qmat n m fun _ _=>0) (.c (.int .i64 0))):=by
  refine fn_ok (E:=E1) E1_ok Tryz.func58 rfl mixed (by kernel_rfl) (by kernel_rfl) ?_
  conv=>whnf
  refine⟨_,fits_ok n,?_⟩
  conv=>whnf
  refine bcase (fun h=>?_) fun h=>?_
  · conv=>whnf
    refine⟨_,fits_ok m,?_⟩
    conv=>whnf
    refine bcase (fun(h:(!decide ((0:Int)≤m/\(m:Int)≤1024))=true)=>?_) fun h=>?_
    · exact absurd h (by rw[decide_eq_true (⟨by omega,by omega⟩:(0:Int)≤m/\(m:Int)≤1024)];simp)
    conv=>whnf
    refine⟨_,blank_ok (n:=n) (m:=m) (by omega) (by omega),?_⟩
    conv=>whnf
    refine⟨_,store_ok (n:=n) (m:=m) (G:=fun _ _=>0) hn hm,?_⟩
    conv=>whnf
    exact⟨rfl,Sub.refl _⟩
  · have h:(!decide ((0:Int)≤n/\(n:Int)≤1024))=true:=gwf' h
    exact absurd h (by rw[decide_eq_true (⟨by omega,by omega⟩:(0:Int)≤n/\(n:Int)≤1024)];simp)
end Go.Proofs.YtkmbnldginonbaaGreat
