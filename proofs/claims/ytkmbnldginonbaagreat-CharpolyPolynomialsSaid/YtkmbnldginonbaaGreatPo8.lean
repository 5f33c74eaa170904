/- The functions Sign, Of, Normal, Neg, Abs of package bigint: what each computes. The lengths are at most 2^40. -/
import Derived.Test.YtkmbnldginonbaaGreatPo7
import Derived.Deep.RegionHeld3
import Derived.Deep.LoopGhost
import Derived.Test.YtkmbnldginonbaaGreatPo5
import Derived.Test.YtkmbnldginonbaaGreatPo6
set_option maxHeartbeats 2000000
set_option maxRecDepth 100000
namespace Go.Proofs.YtkmbnldginonbaaGreat
open Go.RowKit
theorem trim_pos (ds:List Nat):0<(Dg.trim ds).length↔0<Dg.val ds:=by
 rw[<- Dg.val_trim ds];have h:=Dg.val_eq_zero (Dg.trim_trimmed ds);constructor
 ·intro h1;rcases Nat.eq_zero_or_pos (Dg.val (Dg.trim ds))with h2 | h2
  ·rw[h.1 h2]at h1;simp at h1
  ·exact h2
 ·intro h1;rcases Nat.eq_zero_or_pos (Dg.trim ds).length with h2 | h2
  ·rw[List.length_eq_zero_iff.1 h2]at h1;simp[Dg.val]at h1
  ·exact h2
theorem Dig.store {w:World} {A:Option Addr} {n:Nat} {ds:List Nat} (h:Dig w A n ds) (p:Addr) (u:Value) (hp:∀ d:Int,w.cell? p≠some (.int .u32 d)):Dig (w.setCell p u) A n ds:=by
 refine⟨h.1,h.2.1,fun hn=>?_⟩;obtain⟨b,o,hA,hlt,hc⟩:=h.2.2 hn;refine⟨b,o,hA,by simpa using hlt,fun i hi=>?_⟩;rw[World.cell?_setCell_other w p ⟨b,o+i,none⟩ u (fun e=>hp _ (by rw[e];exact hc i hi))];exact hc i hi
theorem NInt.store {w:World} {v:Value} {x:Int} {L:Nat} (h:NInt w v x L) (p:Addr) (u:Value) (hp:∀ d:Int,w.cell? p≠some (.int .u32 d)):NInt (w.setCell p u) v x L:=by
 obtain⟨neg,A,n,c,ds,h1,h2,h3⟩:=h;exact⟨neg,A,n,c,ds,h1,h2.store p u hp,h3⟩
theorem NInt.ret {w : World} {v u0 u1 : Value} {x : Int} {L R n0 c0 : Nat} {b0 : Bool} {A0 : Option Addr} (h : NInt w v x L) (r0 : w.cell? ⟨R, 0, none⟩ = some (.bool b0)) (r1 : w.cell? ⟨R, 1, none⟩ = some (.slice A0 n0 c0)) :
  NInt ((w.setCell ⟨R,0,none⟩ u0).setCell ⟨R,1,none⟩ u1) v x L:=by
 refine(h.store _ u0 (by rw[r0];simp)).store _ u1 ?_;rw[World.cell?_setCell_other w ⟨R,0,none⟩ ⟨R,1,none⟩ u0 (by simp),r1];simp
theorem cell_ret {w:World} {R B i:Nat} {u0 u1 a:Value} (h:w.cell? ⟨B,i,none⟩=some a) (hne:B≠R):((w.setCell ⟨R,0,none⟩ u0).setCell ⟨R,1,none⟩ u1).cell? ⟨B,i,none⟩=some a:=by
 rw[World.cell?_setCell_other _ ⟨R,1,none⟩ ⟨B,i,none⟩ u1 (by intro e;injection e with e1;omega),World.cell?_setCell_other _ ⟨R,0,none⟩ ⟨B,i,none⟩ u0 (by intro e;injection e with e1;omega)];exact h
theorem wK {w w2:World} {R:Nat} {u0 u1:Value} (h:Below w.heap.size w w2) (hR:w.heap.size<=R):Below w.heap.size w ((w2.setCell ⟨R,0,none⟩ u0).setCell ⟨R,1,none⟩ u1):=(h.setCell (p:=⟨R,0,none⟩) hR u0).setCell (p:=⟨R,1,none⟩) hR u1
theorem int_sign_any (v : Value) (x : Int) (L : Nat) (w : World) (hv : RInt w v x L) (hL : L ≤ LIM) :
  Calls Tryz.prog 131 #[v] w fun e w'=>e = .returned (.int .i64 x.sign)/\Below w.heap.size w w':=by
 obtain⟨neg,A,n,c,ds,rfl,hd,hc,hn,hx⟩:=hv;have hm:n<=maxLen:=by unfold maxLen;unfold LIM at hL;omega
 have T:=fun W hW=>zK A n c ds W (hd.below (w':=W) hW) hm hc;have hp:=trim_pos ds;have hle:(Dg.trim ds).length<=n:=by have:=zf ds;have:=hd.len;omega
 obtain⟨t,ht⟩:∃ t,t=(Dg.trim ds).length:=⟨_,rfl⟩;rw[<- ht]at T hp hle;have T':=Lib.hid T;have hmx:(t:Int)<=2^40:=by unfold LIM at hL;omega
 by_cases h0:0<t
 ·have hpos:=hp.1 h0;have hb0:((t:Int) == 0)=false:=by simp;omega
  cases neg
  ·have hs:x.sign=1:=by rw[hx];exact Int.sign_eq_one_of_pos (by simp[sgn];omega)
   rw[hs];clear hx hd T hp hle hm hL hn ht hc hs hpos
   go_enter Tryz.func131,Tryz.ntmps131
   go_wp2_with (go_at_call 140;refine(T'.out _ (by go_grown)).mono ?_;rintro e w' ⟨rfl,rfl⟩)
   go_ret
   exact⟨rfl,by go_grown⟩
  ·have hs:x.sign = -1:=by rw[hx];exact Int.sign_eq_neg_one_of_neg (by simp[sgn];omega)
   rw[hs];clear hx hd T hp hle hm hL hn ht hc hs hpos
   go_enter Tryz.func131,Tryz.ntmps131
   go_wp2_with (go_at_call 140;refine(T'.out _ (by go_grown)).mono ?_;rintro e w' ⟨rfl,rfl⟩)
   go_ret
   exact⟨rfl,by go_grown⟩
 ·have hz:Dg.val ds=0:=by omega
  have hs:x.sign=0:=by rw[hx,hz];cases neg <;> rfl
  obtain rfl:t=0:=by omega
  rw[hs];clear hx hd T hp hle hm hL hn ht hc hs hz
  go_enter Tryz.func131,Tryz.ntmps131
  go_wp2_with (go_at_call 140;refine(T'.out _ (by go_grown)).mono ?_;rintro e w' ⟨rfl,rfl⟩)
  go_ret
  exact⟨rfl,by go_grown⟩
theorem int_of_any (x : Int) (w : World) (h0 : -9223372036854775808 ≤ x) (h1 : x ≤ 9223372036854775807) :
  Calls Tryz.prog 96 #[.int .i64 x] w fun e w'=>∃ v,e = .returned v/\NInt w' v x 2/\Below w.heap.size w w':=by
 by_cases hx:x<0
 ·have hd:decide (x<0)=true:=by simp;omega
  obtain⟨q,hq⟩:∃ q:Nat,-x=q:=Int.eq_ofNat_of_zero_le (by omega);have hw:IntKind.u64.wrap (-(IntKind.u64.wrap x))=(q:Int):=by
   simp[IntKind.wrap,IntKind.bits,IntKind.signed];omega
  have hqB:q<Dg.B*Dg.B:=by rw[Dg.B_eq];omega
  have HQ:=Lib.hid hqB;have HX:=Lib.hid hq;clear hq hqB h0 h1 hx
  go_enter Tryz.func96,Tryz.ntmps96
  go_wp2_with fail
  refine(v7 q _ HQ.out).mono ?_;rintro e w1 ⟨v,rfl,⟨A,n,c,ds,rfl,hd1,hc1,hn1,ht1,hv1⟩,hb1⟩;have HD:=Lib.hid hd1;have HV:=Lib.hid hv1;clear hd1 hv1 ht1
  go_wp2_with fail
  refine(z6 true A n c ds _ HD.out (by unfold maxLen;omega) hc1).mono ?_;rintro e w2 ⟨v,rfl,⟨neg,A2,n2,c2,ds2,rfl,hd2⟩,hb2⟩;have HD2:=Lib.hid hd2;have hb12:=zk hb1 hb2;have r0:=hb12.cell (p:=⟨w.heap.size,0,none⟩) (by simp);have r1:=hb12.cell (p:=⟨w.heap.size,1,none⟩) (by simp);have f0:=hb12.frozen (p:=⟨w.heap.size,0,none⟩) (by simp);have f1:=hb12.frozen (p:=⟨w.heap.size,1,none⟩) (by simp);simp at r0 r1 f0 f1;clear hd2 hw hd;have hbw:Below w.heap.size w w2:=((Below.refl _ _).alloc (Nat.le_refl _) _).trans (hb12.mono (by simp))
  go_wp2
  refine bodyPost_ret (v := .agg #[.bool neg,.slice A2 n2 c2]) (by simp[results,Tryz.results96,go_sem,r0,r1]) rfl ⟨_,rfl,?_,wK hbw (Nat.le_refl _)⟩;have hN:NInt w2 (.agg #[.bool neg,.slice A2 n2 c2]) (sgn true (Dg.val ds)) n:=⟨neg,A2,n2,c2,ds2,rfl,HD2.out⟩;have e:sgn true (Dg.val ds)=x:=by rw[HV.out];have:=HX.out;simp[sgn];omega
  rw[e]at hN;exact(hN.mono hn1).ret r0 r1
 ·have hd:decide (x<0)=false:=by simp;omega
  obtain⟨q,hq⟩:∃ q:Nat,x=q:=Int.eq_ofNat_of_zero_le (by omega);have hw:IntKind.u64.wrap x=(q:Int):=by
   simp[IntKind.wrap,IntKind.bits,IntKind.signed];omega
  have hqB:q<Dg.B*Dg.B:=by rw[Dg.B_eq];omega
  have HQ:=Lib.hid hqB;have HX:=Lib.hid hq;clear hq hqB h0 h1 hx
  go_enter Tryz.func96,Tryz.ntmps96
  go_wp2_with fail
  refine(v7 q _ HQ.out).mono ?_;rintro e w1 ⟨v,rfl,⟨A,n,c,ds,rfl,hd1,hc1,hn1,ht1,hv1⟩,hb1⟩;have HD:=Lib.hid hd1;have HV:=Lib.hid hv1;clear hd1 hv1 ht1
  go_wp2_with fail
  refine(z6 false A n c ds _ HD.out (by unfold maxLen;omega) hc1).mono ?_;rintro e w2 ⟨v,rfl,⟨neg,A2,n2,c2,ds2,rfl,hd2⟩,hb2⟩;have HD2:=Lib.hid hd2;have hb12:=zk hb1 hb2;have r0:=hb12.cell (p:=⟨w.heap.size,0,none⟩) (by simp);have r1:=hb12.cell (p:=⟨w.heap.size,1,none⟩) (by simp);have f0:=hb12.frozen (p:=⟨w.heap.size,0,none⟩) (by simp);have f1:=hb12.frozen (p:=⟨w.heap.size,1,none⟩) (by simp);simp at r0 r1 f0 f1;clear hd2 hw hd;have hbw:Below w.heap.size w w2:=((Below.refl _ _).alloc (Nat.le_refl _) _).trans (hb12.mono (by simp))
  go_wp2
  refine bodyPost_ret (v := .agg #[.bool neg,.slice A2 n2 c2]) (by simp[results,Tryz.results96,go_sem,r0,r1]) rfl ⟨_,rfl,?_,wK hbw (Nat.le_refl _)⟩;have hN:NInt w2 (.agg #[.bool neg,.slice A2 n2 c2]) (sgn false (Dg.val ds)) n:=⟨neg,A2,n2,c2,ds2,rfl,HD2.out⟩;have e:sgn false (Dg.val ds)=x:=by rw[HV.out];have:=HX.out;simp[sgn];omega
  rw[e]at hN;exact(hN.mono hn1).ret r0 r1
theorem int_normal_any (v : Value) (x : Int) (L : Nat) (w : World) (hv : RInt w v x L) (hL : L ≤ LIM) :
  Calls Tryz.prog 136 #[v] w fun e w'=>∃ v',e = .returned v'/\NInt w' v' x L/\Below w.heap.size w w':=by
 obtain⟨neg,A,n,c,ds,rfl,hd,hc,hn,hx⟩:=hv;have hm:n<=maxLen:=by unfold maxLen;unfold LIM at hL;omega
 have hle:(Dg.trim ds).length<=n:=by have:=zf ds;have:=hd.len;omega
 have H:=Lib.hid hd;have HX:=Lib.hid hx;have HM:=Lib.hid hm;have HL:=Lib.hid (show n<=LIM by omega);have HT:=Lib.hid hle;clear hd hx hm hL hle
 go_enter Tryz.func136,Tryz.ntmps136
 go_wp2_with fail
 generalize hW:(w.alloc (.cells #[.bool neg,.slice A n c] 36)).alloc (.cells #[.bool false,.slice none 0 0] 36)=W0;have hb0:Below w.heap.size w W0:=by rw[<- hW];exact((Below.refl _ _).alloc (Nat.le_refl _) _).alloc (by simp) _
 have hsz:w.heap.size+1<W0.heap.size:=by rw[<- hW];simp
 have hsz0:w.heap.size<W0.heap.size:=by omega
 have c0:W0.cell? ⟨w.heap.size,0,none⟩=some (.bool neg):=by rw[<- hW];simp
 have c1:W0.cell? ⟨w.heap.size,1,none⟩=some (.slice A n c):=by rw[<- hW];simp
 have q0:W0.cell? ⟨w.heap.size+1,0,none⟩=some (.bool false):=by rw[<- hW];simp
 have q1:W0.cell? ⟨w.heap.size+1,1,none⟩=some (.slice none 0 0):=by rw[<- hW];simp
 have f0:W0.frozen? ⟨w.heap.size+1,0,none⟩=false:=by rw[<- hW];simp
 have f1:W0.frozen? ⟨w.heap.size+1,1,none⟩=false:=by rw[<- hW];simp
 clear hW;have T:=Lib.hid (fun W hW=>zK A n c ds W (H.out.below (w':=W) hW) HM.out hc);have HB0:=Lib.hid hb0;have S0:=Lib.hid (And.intro c0 c1);have Q0:=Lib.hid (And.intro q0 (And.intro q1 (And.intro f0 f1)));clear hb0 c0 c1 q0 q1 f0 f1
 go_region_held3 (fun w' => w'.cell? ⟨w.heap.size, 0, none⟩ = some (.bool neg) ∧ w'.cell? ⟨w.heap.size, 1, none⟩ = some (.slice A n c)) (first | exact S2.out | exact ⟨cell_ret S2.out.1 (by omega), cell_ret S2.out.2 (by omega)⟩ | exact S1.out | exact S0.out) (first
  |(go_at_call 140;refine(T.out _ HB0.out.drew).mono ?_;rintro e w8 ⟨rfl,rfl⟩)
  |(go_at_call 152;refine(W5 A _ c (Dg.trim ds) _ (H.out.trim.below HB0.out.drew) (Nat.le_trans HT.out HL.out)).mono ?_;rintro e w1 ⟨A1,c1,rfl,hd1,hc1,hb1⟩;have HD1:=Lib.hid hd1;have HB1:=Lib.hid hb1;have S1:=Lib.hid (And.intro ((hb1.cell (p:=⟨w.heap.size,0,none⟩) hsz0).trans S0.out.1) ((hb1.cell (p:=⟨w.heap.size,1,none⟩) hsz0).trans S0.out.2));clear hd1 hb1)
  |(go_at_call 134;refine(z6 neg A1 _ c1 (Dg.trim ds) _ HD1.out (Nat.le_trans HT.out HM.out) hc1).mono ?_;rintro e w2 ⟨v,rfl,⟨neg2,A2,n2,c2,ds2,rfl,hd2⟩,hb2⟩;have HD2:=Lib.hid hd2;have hb12:=zk HB1.out hb2;have S2:=Lib.hid (And.intro ((hb12.cell (p:=⟨w.heap.size,0,none⟩) hsz0).trans S0.out.1) ((hb12.cell (p:=⟨w.heap.size,1,none⟩) hsz0).trans S0.out.2));have r0:=(hb12.cell (p:=⟨w.heap.size+1,0,none⟩) hsz).trans Q0.out.1;have r1:=(hb12.cell (p:=⟨w.heap.size+1,1,none⟩) hsz).trans Q0.out.2.1;have g0:=(hb12.frozen (p:=⟨w.heap.size+1,0,none⟩) hsz).trans Q0.out.2.2.1;have g1:=(hb12.frozen (p:=⟨w.heap.size+1,1,none⟩) hsz).trans Q0.out.2.2.2;have HB2:=Lib.hid hb12;clear hd2 hb2 hb12))
 go_wp2
 have hbw:Below w.heap.size w w2:=(HB0.out.drew).trans (HB2.out.mono HB0.out.size);refine bodyPost_ret (v := .agg #[.bool neg2,.slice A2 n2 c2]) (by simp[results,Tryz.results136,go_sem,r0,r1]) rfl ⟨_,rfl,?_,wK hbw (by omega)⟩;have hN:NInt w2 (.agg #[.bool neg2,.slice A2 n2 c2]) (sgn neg (Dg.val (Dg.trim ds))) (Dg.trim ds).length:=⟨neg2,A2,n2,c2,ds2,rfl,HD2.out⟩;rw[Dg.val_trim,<- HX.out]at hN;exact(hN.mono (Nat.le_trans HT.out hn)).ret r0 r1
end Go.Proofs.YtkmbnldginonbaaGreat
/- The functions Neg and Abs of package bigint: what each computes. The lengths are at most 2^40. -/
namespace Go.Proofs.YtkmbnldginonbaaGreat
open Go.RowKit
theorem int_neg_any (v : Value) (x : Int) (L : Nat) (w : World) (hv : RInt w v x L) (hL : L ≤ LIM) :
  Calls Tryz.prog 110 #[v] w fun e w'=>∃ v',e = .returned v'/\NInt w' v' (-x) L/\Below w.heap.size w w':=by
 obtain⟨neg,A,n,c,ds,rfl,hd,hc,hn,hx⟩:=hv;have hm:n<=maxLen:=by unfold maxLen;unfold LIM at hL;omega
 have hle:(Dg.trim ds).length<=n:=by have:=zf ds;have:=hd.len;omega
 have H:=Lib.hid hd;have HX:=Lib.hid hx;have HM:=Lib.hid hm;have HL:=Lib.hid (show n<=LIM by omega);have HT:=Lib.hid hle;clear hd hx hm hL hle
 go_enter Tryz.func110,Tryz.ntmps110
 go_wp2_with fail
 generalize hW:(w.alloc (.cells #[.bool neg,.slice A n c] 36)).alloc (.cells #[.bool false,.slice none 0 0] 36)=W0;have hb0:Below w.heap.size w W0:=by rw[<- hW];exact((Below.refl _ _).alloc (Nat.le_refl _) _).alloc (by simp) _
 have hsz:w.heap.size+1<W0.heap.size:=by rw[<- hW];simp
 have hsz0:w.heap.size<W0.heap.size:=by omega
 have c0:W0.cell? ⟨w.heap.size,0,none⟩=some (.bool neg):=by rw[<- hW];simp
 have c1:W0.cell? ⟨w.heap.size,1,none⟩=some (.slice A n c):=by rw[<- hW];simp
 have q0:W0.cell? ⟨w.heap.size+1,0,none⟩=some (.bool false):=by rw[<- hW];simp
 have q1:W0.cell? ⟨w.heap.size+1,1,none⟩=some (.slice none 0 0):=by rw[<- hW];simp
 have f0:W0.frozen? ⟨w.heap.size+1,0,none⟩=false:=by rw[<- hW];simp
 have f1:W0.frozen? ⟨w.heap.size+1,1,none⟩=false:=by rw[<- hW];simp
 clear hW;have T:=Lib.hid (fun W hW=>zK A n c ds W (H.out.below (w':=W) hW) HM.out hc);have HB0:=Lib.hid hb0;have S0:=Lib.hid (And.intro c0 c1);have Q0:=Lib.hid (And.intro q0 (And.intro q1 (And.intro f0 f1)));clear hb0 c0 c1 q0 q1 f0 f1
 go_region_held3 (fun w' => w'.cell? ⟨w.heap.size, 0, none⟩ = some (.bool neg) ∧ w'.cell? ⟨w.heap.size, 1, none⟩ = some (.slice A n c)) (first | exact S2.out | exact ⟨cell_ret S2.out.1 (by omega), cell_ret S2.out.2 (by omega)⟩ | exact S1.out | exact S0.out) (first
  |(go_at_call 140;refine(T.out _ HB0.out.drew).mono ?_;rintro e w8 ⟨rfl,rfl⟩)
  |(go_at_call 152;refine(W5 A _ c (Dg.trim ds) _ (H.out.trim.below HB0.out.drew) (Nat.le_trans HT.out HL.out)).mono ?_;rintro e w1 ⟨A1,c1,rfl,hd1,hc1,hb1⟩;have HD1:=Lib.hid hd1;have HB1:=Lib.hid hb1;have S1:=Lib.hid (And.intro ((hb1.cell (p:=⟨w.heap.size,0,none⟩) hsz0).trans S0.out.1) ((hb1.cell (p:=⟨w.heap.size,1,none⟩) hsz0).trans S0.out.2));clear hd1 hb1)
  |(go_at_call 134;refine(z6 (!neg) A1 _ c1 (Dg.trim ds) _ HD1.out (Nat.le_trans HT.out HM.out) hc1).mono ?_;rintro e w2 ⟨v,rfl,⟨neg2,A2,n2,c2,ds2,rfl,hd2⟩,hb2⟩;have HD2:=Lib.hid hd2;have hb12:=zk HB1.out hb2;have S2:=Lib.hid (And.intro ((hb12.cell (p:=⟨w.heap.size,0,none⟩) hsz0).trans S0.out.1) ((hb12.cell (p:=⟨w.heap.size,1,none⟩) hsz0).trans S0.out.2));have r0:=(hb12.cell (p:=⟨w.heap.size+1,0,none⟩) hsz).trans Q0.out.1;have r1:=(hb12.cell (p:=⟨w.heap.size+1,1,none⟩) hsz).trans Q0.out.2.1;have g0:=(hb12.frozen (p:=⟨w.heap.size+1,0,none⟩) hsz).trans Q0.out.2.2.1;have g1:=(hb12.frozen (p:=⟨w.heap.size+1,1,none⟩) hsz).trans Q0.out.2.2.2;have HB2:=Lib.hid hb12;clear hd2 hb2 hb12))
 go_wp2
 have hbw:Below w.heap.size w w2:=(HB0.out.drew).trans (HB2.out.mono HB0.out.size);refine bodyPost_ret (v := .agg #[.bool neg2,.slice A2 n2 c2]) (by simp[results,Tryz.results110,go_sem,r0,r1]) rfl ⟨_,rfl,?_,wK hbw (by omega)⟩;have hN:NInt w2 (.agg #[.bool neg2,.slice A2 n2 c2]) (sgn (!neg) (Dg.val (Dg.trim ds))) (Dg.trim ds).length:=⟨neg2,A2,n2,c2,ds2,rfl,HD2.out⟩;rw[Dg.val_trim,show sgn (!neg) (Dg.val ds) = -x from by rw[HX.out];cases neg <;> simp[sgn]]at hN;exact(hN.mono (Nat.le_trans HT.out hn)).ret r0 r1
end Go.Proofs.YtkmbnldginonbaaGreat
/- The function Mul of package bigint: the product. The lengths are together at most 2^40. -/
namespace Go.Proofs.YtkmbnldginonbaaGreat
open Go.RowKit
theorem sgn_mul (p q:Bool) (a b:Nat):sgn (!(p == q)) (a*b)=sgn p a*sgn q b:=by
 cases p <;> cases q <;> simp[sgn,Int.neg_mul,Int.mul_neg]
theorem VK {w w':World} (h:Below w.drew.heap.size w.drew w'):Below w.heap.size w w':=⟨h.os,h.tape,h.output,h.size,h.block⟩
structure Boxes (w W : World) (a b c d e f : Value) : Prop where
 below:Below w.heap.size w W
 size:w.heap.size+1+1<W.heap.size
 a0:W.cell? ⟨w.heap.size,0,none⟩=some a
 a1:W.cell? ⟨w.heap.size,1,none⟩=some b
 b0:W.cell? ⟨w.heap.size+1,0,none⟩=some c
 b1:W.cell? ⟨w.heap.size+1,1,none⟩=some d
 c0:W.cell? ⟨w.heap.size+1+1,0,none⟩=some e
 c1:W.cell? ⟨w.heap.size+1+1,1,none⟩=some f
 f0:W.frozen? ⟨w.heap.size+1+1,0,none⟩=false
 f1:W.frozen? ⟨w.heap.size+1+1,1,none⟩=false
theorem boxes (w:World) (a b c d e f:Value) (t1 t2 t3:TypeId):Boxes w (((w.alloc (.cells #[a,b] t1)).alloc (.cells #[c,d] t2)).alloc (.cells #[e,f] t3)) a b c d e f:=by
 have h0:((w.alloc (.cells #[a,b] t1)).alloc (.cells #[c,d] t2)).heap.size=w.heap.size+1+1:=by simp
 have h1:(w.alloc (.cells #[a,b] t1)).heap.size=w.heap.size+1:=by simp
 have k1:(((w.alloc (.cells #[a,b] t1)).alloc (.cells #[c,d] t2)).alloc (.cells #[e,f] t3)).heap[w.heap.size]? = some (.cells #[a,b] t1 (0,0)):=by
  rw[Below.heap_alloc _ _ _ (by omega),Below.heap_alloc _ _ _ (by omega)];exact heap_alloc_new w _
 have k2:(((w.alloc (.cells #[a,b] t1)).alloc (.cells #[c,d] t2)).alloc (.cells #[e,f] t3)).heap[w.heap.size+1]? = some (.cells #[c,d] t2 (0,0)):=by
  rw[Below.heap_alloc _ _ _ (by omega),<- h1];exact heap_alloc_new _ _
 have k3:(((w.alloc (.cells #[a,b] t1)).alloc (.cells #[c,d] t2)).alloc (.cells #[e,f] t3)).heap[w.heap.size+1+1]? = some (.cells #[e,f] t3 (0,0)):=by
  rw[<- h0];exact heap_alloc_new _ _
 refine⟨(((Below.refl _ _).alloc (Nat.le_refl _) _).alloc (by omega) _).alloc (by omega) _,by simp,?_,?_,?_,?_,?_,?_,?_,?_⟩
 ·simp only[World.cell?,k1];rfl
 ·simp only[World.cell?,k1];rfl
 ·simp only[World.cell?,k2];rfl
 ·simp only[World.cell?,k2];rfl
 ·simp only[World.cell?,k3];rfl
 ·simp only[World.cell?,k3];rfl
 ·simp only[World.frozen?,k3];rfl
 ·simp only[World.frozen?,k3];rfl
theorem int_mul_any (v1 v2 : Value) (x y : Int) (L1 L2 : Nat) (w : World) (hv1 : RInt w v1 x L1) (hv2 : RInt w v2 y L2) (hL : L1 + L2 ≤ LIM) :
  Calls Tryz.prog 98 #[v1,v2] w fun e w'=>∃ v',e = .returned v'/\NInt w' v' (x*y) (L1+L2)/\Below w.heap.size w w':=by
 obtain⟨ng,A,n,c,ds,rfl,hd,hc,hn,hx⟩:=hv1;obtain⟨nh,A',n',c',es,rfl,he,hc',hn',hy⟩:=hv2;have hm:n<=maxLen:=by unfold maxLen;unfold LIM at hL;omega
 have hm':n'<=maxLen:=by unfold maxLen;unfold LIM at hL;omega
 have hle:(Dg.trim ds).length<=n:=by have:=zf ds;have:=hd.len;omega
 have hle':(Dg.trim es).length<=n':=by have:=zf es;have:=he.len;omega
 have H:=Lib.hid hd;have K:=Lib.hid he;have HX:=Lib.hid hx;have HY:=Lib.hid hy;have HL:=Lib.hid (show(Dg.trim ds).length+(Dg.trim es).length<=LIM by omega);have HT:=Lib.hid (show(Dg.trim ds).length+(Dg.trim es).length<=L1+L2 by omega);have HLL:=Lib.hid hL;have T1:=Lib.hid (fun W hW=>zK A n c ds W (H.out.below (w':=W) hW) hm hc);have T2:=Lib.hid (fun W hW=>zK A' n' c' es W (K.out.below (w':=W) hW) hm' hc');clear hd he hx hy hm hm' hL hle hle'
 go_enter Tryz.func98,Tryz.ntmps98
 go_wp2_with fail
 have hbx:=boxes w (.bool ng) (.slice A n c) (.bool nh) (.slice A' n' c') (.bool false) (.slice none 0 0) 36 36 36;generalize ((w.alloc (.cells #[.bool ng,.slice A n c] 36)).alloc (.cells #[.bool nh,.slice A' n' c'] 36)).alloc (.cells #[.bool false,.slice none 0 0] 36)=W0 at hbx ⊢
 obtain⟨hb0,hsz,c0,c1,c2,c3,q0,q1,f0,f1⟩:=hbx;have hsz0:w.heap.size<W0.heap.size:=by omega
 have hsz1:w.heap.size+1<W0.heap.size:=by omega
 have HB0:=Lib.hid hb0;have S0:=Lib.hid (And.intro c0 (And.intro c1 (And.intro c2 c3)));have Q0:=Lib.hid (And.intro q0 (And.intro q1 (And.intro f0 f1)));have SK:∀ w1:World,Below W0.heap.size W0 w1->w1.cell? ⟨w.heap.size,0,none⟩=some (.bool ng)/\w1.cell? ⟨w.heap.size,1,none⟩=some (.slice A n c)/\w1.cell? ⟨w.heap.size+1,0,none⟩=some (.bool nh)/\w1.cell? ⟨w.heap.size+1,1,none⟩=some (.slice A' n' c') :=
  fun w1 hb=>⟨(hb.cell (p:=⟨w.heap.size,0,none⟩) hsz0).trans c0,(hb.cell (p:=⟨w.heap.size,1,none⟩) hsz0).trans c1,(hb.cell (p:=⟨w.heap.size+1,0,none⟩) hsz1).trans c2,(hb.cell (p:=⟨w.heap.size+1,1,none⟩) hsz1).trans c3⟩
 have HSK:=Lib.hid SK;clear hb0 c0 c1 c2 c3 q0 q1 f0 f1 SK
 go_region_held3 (fun w' => w'.cell? ⟨w.heap.size, 0, none⟩ = some (.bool ng) ∧ w'.cell? ⟨w.heap.size, 1, none⟩ = some (.slice A n c) ∧ w'.cell? ⟨w.heap.size + 1, 0, none⟩ = some (.bool nh) ∧ w'.cell? ⟨w.heap.size + 1, 1, none⟩ = some (.slice A' n' c')) (first | exact S2.out | exact ⟨cell_ret S2.out.1 (by omega), cell_ret S2.out.2.1 (by omega), cell_ret S2.out.2.2.1 (by omega), cell_ret S2.out.2.2.2 (by omega)⟩ | exact S1.out | exact S0.out) (first
  |(go_at_call 139;refine(times_any A A' _ c _ c' (Dg.trim ds) (Dg.trim es) _ (H.out.trim.below HB0.out.drew) (K.out.trim.below HB0.out.drew) HL.out).mono ?_;rintro e w1 ⟨v,rfl,⟨A1,n1,c1,fs,rfl,hd1,hc1,hn1,hv1⟩,hb1⟩;have HD1:=Lib.hid hd1;have HV1:=Lib.hid hv1;have hb1':=VK hb1;have HB1:=Lib.hid hb1';have S1:=Lib.hid (HSK.out w1 hb1');clear hd1 hb1 hb1' hv1)
  |(go_at_call 134;refine(z6 (!(ng == nh)) A1 n1 c1 fs _ HD1.out (by have:=HLL.out;have:=HT.out;unfold LIM at *;unfold maxLen;omega) hc1).mono ?_;rintro e w2 ⟨v,rfl,⟨neg2,A2,n2,c2,ds2,rfl,hd2⟩,hb2⟩;have HD2:=Lib.hid hd2;have hb12:=zk HB1.out hb2;have S2:=Lib.hid (HSK.out w2 hb12);have r0:=(hb12.cell (p:=⟨w.heap.size+1+1,0,none⟩) hsz).trans Q0.out.1;have r1:=(hb12.cell (p:=⟨w.heap.size+1+1,1,none⟩) hsz).trans Q0.out.2.1;have g0:=(hb12.frozen (p:=⟨w.heap.size+1+1,0,none⟩) hsz).trans Q0.out.2.2.1;have g1:=(hb12.frozen (p:=⟨w.heap.size+1+1,1,none⟩) hsz).trans Q0.out.2.2.2;have HB2:=Lib.hid hb12;clear hd2 hb2 hb12)
  |(go_at_call_of 140 (Value.slice A n c);refine(T1.out _ HB0.out.drew).mono ?_;rintro e w8 ⟨rfl,rfl⟩)
  |(go_at_call 140;refine(T2.out _ HB0.out.drew).mono ?_;rintro e w8 ⟨rfl,rfl⟩))
 go_wp2
 have hbw:Below w.heap.size w w2:=HB0.out.trans (HB2.out.mono HB0.out.size);refine bodyPost_ret (v := .agg #[.bool neg2,.slice A2 n2 c2]) (by simp[results,Tryz.results98,go_sem,r0,r1]) rfl ⟨_,rfl,?_,wK hbw (by omega)⟩;have hN:NInt w2 (.agg #[.bool neg2,.slice A2 n2 c2]) (sgn (!(ng == nh)) (Dg.val fs)) n1:=⟨neg2,A2,n2,c2,ds2,rfl,HD2.out⟩;rw[HV1.out,Dg.val_trim,Dg.val_trim,sgn_mul,<- HX.out,<- HY.out]at hN;exact(hN.mono (Nat.le_trans hn1 HT.out)).ret r0 r1
end Go.Proofs.YtkmbnldginonbaaGreat
/- The function add of package bigint: the sum of an integer and of another one that is given by its sign and digits. The lengths are at most 2^39. -/
namespace Go.Proofs.YtkmbnldginonbaaGreat
open Go.RowKit
theorem sgn_add (p:Bool) (a b:Nat):sgn p (a+b)=sgn p a+sgn p b:=by cases p <;> simp[sgn] <;> omega
theorem sgn_sub {p q:Bool} (h:p≠q) {a b o:Nat} (ho:o+b=a):sgn p o=sgn p a+sgn q b:=by
 subst ho;cases p <;> cases q <;> simp[sgn]at h ⊢ <;> omega
structure Boxes2 (w W : World) (a b e f : Value) : Prop where
 below:Below w.heap.size w W
 size:w.heap.size+1<W.heap.size
 a0:W.cell? ⟨w.heap.size,0,none⟩=some a
 a1:W.cell? ⟨w.heap.size,1,none⟩=some b
 c0:W.cell? ⟨w.heap.size+1,0,none⟩=some e
 c1:W.cell? ⟨w.heap.size+1,1,none⟩=some f
 f0:W.frozen? ⟨w.heap.size+1,0,none⟩=false
 f1:W.frozen? ⟨w.heap.size+1,1,none⟩=false
theorem boxes2 (w:World) (a b e f:Value) (t1 t3:TypeId):Boxes2 w ((w.alloc (.cells #[a,b] t1)).alloc (.cells #[e,f] t3)) a b e f:=by
 have h1:(w.alloc (.cells #[a,b] t1)).heap.size=w.heap.size+1:=by simp
 have k1:((w.alloc (.cells #[a,b] t1)).alloc (.cells #[e,f] t3)).heap[w.heap.size]? = some (.cells #[a,b] t1 (0,0)):=by
  rw[Below.heap_alloc _ _ _ (by omega)];exact heap_alloc_new w _
 have k3:((w.alloc (.cells #[a,b] t1)).alloc (.cells #[e,f] t3)).heap[w.heap.size+1]? = some (.cells #[e,f] t3 (0,0)):=by
  rw[<- h1];exact heap_alloc_new _ _
 refine⟨((Below.refl _ _).alloc (Nat.le_refl _) _).alloc (by omega) _,by simp,?_,?_,?_,?_,?_,?_⟩
 ·simp only[World.cell?,k1];rfl
 ·simp only[World.cell?,k1];rfl
 ·simp only[World.cell?,k3];rfl
 ·simp only[World.cell?,k3];rfl
 ·simp only[World.frozen?,k3];rfl
 ·simp only[World.frozen?,k3];rfl
theorem add_any (v1 : Value) (x : Int) (L1 : Nat) (ng2 : Bool) (A' : Option Addr) (n' c' : Nat) (es : List Nat) (w : World) (hv1 : RInt w v1 x L1) (he : Dig w A' n' es) (te : Dg.trimmed es) (hL1 : L1 ≤ LIM) (hL2 : n' ≤ LIM) :
  Calls Tryz.prog 160 #[v1,.bool ng2,.slice A' n' c'] w fun e w'=>∃ v',e = .returned v'/\NInt w' v' (x+sgn ng2 (Dg.val es)) (max L1 n'+1)/\Below w.heap.size w w':=by
 obtain⟨ng,A,n,c,ds,rfl,hd,hc,hn,hx⟩:=hv1;have hm:n<=maxLen:=by unfold maxLen;unfold LIM at hL1;omega
 have hm':n'<=maxLen:=by unfold maxLen;unfold LIM at hL2;omega
 have hle:(Dg.trim ds).length<=n:=by have:=zf ds;have:=hd.len;omega
 have H:=Lib.hid hd;have K:=Lib.hid he;have HX:=Lib.hid hx;have T1:=Lib.hid (fun W hW=>zK A n c ds W (H.out.below (w':=W) hW) hm hc);have HT:=Lib.hid hle;have HN:=Lib.hid (Nat.le_trans hle hn);have HL1:=Lib.hid hL1;have HL2:=Lib.hid hL2;have HTE:=Lib.hid te;have HM:=Lib.hid hm;have HM':=Lib.hid hm';have hbx:=boxes2 w (.bool ng) (.slice A n c) (.bool false) (.slice none 0 0) 36 36;by_cases hs:ng=ng2
 ·subst hs;clear hd he hx hm hm' hle hn hL1 hL2 te
  go_enter Tryz.func160,Tryz.ntmps160
  go_wp2_with fail
  generalize (w.alloc (.cells #[.bool ng,.slice A n c] 36)).alloc (.cells #[.bool false,.slice none 0 0] 36)=W0 at hbx ⊢
  obtain⟨hb0,hsz,c0,c1,q0,q1,f0,f1⟩:=hbx;have HB0:=Lib.hid hb0;have Q0:=Lib.hid (And.intro q0 (And.intro q1 (And.intro f0 f1)));clear hb0 q0 q1 f0 f1;refine(T1.out _ HB0.out).mono ?_;rintro e w8 ⟨rfl,rfl⟩
  go_wp2_with fail
  refine(plus_any _ _ _ _ _ _ (Dg.trim ds) es _ (H.out.trim.below HB0.out) (K.out.below HB0.out) (Nat.le_trans HN.out HL1.out) HL2.out).mono ?_;rintro e w1 ⟨g,m,o,rfl,hm1,hd1,hv1,hb1⟩;have HD1:=Lib.hid hd1;have HV1:=Lib.hid hv1;have HM1:=Lib.hid hm1;clear hd1 hv1 hm1
  go_wp2_with fail
  refine(z6 ng _ _ _ o _ HD1.out (by have:=HM1.out;have:=HN.out;have:=HL1.out;have:=HL2.out;unfold LIM at *;unfold maxLen;omega) (Nat.le_refl _)).mono ?_;rintro e w2 ⟨v,rfl,⟨neg2,A2,n2,c2,ds2,rfl,hd2⟩,hb2⟩;have HD2:=Lib.hid hd2;have hb12:=zk hb1 hb2;have r0:=(hb12.cell (p:=⟨w.heap.size+1,0,none⟩) hsz).trans Q0.out.1;have r1:=(hb12.cell (p:=⟨w.heap.size+1,1,none⟩) hsz).trans Q0.out.2.1;have g0:=(hb12.frozen (p:=⟨w.heap.size+1,0,none⟩) hsz).trans Q0.out.2.2.1;have g1:=(hb12.frozen (p:=⟨w.heap.size+1,1,none⟩) hsz).trans Q0.out.2.2.2;have HB2:=Lib.hid hb12;clear hd2 hb2 hb12 hb1 c0 c1
  go_wp2
  have hbw:Below w.heap.size w w2:=HB0.out.trans (HB2.out.mono HB0.out.size);refine bodyPost_ret (v := .agg #[.bool neg2,.slice A2 n2 c2]) (by simp[results,Tryz.results160,go_sem,r0,r1]) rfl ⟨_,rfl,?_,wK hbw (by omega)⟩;have hN:NInt w2 (.agg #[.bool neg2,.slice A2 n2 c2]) (sgn ng (Dg.val o)) m:=⟨neg2,A2,n2,c2,ds2,rfl,HD2.out⟩;rw[HV1.out,Dg.val_trim,sgn_add,<- HX.out]at hN;exact(hN.mono (by have:=HM1.out;have:=HN.out;omega)).ret r0 r1
 ·have hsb:(ng == ng2)=false:=by simpa using hs
  have HS:=Lib.hid hs;have hva:Dg.val (Dg.trim ds)=Dg.val ds:=Dg.val_trim ds;have hlen1:=Dg.val_lt (Dg.ok_trim hd.ok);have hlen2:=Dg.val_lt he.ok;rw[<- he.len]at hlen2;obtain⟨C,hC⟩:∃ C:Int,C=cmpN (Dg.val (Dg.trim ds)) (Dg.val es):=⟨_,rfl⟩;have HC:=Lib.hid (fun W hW=>y9 A A' _ c n' c' (Dg.trim ds) es W (H.out.trim.below (w':=W) hW) (K.out.below hW) (Dg.trim_trimmed ds) te (Nat.le_trans hle hm) hm');rw[<- hC]at HC;rcases Nat.lt_or_ge (Dg.val (Dg.trim ds)) (Dg.val es)with hlt | hge
  ·have hll:(Dg.trim ds).length<=n':=by
    refine Dg.length_le_of_val (Dg.trim_trimmed ds) (Nat.lt_trans hlt hlen2)
   have hC1:C = -1:=by rw[hC];exact cmpN_lt hlt
   subst hC1;have HLT:=Lib.hid hlt;have HLL:=Lib.hid hll;clear hd he hx hm hm' hle hn hL1 hL2 te hs hva hlen1 hlen2 hC hlt hll
   go_enter Tryz.func160,Tryz.ntmps160
   go_wp2_with fail
   generalize (w.alloc (.cells #[.bool ng,.slice A n c] 36)).alloc (.cells #[.bool false,.slice none 0 0] 36)=W0 at hbx ⊢
   obtain⟨hb0,hsz,c0,c1,q0,q1,f0,f1⟩:=hbx;have HB0:=Lib.hid hb0;have Q0:=Lib.hid (And.intro q0 (And.intro q1 (And.intro f0 f1)));clear hb0 q0 q1 f0 f1;refine(T1.out _ HB0.out).mono ?_;rintro e w8 ⟨rfl,rfl⟩
   go_wp2_with fail
   refine(HC.out _ HB0.out).mono ?_;rintro e w3 ⟨rfl,hb3⟩;have hb03:=zk HB0.out hb3
   go_wp2_with fail
   refine(less_any _ _ _ _ _ _ es (Dg.trim ds) _ (K.out.below hb03) (H.out.trim.below hb03) HL2.out HLL.out (Nat.le_of_lt HLT.out)).mono ?_;rintro e w1 ⟨g,o,rfl,hd1,hv1,hb1⟩;have HD1:=Lib.hid hd1;have HV1:=Lib.hid hv1;clear hd1 hv1
   go_wp2_with fail
   refine(z6 ng2 _ _ _ o _ HD1.out HM'.out (Nat.le_refl _)).mono ?_;rintro e w2 ⟨v,rfl,⟨neg2,A2,n2,c2,ds2,rfl,hd2⟩,hb2⟩;have HD2:=Lib.hid hd2;have hb12:=zk hb3 (zk hb1 hb2);have r0:=(hb12.cell (p:=⟨w.heap.size+1,0,none⟩) hsz).trans Q0.out.1;have r1:=(hb12.cell (p:=⟨w.heap.size+1,1,none⟩) hsz).trans Q0.out.2.1;have g0:=(hb12.frozen (p:=⟨w.heap.size+1,0,none⟩) hsz).trans Q0.out.2.2.1;have g1:=(hb12.frozen (p:=⟨w.heap.size+1,1,none⟩) hsz).trans Q0.out.2.2.2;have HB2:=Lib.hid hb12;clear hd2 hb2 hb12 hb1 c0 c1 hb3 hb03
   go_wp2
   have hbw:Below w.heap.size w w2:=HB0.out.trans (HB2.out.mono HB0.out.size);refine bodyPost_ret (v := .agg #[.bool neg2,.slice A2 n2 c2]) (by simp[results,Tryz.results160,go_sem,r0,r1]) rfl ⟨_,rfl,?_,wK hbw (by omega)⟩;have hN:NInt w2 (.agg #[.bool neg2,.slice A2 n2 c2]) (sgn ng2 (Dg.val o)) n':=⟨neg2,A2,n2,c2,ds2,rfl,HD2.out⟩;rw[sgn_sub (Ne.symm HS.out) HV1.out,Dg.val_trim,<- HX.out,Int.add_comm]at hN;exact(hN.mono (by omega)).ret r0 r1
  ·have hll:n'<=(Dg.trim ds).length:=by
    have:=Dg.length_le_of_val te (Nat.lt_of_le_of_lt hge hlen1);rw[he.len];exact this
   have hC1:0<=C:=by
    rw[hC];rcases Nat.lt_or_ge (Dg.val es) (Dg.val (Dg.trim ds))with h | h
    ·rw[WB h];omega
    ·have:Dg.val (Dg.trim ds)=Dg.val es:=by omega
     rw[this,Up];omega
   have hdC:decide (0<=C)=true:=by simp;omega
   have HGE:=Lib.hid hge;have HLL:=Lib.hid hll;clear hd he hx hm hm' hle hn hL1 hL2 te hs hva hlen1 hlen2 hC hge hll
   go_enter Tryz.func160,Tryz.ntmps160
   go_wp2_with fail
   generalize (w.alloc (.cells #[.bool ng,.slice A n c] 36)).alloc (.cells #[.bool false,.slice none 0 0] 36)=W0 at hbx ⊢
   obtain⟨hb0,hsz,c0,c1,q0,q1,f0,f1⟩:=hbx;have HB0:=Lib.hid hb0;have Q0:=Lib.hid (And.intro q0 (And.intro q1 (And.intro f0 f1)));clear hb0 q0 q1 f0 f1 c1;refine(T1.out _ HB0.out).mono ?_;rintro e w8 ⟨rfl,rfl⟩
   go_wp2_with fail
   refine(HC.out _ HB0.out).mono ?_;rintro e w3 ⟨rfl,hb3⟩;have hb03:=zk HB0.out hb3;have hsz0:w.heap.size<W0.heap.size:=by omega
   have HSK:=Lib.hid (fun(W:World) (hb:Below W0.heap.size W0 W)=>(hb.cell (p:=⟨w.heap.size,0,none⟩) hsz0).trans c0);have HB03:=Lib.hid hb03;have HB3:=Lib.hid hb3;have S0:=Lib.hid (HSK.out w3 hb3);have c0':=S0.out;clear hb03 hb3 c0
   go_wp2_with fail
   have c0':=S0.out
   go_region_held3 (fun w' => w'.cell? ⟨w.heap.size, 0, none⟩ = some (.bool ng)) (first | exact S2.out | exact cell_ret S2.out (by omega) | exact S1.out | exact S0.out) (first
    |(go_at_call 171;refine(less_any _ _ _ _ _ _ (Dg.trim ds) es _ (H.out.trim.below HB03.out.drew) (K.out.below HB03.out.drew) (Nat.le_trans HN.out HL1.out) HLL.out HGE.out).mono ?_;rintro e w1 ⟨g,o,rfl,hd1,hv1,hb1⟩;have hb1':=zk HB3.out (VK hb1);have HD1:=Lib.hid hd1;have HV1:=Lib.hid hv1;have HB1:=Lib.hid hb1';have S1:=Lib.hid (HSK.out w1 hb1');clear hd1 hb1 hb1' hv1)
    |(go_at_call 134;refine(z6 ng _ _ _ o _ HD1.out (Nat.le_trans HT.out HM.out) (Nat.le_refl _)).mono ?_;rintro e w2 ⟨v,rfl,⟨neg2,A2,n2,c2,ds2,rfl,hd2⟩,hb2⟩;have HD2:=Lib.hid hd2;have hb12:=zk HB1.out hb2;have S2:=Lib.hid (HSK.out w2 hb12);have r0:=(hb12.cell (p:=⟨w.heap.size+1,0,none⟩) hsz).trans Q0.out.1;have r1:=(hb12.cell (p:=⟨w.heap.size+1,1,none⟩) hsz).trans Q0.out.2.1;have g0:=(hb12.frozen (p:=⟨w.heap.size+1,0,none⟩) hsz).trans Q0.out.2.2.1;have g1:=(hb12.frozen (p:=⟨w.heap.size+1,1,none⟩) hsz).trans Q0.out.2.2.2;have HB2:=Lib.hid hb12;clear hd2 hb2 hb12))
   go_wp2
   have hbw:Below w.heap.size w w2:=HB0.out.trans (HB2.out.mono HB0.out.size);refine bodyPost_ret (v := .agg #[.bool neg2,.slice A2 n2 c2]) (by simp[results,Tryz.results160,go_sem,r0,r1]) rfl ⟨_,rfl,?_,wK hbw (by omega)⟩;have hN:NInt w2 (.agg #[.bool neg2,.slice A2 n2 c2]) (sgn ng (Dg.val o)) (Dg.trim ds).length:=⟨neg2,A2,n2,c2,ds2,rfl,HD2.out⟩;rw[sgn_sub HS.out HV1.out,Dg.val_trim,<- HX.out]at hN;exact(hN.mono (by have:=HN.out;omega)).ret r0 r1
end Go.Proofs.YtkmbnldginonbaaGreat
/- The functions Add and Sub of package bigint: the sum and the difference. The lengths are at most 2^40. -/
namespace Go.Proofs.YtkmbnldginonbaaGreat
open Go.RowKit
theorem int_add_any (v1 v2 : Value) (x y : Int) (L1 L2 : Nat) (w : World) (hv1 : RInt w v1 x L1) (hv2 : RInt w v2 y L2) (hL1 : L1 ≤ LIM) (hL2 : L2 ≤ LIM) :
  Calls Tryz.prog 133 #[v1,v2] w fun e w'=>∃ v',e = .returned v'/\NInt w' v' (x+y) (max L1 L2+1)/\Below w.heap.size w w':=by
 have hr1:=hv1;obtain⟨ng,A,n,c,ds,rfl,hd,hc,hn,hx⟩:=hv1;obtain⟨nh,A',n',c',es,rfl,he,hc',hn',hy⟩:=hv2;have hm':n'<=maxLen:=by unfold maxLen;unfold LIM at hL2;omega
 have hle':(Dg.trim es).length<=n':=by have:=zf es;have:=he.len;omega
 have R1:=Lib.hid hr1;have K:=Lib.hid he;have HY:=Lib.hid hy;have HT:=Lib.hid (show(Dg.trim es).length<=L2 by omega);have HL1:=Lib.hid hL1;have HL2:=Lib.hid (show(Dg.trim es).length<=LIM by omega);have T2:=Lib.hid (fun W hW=>zK A' n' c' es W (K.out.below (w':=W) hW) hm' hc');clear hd he hx hy hm' hle' hL1 hL2 hr1;have hbx:=boxes w (.bool ng) (.slice A n c) (.bool nh) (.slice A' n' c') (.bool false) (.slice none 0 0) 36 36 36
 go_enter Tryz.func133,Tryz.ntmps133
 go_wp2_with fail
 generalize ((w.alloc (.cells #[.bool ng,.slice A n c] 36)).alloc (.cells #[.bool nh,.slice A' n' c'] 36)).alloc (.cells #[.bool false,.slice none 0 0] 36)=W0 at hbx ⊢
 obtain⟨hb0,hsz,c0,c1,c2,c3,q0,q1,f0,f1⟩:=hbx;have hsz0:w.heap.size<W0.heap.size:=by omega
 have hsz1:w.heap.size+1<W0.heap.size:=by omega
 have HB0:=Lib.hid hb0;have S0:=Lib.hid (And.intro c0 (And.intro c1 (And.intro c2 c3)));have Q0:=Lib.hid (And.intro q0 (And.intro q1 (And.intro f0 f1)));have SK:∀ w1:World,Below W0.heap.size W0 w1->w1.cell? ⟨w.heap.size,0,none⟩=some (.bool ng)/\w1.cell? ⟨w.heap.size,1,none⟩=some (.slice A n c)/\w1.cell? ⟨w.heap.size+1,0,none⟩=some (.bool nh)/\w1.cell? ⟨w.heap.size+1,1,none⟩=some (.slice A' n' c') :=
  fun w1 hb=>⟨(hb.cell (p:=⟨w.heap.size,0,none⟩) hsz0).trans c0,(hb.cell (p:=⟨w.heap.size,1,none⟩) hsz0).trans c1,(hb.cell (p:=⟨w.heap.size+1,0,none⟩) hsz1).trans c2,(hb.cell (p:=⟨w.heap.size+1,1,none⟩) hsz1).trans c3⟩
 have HSK:=Lib.hid SK;clear hb0 c0 c1 c2 c3 q0 q1 f0 f1 SK
 go_region_held3 (fun w' => w'.cell? ⟨w.heap.size, 0, none⟩ = some (.bool ng) ∧ w'.cell? ⟨w.heap.size, 1, none⟩ = some (.slice A n c) ∧ w'.cell? ⟨w.heap.size + 1, 0, none⟩ = some (.bool nh) ∧ w'.cell? ⟨w.heap.size + 1, 1, none⟩ = some (.slice A' n' c')) (first | exact S2.out | exact ⟨cell_ret S2.out.1 (by omega), cell_ret S2.out.2.1 (by omega), cell_ret S2.out.2.2.1 (by omega), cell_ret S2.out.2.2.2 (by omega)⟩ | exact S0.out) (first
  |(go_at_call 160;refine(add_any _ x L1 nh A' _ c' (Dg.trim es) _ (R1.out.below HB0.out.drew) (K.out.trim.below HB0.out.drew) (Dg.trim_trimmed es) HL1.out HL2.out).mono ?_;rintro e w2 ⟨v,rfl,⟨neg2,A2,n2,c2,ds2,rfl,hd2⟩,hb2⟩;have HD2:=Lib.hid hd2;have hb12:=VK hb2;have S2:=Lib.hid (HSK.out w2 hb12);have r0:=(hb12.cell (p:=⟨w.heap.size+1+1,0,none⟩) hsz).trans Q0.out.1;have r1:=(hb12.cell (p:=⟨w.heap.size+1+1,1,none⟩) hsz).trans Q0.out.2.1;have g0:=(hb12.frozen (p:=⟨w.heap.size+1+1,0,none⟩) hsz).trans Q0.out.2.2.1;have g1:=(hb12.frozen (p:=⟨w.heap.size+1+1,1,none⟩) hsz).trans Q0.out.2.2.2;have HB2:=Lib.hid hb12;clear hd2 hb2 hb12)
  |(go_at_call 140;refine(T2.out _ HB0.out.drew).mono ?_;rintro e w8 ⟨rfl,rfl⟩))
 go_wp2
 have hbw:Below w.heap.size w w2:=HB0.out.trans (HB2.out.mono HB0.out.size);refine bodyPost_ret (v := .agg #[.bool neg2,.slice A2 n2 c2]) (by simp[results,Tryz.results133,go_sem,r0,r1]) rfl ⟨_,rfl,?_,wK hbw (by omega)⟩;have hN:NInt w2 (.agg #[.bool neg2,.slice A2 n2 c2]) (x+sgn nh (Dg.val (Dg.trim es))) (max L1 (Dg.trim es).length+1):=⟨neg2,A2,n2,c2,ds2,rfl,HD2.out⟩;rw[Dg.val_trim,<- HY.out]at hN;exact(hN.mono (by have:=HT.out;omega)).ret r0 r1
end Go.Proofs.YtkmbnldginonbaaGreat
/- The function common of package bigint: the greatest common divisor by digits. The lengths are below 2^40. -/
namespace Go.Proofs.YtkmbnldginonbaaGreat
open Go.RowKit
theorem common_any (A A' : Option Addr) (n c n' c' L : Nat) (a b : List Nat) (w : World) (ha : Dig w A n a) (hb : Dig w A' n' b) (ta : Dg.trimmed a) (tb : Dg.trimmed b) (hn : n ≤ L) (hn' : n' ≤ L) (hL : L + 1 ≤ LIM) :
  Calls Tryz.prog 161 #[.slice A n c,.slice A' n' c'] w fun e w'=>∃ v,e = .returned v/\IsDig w' v (Nat.gcd (Dg.val a) (Dg.val b)) L/\Below w.heap.size w w':=by
 have HA:=Lib.hid ha;have HB:=Lib.hid hb;have TA:=Lib.hid ta;have TB:=Lib.hid tb;have HLL:=Lib.hid hL;have hLi:(L:Int)<=2^40:=by unfold LIM at hL;omega
 clear ha hb ta tb hL
 go_enter Tryz.func161,Tryz.ntmps161
 go_wp2
 go_loopg [0,1] (Dg.val b) (fun k x y wr=>∃(A1 A2:Option Addr) (n1 c1 n2 c2:Nat) (a1 b1:List Nat),x = .slice A1 n1 c1/\y = .slice A2 n2 c2/\Dig wr A1 n1 a1/\Dig wr A2 n2 b1/\Dg.trimmed a1/\Dg.trimmed b1/\n1<=L/\n2<=L/\Hid (k=Dg.val b1)/\Hid (Nat.gcd (Dg.val a1) (Dg.val b1)=Nat.gcd (Dg.val a) (Dg.val b))/\Below w.heap.size w wr)
 case atStart=>exact⟨A,A',n,c,n',c',a,b,rfl,rfl,HA.out,HB.out,TA.out,TB.out,hn,hn',rfl,rfl,Below.refl _ _⟩
 case round =>
  obtain⟨A1,A2,n1,c1,n2,c2,a1,b1,rfl,rfl,hd1,hd2,t1,t2,hn1,hn2,HK,HG,hbw⟩:=hrel;have H1:=Lib.hid hd1;have H2:=Lib.hid hd2;have T1:=Lib.hid t1;have T2:=Lib.hid t2;clear hd1 hd2 t1 t2;by_cases h0:n2=0
  ·subst h0;have hb1:b1=[]:=List.length_eq_zero_iff.1 H2.out.len.symm;have HBe:=Lib.hid hb1;clear hb1
   go_wp2_with (go_at_call 152;refine(W5 A1 n1 c1 a1 _ H1.out (by have:=HLL.out;omega)).mono ?_;rintro e w1 ⟨A3,c3,rfl,hd3,hc3,hb3⟩;have H3:=Lib.hid hd3;clear hd3)
   go_ret
   refine⟨_,rfl,⟨A3,n1,c3,a1,rfl,H3.out,hc3,hn1,T1.out,?_⟩,zk hbw hb3⟩;have:=HG.out;rw[HBe.out]at this;rw[<- this];simp[Dg.val]
  ·have hpos:0<Dg.val b1:=by
    rcases Nat.eq_zero_or_pos (Dg.val b1)with h | h
    ·have:=(Dg.val_eq_zero T2.out).1 h;have h5:=H2.out.len;rw[this]at h5;exact absurd h5 h0
    ·exact h
   have HP:=Lib.hid hpos;have hdp:decide (0<(n2:Int))=true:=by simp;omega
   have hdp':decide (0<n2)=true:=by simp;omega
   clear hpos;by_cases hw:n1<=2/\n2<=2
   ·obtain⟨hw1,hw2⟩:=hw;have hd1':decide ((n1:Int)<=2)=true:=by simp;omega
    have hd2':decide ((n2:Int)<=2)=true:=by simp;omega
    have hv1:Dg.val a1<Dg.B*Dg.B:=by
     have h1:=Dg.val_lt H1.out.ok;rw[<- H1.out.len]at h1;have h2:Dg.B^n1<=Dg.B^2:=Nat.pow_le_pow_right Dg.B_pos hw1;rw[Nat.pow_two]at h2;omega
    have hv2:Dg.val b1<Dg.B*Dg.B:=by
     have h1:=Dg.val_lt H2.out.ok;rw[<- H2.out.len]at h1;have h2:Dg.B^n2<=Dg.B^2:=Nat.pow_le_pow_right Dg.B_pos hw2;rw[Nat.pow_two]at h2;omega
    have hgL:Nat.gcd (Dg.val a) (Dg.val b)<Dg.B^L:=by
     have h1:=Dg.val_lt H2.out.ok;rw[<- H2.out.len]at h1;have h2:Dg.B^n2<=Dg.B^L:=Nat.pow_le_pow_right Dg.B_pos hn2;have h3:=Nat.gcd_le_right (Dg.val a1) HP.out;rw[HG.out]at h3;omega
    have HV1:=Lib.hid hv1;have HV2:=Lib.hid hv2;have HGL:=Lib.hid hgL;clear hv1 hv2 hgL
    go_wp2_with fail
    refine(word_any A1 n1 c1 a1 _ H1.out hw1).mono ?_;rintro e w1 ⟨rfl,hb1⟩
    go_wp2_with fail
    refine(word_any A2 n2 c2 b1 _ (H2.out.below hb1) hw2).mono ?_;rintro e w2 ⟨rfl,hb2⟩;have hbw2:=zk hbw (zk hb1 hb2);clear hbw hb1 hb2 hd1' hd2' hw1 hw2
    go_wp2_with fail
    go_loopg [5,6] (Dg.val b1) (fun k x y wr=>∃ X Y:Nat,x = .int .u64 X/\y = .int .u64 Y/\Hid (k=Y)/\Hid (X<Dg.B*Dg.B/\Y<Dg.B*Dg.B)/\Hid (Nat.gcd X Y=Nat.gcd (Dg.val a) (Dg.val b))/\Below w.heap.size w wr)
    case atStart=>exact⟨_,_,rfl,rfl,rfl,⟨HV1.out,HV2.out⟩,HG.out,hbw2⟩
    case round =>
     clear hbw2;obtain⟨X,Y,rfl,rfl,HKi,HXY,HGi,hbi⟩:=hrel;by_cases hy:Y=0
     ·subst hy
      go_wp2_with (go_at_call 135;refine(v7 X _ HXY.out.1).mono ?_;rintro e w3 ⟨v,rfl,hv,hb3⟩;have HV:=Lib.hid hv;clear hv)
      go_ret
      have hg:=HGi.out;rw[Nat.gcd_zero_right]at hg;exact⟨_,rfl,by rw[<- hg];exact HV.out.tight (by rw[hg];exact HGL.out),zk hbi hb3⟩
     ·obtain⟨XI,hXI⟩:∃ x:Int,x=X:=⟨_,rfl⟩;obtain⟨YI,hYI⟩:∃ x:Int,x=Y:=⟨_,rfl⟩;obtain⟨r,hr⟩:∃ r,r=X%Y:=⟨_,rfl⟩;have hX0:0<=XI:=by omega
      have hY0:1<=YI:=by omega
      have hr2:XI%YI=(r:Int):=by rw[hXI,hYI,hr,Int.natCast_emod]
      have hr3:XI.tmod YI=(r:Int):=by rw[Int.tmod_eq_emod_of_nonneg hX0];exact hr2
      have hyb:(YI != 0)=true:=by rw[bne_iff_ne];omega
      rw[<- hXI,<- hYI];have HXI:=Lib.hid hXI;have HYI:=Lib.hid hYI;have HR:=Lib.hid hr;have HYn:=Lib.hid (Nat.pos_of_ne_zero hy);clear hXI hYI hr hy
      go_wp2
      go_quiet (fail)
      go_wp2
      go_roundg r
      case measure=>rw[HKi.out,HR.out];exact Nat.mod_lt _ HYn.out
      case rel=>exact⟨Y,r,by rw[HYI.out],by first | rfl | rw[hr2],rfl,⟨HXY.out.2,Nat.lt_trans (by rw[HR.out];exact Nat.mod_lt _ HYn.out) HXY.out.2⟩,by show _=_;rw[HR.out,<- HGi.out,Nat.gcd_comm,<- Nat.gcd_rec,Nat.gcd_comm],xv hbi _⟩
   ·obtain⟨bb,hbb⟩:∃ bb:Bool,decide ((n1:Int)<=2)=bb:=⟨_,rfl⟩;have hbb':bb=true->decide ((n2:Int)<=2)=false:=by
     rintro rfl;simp at hbb ⊢;omega
    clear hw;rcases bb with _ | _
    case' true=>have hbb2:=hbb' rfl
    all_goals
     clear hbb'
     go_wp2_with (go_at_call 173;refine(divide_any A1 A2 n1 c1 n2 c2 a1 b1 _ H1.out H2.out T1.out T2.out (by have:=HLL.out;omega) (by have:=HLL.out;omega) HP.out).mono ?_;rintro e w1 ⟨v1,v2,rfl,hq,⟨A3,n3,c3,r,rfl,hd3,hc3,hn3,t3,hv3⟩,hb3⟩;have H3:=Lib.hid hd3;have HV3:=Lib.hid hv3;clear hd3 hv3 hq)
     go_roundg (Dg.val r)
     case measure=>rw[HV3.out,HK.out];exact Nat.mod_lt _ HP.out
     case rel=>exact⟨_,_,_,_,_,_,_,_,rfl,rfl,H2.out.below hb3,H3.out,T2.out,t3,hn2,by omega,rfl,by show _=_;rw[HV3.out,<- HG.out,Nat.gcd_comm,<- Nat.gcd_rec,Nat.gcd_comm],zk hbw hb3⟩
end Go.Proofs.YtkmbnldginonbaaGreat
/- The function Gcd of package bigint: the greatest common divisor. The lengths are below 2^40. -/
namespace Go.Proofs.YtkmbnldginonbaaGreat
open Go.RowKit
theorem int_gcd_any (v1 v2 : Value) (x y : Int) (L1 L2 : Nat) (w : World) (hv1 : RInt w v1 x L1) (hv2 : RInt w v2 y L2) (hL1 : L1 + 1 ≤ LIM) (hL2 : L2 + 1 ≤ LIM) :
  Calls Tryz.prog 137 #[v1,v2] w fun e w'=>∃ v',e = .returned v'/\NInt w' v' (Nat.gcd x.natAbs y.natAbs) (max L1 L2)/\Below w.heap.size w w':=by
 obtain⟨ng,A,n,c,ds,rfl,hd,hc,hn,hx⟩:=hv1;obtain⟨nh,A',n',c',es,rfl,he,hc',hn',hy⟩:=hv2;have hm:n<=maxLen:=by unfold maxLen;unfold LIM at hL1;omega
 have hm':n'<=maxLen:=by unfold maxLen;unfold LIM at hL2;omega
 have hle:(Dg.trim ds).length<=n:=by have:=zf ds;have:=hd.len;omega
 have hle':(Dg.trim es).length<=n':=by have:=zf es;have:=he.len;omega
 have H:=Lib.hid hd;have K:=Lib.hid he;have HX:=Lib.hid hx;have HY:=Lib.hid hy;have HT1:=Lib.hid (show(Dg.trim ds).length<=max L1 L2 by omega);have HT2:=Lib.hid (show(Dg.trim es).length<=max L1 L2 by omega);have HLL:=Lib.hid (show max L1 L2+1<=LIM by omega);have T1:=Lib.hid (fun W hW=>zK A n c ds W (H.out.below (w':=W) hW) hm hc);have T2:=Lib.hid (fun W hW=>zK A' n' c' es W (K.out.below (w':=W) hW) hm' hc');clear hd he hx hy hm hm' hL1 hL2 hle hle'
 go_enter Tryz.func137,Tryz.ntmps137
 go_wp2_with fail
 have hbx:=boxes w (.bool ng) (.slice A n c) (.bool nh) (.slice A' n' c') (.bool false) (.slice none 0 0) 36 36 36;generalize ((w.alloc (.cells #[.bool ng,.slice A n c] 36)).alloc (.cells #[.bool nh,.slice A' n' c'] 36)).alloc (.cells #[.bool false,.slice none 0 0] 36)=W0 at hbx ⊢
 obtain⟨hb0,hsz,c0,c1,c2,c3,q0,q1,f0,f1⟩:=hbx;have hsz0:w.heap.size<W0.heap.size:=by omega
 have hsz1:w.heap.size+1<W0.heap.size:=by omega
 have HB0:=Lib.hid hb0;have S0:=Lib.hid (And.intro c0 (And.intro c1 (And.intro c2 c3)));have Q0:=Lib.hid (And.intro q0 (And.intro q1 (And.intro f0 f1)));have SK:∀ w1:World,Below W0.heap.size W0 w1->w1.cell? ⟨w.heap.size,0,none⟩=some (.bool ng)/\w1.cell? ⟨w.heap.size,1,none⟩=some (.slice A n c)/\w1.cell? ⟨w.heap.size+1,0,none⟩=some (.bool nh)/\w1.cell? ⟨w.heap.size+1,1,none⟩=some (.slice A' n' c') :=
  fun w1 hb=>⟨(hb.cell (p:=⟨w.heap.size,0,none⟩) hsz0).trans c0,(hb.cell (p:=⟨w.heap.size,1,none⟩) hsz0).trans c1,(hb.cell (p:=⟨w.heap.size+1,0,none⟩) hsz1).trans c2,(hb.cell (p:=⟨w.heap.size+1,1,none⟩) hsz1).trans c3⟩
 have HSK:=Lib.hid SK;clear hb0 c0 c1 c2 c3 q0 q1 f0 f1 SK
 go_region_held3 (fun w' => w'.cell? ⟨w.heap.size, 0, none⟩ = some (.bool ng) ∧ w'.cell? ⟨w.heap.size, 1, none⟩ = some (.slice A n c) ∧ w'.cell? ⟨w.heap.size + 1, 0, none⟩ = some (.bool nh) ∧ w'.cell? ⟨w.heap.size + 1, 1, none⟩ = some (.slice A' n' c')) (first | exact S2.out | exact ⟨cell_ret S2.out.1 (by omega), cell_ret S2.out.2.1 (by omega), cell_ret S2.out.2.2.1 (by omega), cell_ret S2.out.2.2.2 (by omega)⟩ | exact S1.out | exact S0.out) (first
  |(go_at_call 161;refine(common_any A A' _ c _ c' (max L1 L2) (Dg.trim ds) (Dg.trim es) _ (H.out.trim.below HB0.out.drew) (K.out.trim.below HB0.out.drew) (Dg.trim_trimmed ds) (Dg.trim_trimmed es) HT1.out HT2.out HLL.out).mono ?_;rintro e w1 ⟨v,rfl,⟨A1,n1,c1,fs,rfl,hd1,hc1,hn1,_,hv1⟩,hb1⟩;have HD1:=Lib.hid hd1;have HV1:=Lib.hid hv1;have hb1':=VK hb1;have HB1:=Lib.hid hb1';have S1:=Lib.hid (HSK.out w1 hb1');clear hd1 hb1 hb1' hv1)
  |(go_at_call 134;refine(z6 false A1 n1 c1 fs _ HD1.out (by have:=HLL.out;unfold LIM at *;unfold maxLen;omega) hc1).mono ?_;rintro e w2 ⟨v,rfl,⟨neg2,A2,n2,c2,ds2,rfl,hd2⟩,hb2⟩;have HD2:=Lib.hid hd2;have hb12:=zk HB1.out hb2;have S2:=Lib.hid (HSK.out w2 hb12);have r0:=(hb12.cell (p:=⟨w.heap.size+1+1,0,none⟩) hsz).trans Q0.out.1;have r1:=(hb12.cell (p:=⟨w.heap.size+1+1,1,none⟩) hsz).trans Q0.out.2.1;have g0:=(hb12.frozen (p:=⟨w.heap.size+1+1,0,none⟩) hsz).trans Q0.out.2.2.1;have g1:=(hb12.frozen (p:=⟨w.heap.size+1+1,1,none⟩) hsz).trans Q0.out.2.2.2;have HB2:=Lib.hid hb12;clear hd2 hb2 hb12)
  |(go_at_call_of 140 (Value.slice A n c);refine(T1.out _ HB0.out.drew).mono ?_;rintro e w8 ⟨rfl,rfl⟩)
  |(go_at_call 140;refine(T2.out _ HB0.out.drew).mono ?_;rintro e w8 ⟨rfl,rfl⟩))
 go_wp2
 have hbw:Below w.heap.size w w2:=HB0.out.trans (HB2.out.mono HB0.out.size);refine bodyPost_ret (v := .agg #[.bool neg2,.slice A2 n2 c2]) (by simp[results,Tryz.results137,go_sem,r0,r1]) rfl ⟨_,rfl,?_,wK hbw (by omega)⟩;have hN:NInt w2 (.agg #[.bool neg2,.slice A2 n2 c2]) (sgn false (Dg.val fs)) n1:=⟨neg2,A2,n2,c2,ds2,rfl,HD2.out⟩;have e1:x.natAbs=Dg.val ds:=by rw[HX.out];cases ng <;> simp[sgn]
 have e2:y.natAbs=Dg.val es:=by rw[HY.out];cases nh <;> simp[sgn]
 rw[HV1.out,Dg.val_trim,Dg.val_trim,<- e1,<- e2]at hN;exact(hN.mono hn1).ret r0 r1
end Go.Proofs.YtkmbnldginonbaaGreat
/- The function DivMod of package bigint: quotient and remainder, the remainder not negative. The lengths are below 2^40. -/
namespace Go.Proofs.YtkmbnldginonbaaGreat
open Go.RowKit
theorem sgn_div {p q:Bool} {a b:Nat} (hb:0<b) (h:p=false∨a%b=0):sgn p a / sgn q b=sgn (!(p == q)) (a / b)/\sgn p a%sgn q b=(a%b:Nat):=by
 have hd:=Nat.div_add_mod a b;have hm:=Nat.mod_lt a hb;have key:∀ x y r k:Int,y≠0->0<=r->r<y.natAbs->r+y*k=x->x / y=k/\x%y=r:=by
  intro x y r k hy h0 h1 h2;subst h2;refine⟨?_,?_⟩
  ·rw[Int.add_mul_ediv_left _ _ hy];have:r / y=0:=by
    rcases Int.natAbs_eq y with e | e
    ·rw[e];exact Int.ediv_eq_zero_of_lt h0 (by omega)
    ·rw[e,Int.ediv_neg,Int.ediv_eq_zero_of_lt h0 (by omega)];rfl
   omega
  ·rw[Int.add_mul_emod_self_left];rcases Int.natAbs_eq y with e | e
   ·rw[e];exact Int.emod_eq_of_lt h0 (by omega)
   ·rw[e,Int.emod_neg];exact Int.emod_eq_of_lt h0 (by omega)
 generalize a / b=k at *;generalize a%b=m at *;have hi:(b:Int)*k+m=a:=by rw[<- Int.natCast_mul,<- Int.natCast_add,hd]
 generalize ht:(b:Int)*k=t at *;apply key
 ·cases q <;> simp[sgn] <;> omega
 ·omega
 ·cases q <;> simp[sgn] <;> omega
 ·rcases h with rfl | h
  ·cases q <;> simp[sgn,Int.mul_neg,Int.neg_mul,ht] <;> omega
  ·rw[h]at hi ⊢
   cases p <;> cases q <;> simp[sgn,Int.mul_neg,Int.neg_mul,ht]at hi ⊢ <;> omega
theorem sgn_div_up {q:Bool} {a b:Nat} (hb:0<b) (h:0<a%b):sgn true a / sgn q b=sgn (!(true == q)) (a / b+1)/\sgn true a%sgn q b=(b-a%b:Nat):=by
 have hd:=Nat.div_add_mod a b;have hm:=Nat.mod_lt a hb;have e:∃ c:Nat,c+a=b*(a / b+1)/\c=b-a%b/\c<b:=⟨b-a%b,by rw[Nat.mul_add];omega,rfl,by omega⟩;obtain⟨c,hc,hc2,hc3⟩:=e;rw[<- hc2];generalize a / b+1=k at *;have hi:(c:Int)+a=(b:Int)*k:=by rw[<- Int.natCast_mul,<- Int.natCast_add,hc]
 generalize ht:(b:Int)*k=t at *;have hy:sgn q b≠0:=by cases q <;> simp[sgn] <;> omega
 have hx:sgn true a=c+sgn q b*sgn (!(true == q)) k:=by
  cases q <;> simp[sgn,Int.mul_neg,Int.neg_mul,ht] <;> omega
 have ha:(c:Int)<(sgn q b).natAbs:=by cases q <;> simp[sgn] <;> omega
 rw[hx];refine⟨?_,?_⟩
 ·rw[Int.add_mul_ediv_left _ _ hy];have:(c:Int) / sgn q b=0:=by
   rcases Int.natAbs_eq (sgn q b)with e | e
   ·rw[e];exact Int.ediv_eq_zero_of_lt (by omega) (by omega)
   ·rw[e,Int.ediv_neg,Int.ediv_eq_zero_of_lt (by omega) (by omega)];rfl
  omega
 ·rw[Int.add_mul_emod_self_left];rcases Int.natAbs_eq (sgn q b)with e | e
  ·rw[e];exact Int.emod_eq_of_lt (by omega) (by omega)
  ·rw[e,Int.emod_neg];exact Int.emod_eq_of_lt (by omega) (by omega)
end Go.Proofs.YtkmbnldginonbaaGreat
/- The function DivMod of package bigint at a divisor other than 0: quotient and remainder, the remainder not negative. The lengths are below 2^40. -/
namespace Go.Proofs.YtkmbnldginonbaaGreat
open Go.RowKit
structure Boxes4 (w W : World) (a b c d e f : Value) : Prop where
 below:Below w.heap.size w W
 size:w.heap.size+1+1+1<W.heap.size
 a0:W.cell? ⟨w.heap.size,0,none⟩=some a
 a1:W.cell? ⟨w.heap.size,1,none⟩=some b
 b0:W.cell? ⟨w.heap.size+1,0,none⟩=some c
 b1:W.cell? ⟨w.heap.size+1,1,none⟩=some d
 c0:W.cell? ⟨w.heap.size+1+1,0,none⟩=some e
 c1:W.cell? ⟨w.heap.size+1+1,1,none⟩=some f
 f0:W.frozen? ⟨w.heap.size+1+1,0,none⟩=false
 f1:W.frozen? ⟨w.heap.size+1+1,1,none⟩=false
 d0:W.cell? ⟨w.heap.size+1+1+1,0,none⟩=some e
 d1:W.cell? ⟨w.heap.size+1+1+1,1,none⟩=some f
 g0:W.frozen? ⟨w.heap.size+1+1+1,0,none⟩=false
 g1:W.frozen? ⟨w.heap.size+1+1+1,1,none⟩=false
theorem boxes4 (w:World) (a b c d e f:Value) (t:TypeId):Boxes4 w ((((w.alloc (.cells #[a,b] t)).alloc (.cells #[c,d] t)).alloc (.cells #[e,f] t)).alloc (.cells #[e,f] t)) a b c d e f:=by
 have hx:=boxes w a b c d e f t t t;have hs:(((w.alloc (.cells #[a,b] t)).alloc (.cells #[c,d] t)).alloc (.cells #[e,f] t)).heap.size=w.heap.size+1+1+1:=by simp
 generalize ((w.alloc (.cells #[a,b] t)).alloc (.cells #[c,d] t)).alloc (.cells #[e,f] t)=W at hx hs;obtain⟨h1,h2,h3,h4,h5,h6,h7,h8,h9,h10⟩:=hx;have hb:Below W.heap.size W (W.alloc (.cells #[e,f] t)):=(Below.refl _ _).alloc (Nat.le_refl _) _;have k:(W.alloc (.cells #[e,f] t)).heap[w.heap.size+1+1+1]? = some (.cells #[e,f] t (0,0)):=by rw[<- hs];exact heap_alloc_new _ _
 have l0:w.heap.size<W.heap.size:=by omega
 have l1:w.heap.size+1<W.heap.size:=by omega
 refine⟨h1.trans (hb.mono (by omega)),by simp;omega,(hb.cell (p:=⟨w.heap.size,0,none⟩) l0).trans h3,(hb.cell (p:=⟨w.heap.size,1,none⟩) l0).trans h4,(hb.cell (p:=⟨w.heap.size+1,0,none⟩) l1).trans h5,(hb.cell (p:=⟨w.heap.size+1,1,none⟩) l1).trans h6,(hb.cell (p:=⟨w.heap.size+1+1,0,none⟩) h2).trans h7,(hb.cell (p:=⟨w.heap.size+1+1,1,none⟩) h2).trans h8,(hb.frozen (p:=⟨w.heap.size+1+1,0,none⟩) h2).trans h9,(hb.frozen (p:=⟨w.heap.size+1+1,1,none⟩) h2).trans h10,?_,?_,?_,?_⟩
 ·simp only[World.cell?,k];rfl
 ·simp only[World.cell?,k];rfl
 ·simp only[World.frozen?,k];rfl
 ·simp only[World.frozen?,k];rfl
def DmPost (x y:Int) (L1 L2:Nat) (w:World) (e:Ending) (w':World):Prop:=∃ q r,e = .returned (.tuple #[q,r,.int .i64 0])/\NInt w' q (x / y) (L1+1)/\NInt w' r (x%y) L2/\Below w.heap.size w w'
theorem dm_fin {x y k r : Int} {L1 L2 n3 n4 n5 c5 n6 c6 : Nat} {w w2 w3 : World} {neg5 neg6 : Bool} {A5 A6 : Option Addr} {ds5 ds6 : List Nat}
  (h5:Dig w2 A5 n5 ds5/\n5<=c5/\n5<=n3/\k=sgn neg5 (Dg.val ds5)/\Dg.trimmed ds5/\(neg5=true->0<n5)) (hb3:Below w2.heap.size w2 w3)
  (h6:Dig w3 A6 n6 ds6/\n6<=c6/\n6<=n4/\r=sgn neg6 (Dg.val ds6)/\Dg.trimmed ds6/\(neg6=true->0<n6))
  (e0:w3.cell? ⟨w.heap.size+1+1,0,none⟩=some (.bool false)) (e1:w3.cell? ⟨w.heap.size+1+1,1,none⟩=some (.slice none 0 0))
  (s0:w3.cell? ⟨w.heap.size+1+1+1,0,none⟩=some (.bool false)) (s1:w3.cell? ⟨w.heap.size+1+1+1,1,none⟩=some (.slice none 0 0))
  (hq:x / y=k) (hr:x%y=r) (hn3:n3<=L1+1) (hn4:n4<=L2) (hbw:Below w.heap.size w w3) :
  DmPost x y L1 L2 w (.returned (.tuple #[.agg #[.bool neg5,.slice A5 n5 c5],.agg #[.bool neg6,.slice A6 n6 c6],.int .i64 0])) ((((w3.setCell ⟨w.heap.size+1+1,0,none⟩ (.bool neg5)).setCell ⟨w.heap.size+1+1,1,none⟩ (.slice A5 n5 c5)).setCell ⟨w.heap.size+1+1+1,0,none⟩ (.bool neg6)).setCell ⟨w.heap.size+1+1+1,1,none⟩ (.slice A6 n6 c6)):=by
 have hN5:NInt w2 (.agg #[.bool neg5,.slice A5 n5 c5]) k n3:=⟨neg5,A5,n5,c5,ds5,rfl,h5⟩;have hN6:NInt w3 (.agg #[.bool neg6,.slice A6 n6 c6]) r n4:=⟨neg6,A6,n6,c6,ds6,rfl,h6⟩;rw[<- hq]at hN5;rw[<- hr]at hN6;exact⟨_,_,rfl,(((hN5.mono hn3).below hb3).ret e0 e1).ret (cell_ret s0 (by omega)) (cell_ret s1 (by omega)),((hN6.mono hn4).ret e0 e1).ret (cell_ret s0 (by omega)) (cell_ret s1 (by omega)),wK (wK hbw (by omega)) (by omega)⟩
theorem divMod_any (v1 v2 : Value) (x y : Int) (L1 L2 : Nat) (w : World) (hv1 : RInt w v1 x L1) (hv2 : RInt w v2 y L2) (hL1 : L1 + 2 ≤ LIM) (hL2 : L2 + 1 ≤ LIM) (hy0 : y ≠ 0) :
  Calls Tryz.prog 162 #[v1,v2] w (DmPost x y L1 L2 w):=by
 obtain⟨ng,A,n,c,ds,rfl,hd,hc,hn,hx⟩:=hv1;obtain⟨nh,A',n',c',es,rfl,he,hc',hn',hy⟩:=hv2;have hm:n<=maxLen:=by unfold maxLen;unfold LIM at hL1;omega
 have hm':n'<=maxLen:=by unfold maxLen;unfold LIM at hL2;omega
 have hle:(Dg.trim ds).length<=n:=by have:=zf ds;have:=hd.len;omega
 have hle':(Dg.trim es).length<=n':=by have:=zf es;have:=he.len;omega
 have hpos:0<Dg.val es:=by
  rcases Nat.eq_zero_or_pos (Dg.val es)with h | h
  ·rw[h]at hy;exact absurd (by rw[hy];cases nh <;> rfl) hy0
  ·exact h
 have hlp:=(trim_pos es).2 hpos;have hb0:(((Dg.trim es).length:Int) == 0)=false:=by rw[beq_eq_false_iff_ne];omega
 have H:=Lib.hid hd;have K:=Lib.hid he;have HX:=Lib.hid hx;have HY:=Lib.hid hy;have HT1:=Lib.hid (show(Dg.trim ds).length<=L1 by omega);have HT2:=Lib.hid (show(Dg.trim es).length<=L2 by omega);have HL1:=Lib.hid hL1;have HL2:=Lib.hid hL2;have HP:=Lib.hid hpos;have T1:=Lib.hid (fun W hW=>zK A n c ds W (H.out.below (w':=W) hW) hm hc);have T2:=Lib.hid (fun W hW=>zK A' n' c' es W (K.out.below (w':=W) hW) hm' hc');clear hd he hx hy hm hm' hL1 hL2 hle hle' hpos hlp hy0;have hbx:=boxes4 w (.bool ng) (.slice A n c) (.bool nh) (.slice A' n' c') (.bool false) (.slice none 0 0) 36
 go_enter Tryz.func162,Tryz.ntmps162
 go_wp2_with fail
 generalize (((w.alloc (.cells #[.bool ng,.slice A n c] 36)).alloc (.cells #[.bool nh,.slice A' n' c'] 36)).alloc (.cells #[.bool false,.slice none 0 0] 36)).alloc (.cells #[.bool false,.slice none 0 0] 36)=W0 at hbx ⊢
 obtain⟨hb0',hsz,c0,c1,c2,c3,q0,q1,f0,f1,p0,p1,g0,g1⟩:=hbx;have hsz0:w.heap.size<W0.heap.size:=by omega
 have hsz1:w.heap.size+1<W0.heap.size:=by omega
 have hsz2:w.heap.size+1+1<W0.heap.size:=by omega
 have HB0:=Lib.hid hb0';refine(T2.out _ HB0.out).mono ?_;rintro e w8 ⟨rfl,rfl⟩
 go_wp2_with fail
 refine(T1.out _ HB0.out).mono ?_;rintro e w8 ⟨rfl,rfl⟩
 go_wp2_with fail
 refine(divide_any _ _ _ _ _ _ (Dg.trim ds) (Dg.trim es) _ (H.out.trim.below HB0.out) (K.out.trim.below HB0.out) (Dg.trim_trimmed ds) (Dg.trim_trimmed es) (by have:=HT1.out;have:=HL1.out;omega) (by have:=HT2.out;have:=HL2.out;omega) (by rw[Dg.val_trim];exact HP.out)).mono ?_;rintro e w1 ⟨u1,u2,rfl,⟨A3,n3,k3,qs,rfl,hd3,hk3,hn3,_,hv3⟩,⟨A4,n4,k4,rs,rfl,hd4,hk4,hn4,ht4,hv4⟩,hb1⟩;rw[Dg.val_trim,Dg.val_trim]at hv3 hv4;have H3:=Lib.hid hd3;have HV3:=Lib.hid hv3;have H4:=Lib.hid hd4;have HV4:=Lib.hid hv4;have HT4:=Lib.hid ht4;have HM3:=Lib.hid (show n3<=maxLen by have:=HT1.out;have:=HL1.out;unfold LIM at *;unfold maxLen;omega);have HM4:=Lib.hid (show n4<=maxLen by have:=HT2.out;have:=HL2.out;unfold LIM at *;unfold maxLen;omega);have HN3:=Lib.hid hn3;have HN4:=Lib.hid hn4;have c0:=(hb1.cell (p:=⟨w.heap.size,0,none⟩) hsz0).trans c0;have c2:=(hb1.cell (p:=⟨w.heap.size+1,0,none⟩) hsz1).trans c2;have HB1:=Lib.hid hb1;clear hd3 hd4 hv3 hv4 ht4 hb1 hb0' c1 c3;have hng:ng=false∨(ng=true/\n4=0)∨(ng=true/\0<n4):=by
  rcases Bool.eq_false_or_eq_true ng with h | h
  ·rcases Nat.eq_zero_or_pos n4 with h2 | h2
   ·exact .inr (.inl ⟨h,h2⟩)
   ·exact .inr (.inr ⟨h,h2⟩)
  ·exact .inl h
 rcases hng with rfl | ⟨rfl,rfl⟩ | ⟨rfl,hn4⟩
 ·have HZ:=Lib.hid (sgn_div (p:=false) (q:=nh) (a:=Dg.val ds) HP.out (.inl rfl))
  go_wp2_with fail
  refine(z6 nh A3 n3 k3 qs _ H3.out HM3.out hk3).mono ?_;rintro e w2 ⟨v,rfl,⟨neg5,A5,n5,c5,ds5,rfl,hd5⟩,hb2⟩;have HB2:=Lib.hid hb2;have H5:=Lib.hid hd5;clear hd5 hb2
  go_wp2_with fail
  refine(z6 false A4 n4 k4 rs _ (H4.out.below HB2.out) HM4.out hk4).mono ?_;rintro e w3 ⟨v,rfl,⟨neg6,A6,n6,c6,ds6,rfl,hd6⟩,hb3⟩;have HB3:=Lib.hid hb3;have H6:=Lib.hid hd6;clear hd6 hb3;have hbw:Below W0.heap.size W0 w3:=zk (zk HB1.out HB2.out) HB3.out;have e0:=(hbw.cell (p:=⟨w.heap.size+1+1,0,none⟩) hsz2).trans q0;have e1:=(hbw.cell (p:=⟨w.heap.size+1+1,1,none⟩) hsz2).trans q1;have e2:=(hbw.frozen (p:=⟨w.heap.size+1+1,0,none⟩) hsz2).trans f0;have e3:=(hbw.frozen (p:=⟨w.heap.size+1+1,1,none⟩) hsz2).trans f1;have s0:=(hbw.cell (p:=⟨w.heap.size+1+1+1,0,none⟩) hsz).trans p0;have s1:=(hbw.cell (p:=⟨w.heap.size+1+1+1,1,none⟩) hsz).trans p1;have s2:=(hbw.frozen (p:=⟨w.heap.size+1+1+1,0,none⟩) hsz).trans g0;have s3:=(hbw.frozen (p:=⟨w.heap.size+1+1+1,1,none⟩) hsz).trans g1;have HBW:=Lib.hid (HB0.out.trans (hbw.mono HB0.out.size));clear q0 q1 f0 f1 p0 p1 g0 g1 hbw
  go_wp2
  refine bodyPost_ret (v := .tuple #[.agg #[.bool neg5,.slice A5 n5 c5],.agg #[.bool neg6,.slice A6 n6 c6],.int .i64 0]) (by simp[results,Tryz.results162,go_sem,e0,e1,s0,s1]) rfl (dm_fin H5.out HB3.out H6.out e0 e1 s0 s1 ?_ ?_ ?_ ?_ HBW.out)
  ·rw[HX.out,HY.out,HZ.out.1,HV3.out];cases nh <;> rfl
  ·rw[HX.out,HY.out,HZ.out.2,HV4.out];rfl
  ·have:=HN3.out;have:=HT1.out;omega
  ·have:=HN4.out;have:=HT2.out;omega
 ·have hz:Dg.val ds%Dg.val es=0:=by
   have h5:=H4.out.len;have:rs=[]:=List.length_eq_zero_iff.1 (by omega);rw[<- HV4.out,this];rfl
  have HZ:=Lib.hid (sgn_div (p:=true) (q:=nh) (a:=Dg.val ds) HP.out (.inr hz));clear hz
  go_wp2_with fail
  refine(z6 (!nh) A3 n3 k3 qs _ H3.out HM3.out hk3).mono ?_;rintro e w2 ⟨v,rfl,⟨neg5,A5,n5,c5,ds5,rfl,hd5⟩,hb2⟩;have HB2:=Lib.hid hb2;have H5:=Lib.hid hd5;clear hd5 hb2
  go_wp2_with fail
  refine(z6 false A4 0 k4 rs _ (H4.out.below HB2.out) HM4.out hk4).mono ?_;rintro e w3 ⟨v,rfl,⟨neg6,A6,n6,c6,ds6,rfl,hd6⟩,hb3⟩;have HB3:=Lib.hid hb3;have H6:=Lib.hid hd6;clear hd6 hb3;have hbw:Below W0.heap.size W0 w3:=zk (zk HB1.out HB2.out) HB3.out;have e0:=(hbw.cell (p:=⟨w.heap.size+1+1,0,none⟩) hsz2).trans q0;have e1:=(hbw.cell (p:=⟨w.heap.size+1+1,1,none⟩) hsz2).trans q1;have e2:=(hbw.frozen (p:=⟨w.heap.size+1+1,0,none⟩) hsz2).trans f0;have e3:=(hbw.frozen (p:=⟨w.heap.size+1+1,1,none⟩) hsz2).trans f1;have s0:=(hbw.cell (p:=⟨w.heap.size+1+1+1,0,none⟩) hsz).trans p0;have s1:=(hbw.cell (p:=⟨w.heap.size+1+1+1,1,none⟩) hsz).trans p1;have s2:=(hbw.frozen (p:=⟨w.heap.size+1+1+1,0,none⟩) hsz).trans g0;have s3:=(hbw.frozen (p:=⟨w.heap.size+1+1+1,1,none⟩) hsz).trans g1;have HBW:=Lib.hid (HB0.out.trans (hbw.mono HB0.out.size));clear q0 q1 f0 f1 p0 p1 g0 g1 hbw
  go_wp2
  refine bodyPost_ret (v := .tuple #[.agg #[.bool neg5,.slice A5 n5 c5],.agg #[.bool neg6,.slice A6 n6 c6],.int .i64 0]) (by simp[results,Tryz.results162,go_sem,e0,e1,s0,s1]) rfl (dm_fin H5.out HB3.out H6.out e0 e1 s0 s1 ?_ ?_ ?_ ?_ HBW.out)
  ·rw[HX.out,HY.out,HZ.out.1,HV3.out];cases nh <;> rfl
  ·rw[HX.out,HY.out,HZ.out.2,HV4.out];rfl
  ·have:=HN3.out;have:=HT1.out;omega
  ·have:=HN4.out;have:=HT2.out;omega
 ·have hgt:decide ((0:Int)<(n4:Int))=true:=decide_eq_true (by omega);have hgt':decide (0<n4)=true:=decide_eq_true hn4;have hrp:0<Dg.val ds%Dg.val es:=by
   rw[<- HV4.out];refine(trim_pos rs).1 ?_;rw[Dg.trim_of_trimmed H4.out.ok HT4.out];have:=H4.out.len;omega
  have HZ:=Lib.hid (sgn_div_up (q:=nh) HP.out hrp);have HLP:=Lib.hid (show 0<(Dg.trim ds).length from(trim_pos ds).2 (Nat.lt_of_lt_of_le hrp (Nat.mod_le _ _)));have HM8:=Lib.hid (show n3<=LIM/\1<=LIM by have:=HN3.out;have:=HT1.out;have:=HL1.out;omega);have hone:Dg.ok [1]:=by intro d hd;simp at hd;subst hd;decide
  clear hrp;clear hn4
  go_wp2_with fail
  refine(plus_any A3 (some ⟨w1.heap.size,0,none⟩) n3 k3 1 1 qs [1] _ (H3.out.alloc _) (Dig.of_block (ds:=[1]) (heap_alloc_new _ _) rfl hone) HM8.out.1 HM8.out.2).mono ?_;rintro e w4 ⟨g,m,o,rfl,hm9,hdp,hvp,hbp⟩;have HP2:=Lib.hid hdp;have HVP:=Lib.hid (show Dg.val o=Dg.val ds / Dg.val es+1 by rw[hvp,HV3.out];rfl);have HBP:=Lib.hid (zk HB1.out (zk ((Below.refl _ _).alloc (Nat.le_refl _) _) hbp));have HB8:=Lib.hid (zk ((Below.refl w1.heap.size w1).alloc (Nat.le_refl _) _) hbp);have HM7:=Lib.hid (show m<=L1+1 by have:=HN3.out;have:=HT1.out;have:=HLP.out;omega);have HM5:=Lib.hid (show m<=maxLen by have:=HM7.out;have:=HL1.out;unfold LIM at *;unfold maxLen;omega);clear hdp hvp hbp hm9
  go_wp2_with fail
  refine(less_any A' A4 (Dg.trim es).length c' n4 k4 (Dg.trim es) rs _ ((K.out.trim.below HB0.out).below HBP.out) (H4.out.below HB8.out) (by have:=HT2.out;have:=HL2.out;omega) HN4.out (by rw[Dg.val_trim,HV4.out];exact Nat.le_of_lt (Nat.mod_lt _ HP.out))).mono ?_;rintro e w5 ⟨g7,o7,rfl,hd7,hv7,hbl⟩;have HP7:=Lib.hid hd7;have HVL:=Lib.hid (show Dg.val o7=Dg.val es-Dg.val ds%Dg.val es by rw[Dg.val_trim,HV4.out]at hv7;omega);have HBL:=Lib.hid hbl;have HM6:=Lib.hid (show(Dg.trim es).length<=maxLen by have:=HT2.out;have:=HL2.out;unfold LIM at *;unfold maxLen;omega);have c0:=((zk HB8.out HBL.out).cell (p:=⟨w.heap.size,0,none⟩) (Nat.lt_of_lt_of_le hsz0 HB1.out.size)).trans c0;have c2:=((zk HB8.out HBL.out).cell (p:=⟨w.heap.size+1,0,none⟩) (Nat.lt_of_lt_of_le hsz1 HB1.out.size)).trans c2;clear hd7 hv7 hbl
  go_wp2_with fail
  refine(z6 (!nh) (some ⟨g,0,none⟩) m m o _ (HP2.out.below HBL.out) HM5.out (Nat.le_refl _)).mono ?_;rintro e w2 ⟨v,rfl,⟨neg5,A5,n5,c5,ds5,rfl,hd5⟩,hb2⟩;have HB2:=Lib.hid hb2;have H5:=Lib.hid hd5;clear hd5 hb2
  go_wp2_with fail
  refine(z6 false (some ⟨g7,0,none⟩) (Dg.trim es).length (Dg.trim es).length o7 _ (HP7.out.below HB2.out) HM6.out (Nat.le_refl _)).mono ?_;rintro e w3 ⟨v,rfl,⟨neg6,A6,n6,c6,ds6,rfl,hd6⟩,hb3⟩;have HB3:=Lib.hid hb3;have H6:=Lib.hid hd6;clear hd6 hb3;have hbw:Below W0.heap.size W0 w3:=zk (zk (zk HBP.out HBL.out) HB2.out) HB3.out;have e0:=(hbw.cell (p:=⟨w.heap.size+1+1,0,none⟩) hsz2).trans q0;have e1:=(hbw.cell (p:=⟨w.heap.size+1+1,1,none⟩) hsz2).trans q1;have e2:=(hbw.frozen (p:=⟨w.heap.size+1+1,0,none⟩) hsz2).trans f0;have e3:=(hbw.frozen (p:=⟨w.heap.size+1+1,1,none⟩) hsz2).trans f1;have s0:=(hbw.cell (p:=⟨w.heap.size+1+1+1,0,none⟩) hsz).trans p0;have s1:=(hbw.cell (p:=⟨w.heap.size+1+1+1,1,none⟩) hsz).trans p1;have s2:=(hbw.frozen (p:=⟨w.heap.size+1+1+1,0,none⟩) hsz).trans g0;have s3:=(hbw.frozen (p:=⟨w.heap.size+1+1+1,1,none⟩) hsz).trans g1;have HBW:=Lib.hid (HB0.out.trans (hbw.mono HB0.out.size));clear q0 q1 f0 f1 p0 p1 g0 g1 hbw
  go_wp2
  refine bodyPost_ret (v := .tuple #[.agg #[.bool neg5,.slice A5 n5 c5],.agg #[.bool neg6,.slice A6 n6 c6],.int .i64 0]) (by simp[results,Tryz.results162,go_sem,e0,e1,s0,s1]) rfl (dm_fin H5.out HB3.out H6.out e0 e1 s0 s1 ?_ ?_ ?_ ?_ HBW.out)
  ·rw[HX.out,HY.out,HZ.out.1,HVP.out];cases nh <;> rfl
  ·rw[HX.out,HY.out,HZ.out.2,HVL.out];rfl
  ·exact HM7.out
  ·exact HT2.out
end Go.Proofs.YtkmbnldginonbaaGreat
namespace Go.Proofs.YtkmbnldginonbaaGreat
open Go.RowKit
theorem dsC_dig {D:Nat->Prop} {w:World} {ρ:List Loc} {l:List Nat} {v:Value} (ho:Dg.ok l) (h:CRel D w ρ (dsC l) v):∃ A c,v = .slice A l.length c/\l.length<=c/\Dig w A l.length l:=by
 obtain⟨A,c,h1,h2,h3⟩:=h;refine⟨A,c,h1,h2,rfl,ho,fun hn=>?_⟩;obtain⟨b,o,hA,hb,_,hc⟩:=h3 hn;refine⟨b,o,hA,hb,fun i hi=>?_⟩;obtain⟨u,hu,hr⟩:=hc i 0 hi (by omega);have hr':u = .int .u32 (l.getD i 0:Nat):=hr;rw[show o+(i*1+0)=o+i by omega]at hu;rw[hu,hr'];simp[List.getD,hi]
theorem dig_dsC {D:Nat->Prop} {w:World} {ρ:List Loc} {l:List Nat} {A:Option Addr} {c:Nat} (h:Dig w A l.length l) (hc:l.length<=c) (hD:∀ b o,0<l.length->A=some ⟨b,o,none⟩->¬ D b):CRel D w ρ (dsC l) (.slice A l.length c):=by
 refine⟨A,c,rfl,hc,fun hn=>?_⟩;obtain⟨b,o,hA,hb,hcell⟩:=h.2.2 hn;refine⟨b,o,hA,hb,hD b o hn hA,fun i j hi hj=>?_⟩;have hj0:j=0:=by omega
 subst hj0;refine⟨_,by rw[show o+(i*1+0)=o+i by omega];exact hcell i hi,?_⟩;show Value.int .u32 _=_;simp[List.getD,hi]
theorem zr_rint {D:Nat->Prop} {w:World} {ρ:List Loc} {a:RawZ} {v:Value} (ho:Dg.ok a.ds) (h:VRel D w ρ (.g (zr a)) v):RInt w v a.val a.ds.length:=by
 obtain⟨vs,rfl,h2⟩:=h;match hv:vs.toList,h2 with
 | [x,y],h2 =>
  obtain⟨h3,h4,_⟩:=h2;obtain⟨A,c,h5,h6,h7⟩:=dsC_dig ho h4;have hvs:vs=#[x,y]:=by rw[<- Array.toList_inj];simpa using hv
  rw[hvs,show x = .bool a.neg from h3,h5];exact⟨a.neg,A,a.ds.length,c,a.ds,rfl,h7,h6,Nat.le_refl _,rfl⟩
 | [],h2=>exact h2.elim
 | [_],h2=>exact h2.2.elim
 | _ :: _ :: _ :: _,h2=>exact h2.2.2.elim
theorem dig_free {D:Nat->Prop} {w w':World} (hD:∀ b,D b->b<w.heap.size) (hU:∀(b o:Nat) (d:Int),D b->w.cell? ⟨b,o,none⟩≠some (.int .u32 d)) (hb:Below w.heap.size w w') {l:List Nat} {A:Option Addr} (h:Dig w' A l.length l):∀ b o,0<l.length->A=some ⟨b,o,none⟩->¬ D b:=by
 intro b o hn hA hx;obtain⟨b',o',hA',_,hc⟩:=h.2.2 hn;rw[hA]at hA';injection hA' with e;injection e with e1 e2;subst e1;subst e2;have h1:=hc 0 hn;rw[hb.cell (p:=⟨b,o+0,none⟩) (hD b hx)]at h1;exact hU b _ _ hx h1
theorem gW {D:Nat->Prop} {w w':World} (hD:∀ b,D b->b<w.heap.size) (hU:∀(b o:Nat) (d:Int),D b->w.cell? ⟨b,o,none⟩≠some (.int .u32 d)) (hb:Below w.heap.size w w') {v:Value} {x:Int} {L:Nat} (h:NInt w' v x L):VRel D w' [] (.g (nz x)) v:=by
 obtain⟨neg,A,n,c,ds,rfl,hd,hc,_,hx,ht,hneg⟩:=h;have hl:=hd.len;have hval:Dg.val ds=x.natAbs:=by
  rw[hx];unfold sgn;cases neg <;> simp
 have hds:ds=qj x.natAbs:=digs_unique hd.ok ht hval;have hn:neg=decide (x<0):=by
  cases neg with
  | false=>rw[hx];simp[sgn]
  | true =>
   have h0:=hneg rfl;have hp:0<Dg.val ds:=by
    rcases Nat.eq_zero_or_pos (Dg.val ds)with e | e
    ·rw[(Dg.val_eq_zero ht).1 e]at hl;simp at hl;omega
    ·exact e
   rw[hx];simp[sgn];omega
 refine⟨#[.bool neg,.slice A n c],rfl,?_,?_,trivial⟩
 ·show Value.bool neg = .bool (decide (x<0));rw[hn]
 ·show CRel D w' [] (dsC (qj x.natAbs)) (.slice A n c);rw[<- hds];subst hl;exact dig_dsC hd hc (dig_free hD hU hb hd)
theorem fnok_z1 {f:FuncId} (hbd:x8 Tryz.prog f=true) {a:RawZ} {X:V} (ho:Dg.ok a.ds) (h:∀(v:Value) (w:World) (D:Nat->Prop),(∀ b,D b->b<w.heap.size)->(∀(b o:Nat) (d:Int),D b->w.cell? ⟨b,o,none⟩≠some (.int .u32 d))->RInt w v a.val a.ds.length->Calls Tryz.prog f #[v] w fun e w'=>∃ v',e = .returned v'/\VRel D w' [] X v'/\Below w.heap.size w w'):FnOK Tryz.prog true f [.g (zr a)] X:=by
 refine⟨hbd,?_⟩;intro D w vs hD hU hargs;match vs,hargs with
 | [v],hargs=>exact h v w D hD (hU rfl) (zr_rint ho hargs.1)
 | [],hargs=>exact hargs.elim
 | _ :: _ :: _,hargs=>exact hargs.2.elim
theorem fnok_z2 {f:FuncId} (hbd:x8 Tryz.prog f=true) {a b:RawZ} {X:V} (ho:Dg.ok a.ds) (ho':Dg.ok b.ds) (h:∀(v v2:Value) (w:World) (D:Nat->Prop),(∀ b,D b->b<w.heap.size)->(∀(b o:Nat) (d:Int),D b->w.cell? ⟨b,o,none⟩≠some (.int .u32 d))->RInt w v a.val a.ds.length->RInt w v2 b.val b.ds.length->Calls Tryz.prog f #[v,v2] w fun e w'=>∃ v',e = .returned v'/\VRel D w' [] X v'/\Below w.heap.size w w'):FnOK Tryz.prog true f [.g (zr a),.g (zr b)] X:=by
 refine⟨hbd,?_⟩;intro D w vs hD hU hargs;match vs,hargs with
 | [v,v2],hargs=>exact h v v2 w D hD (hU rfl) (zr_rint ho hargs.1) (zr_rint ho' hargs.2.1)
 | [],hargs=>exact hargs.elim
 | [_],hargs=>exact hargs.2.elim
 | _ :: _ :: _ :: _,hargs=>exact hargs.2.2.elim
theorem Ub {a b:RawZ} (ha:Dg.ok a.ds) (hb:Dg.ok b.ds) (hL:a.ds.length+b.ds.length<=LIM):FnOK Tryz.prog true 98 [.g (zr a),.g (zr b)] (.g (nz (a.val*b.val))) :=
 fnok_z2 (by kernel_rfl) ha hb fun v v2 w _ hD hU h1 h2=>(int_mul_any v v2 _ _ _ _ w h1 h2 hL).mono fun _ _ ⟨v',e,h3,h4⟩=>⟨v',e,gW hD hU h4 h3,h4⟩
theorem add_ok {a b:RawZ} (ha:Dg.ok a.ds) (hb:Dg.ok b.ds) (h1:a.ds.length<=LIM) (h2:b.ds.length<=LIM):FnOK Tryz.prog true 133 [.g (zr a),.g (zr b)] (.g (nz (a.val+b.val))) :=
 fnok_z2 (by kernel_rfl) ha hb fun v v2 w _ hD hU g1 g2=>(int_add_any v v2 _ _ _ _ w g1 g2 h1 h2).mono fun _ _ ⟨v',e,h3,h4⟩=>⟨v',e,gW hD hU h4 h3,h4⟩
theorem gcd_ok {a b:RawZ} (ha:Dg.ok a.ds) (hb:Dg.ok b.ds) (h1:a.ds.length+1<=LIM) (h2:b.ds.length+1<=LIM):FnOK Tryz.prog true 137 [.g (zr a),.g (zr b)] (.g (nz (Nat.gcd a.val.natAbs b.val.natAbs:Nat))) :=
 fnok_z2 (by kernel_rfl) ha hb fun v v2 w _ hD hU g1 g2=>(int_gcd_any v v2 _ _ _ _ w g1 g2 h1 h2).mono fun _ _ ⟨v',e,h3,h4⟩=>⟨v',e,gW hD hU h4 h3,h4⟩
theorem neg_ok {a:RawZ} (ha:Dg.ok a.ds) (hL:a.ds.length<=LIM):FnOK Tryz.prog true 110 [.g (zr a)] (.g (nz (-a.val))) :=
 fnok_z1 (by kernel_rfl) ha fun v w _ hD hU h1=>(int_neg_any v _ _ w h1 hL).mono fun _ _ ⟨v',e,h3,h4⟩=>⟨v',e,gW hD hU h4 h3,h4⟩
theorem normal_ok {a:RawZ} (ha:Dg.ok a.ds) (hL:a.ds.length<=LIM):FnOK Tryz.prog true 136 [.g (zr a)] (.g (nz a.val)) :=
 fnok_z1 (by kernel_rfl) ha fun v w _ hD hU h1=>(int_normal_any v _ _ w h1 hL).mono fun _ _ ⟨v',e,h3,h4⟩=>⟨v',e,gW hD hU h4 h3,h4⟩
theorem sign_ok {a:RawZ} (ha:Dg.ok a.ds) (hL:a.ds.length<=LIM):FnOK Tryz.prog true 131 [.g (zr a)] (.c (.int .i64 a.val.sign)) :=
 fnok_z1 (by kernel_rfl) ha fun v w _ _ _ h1=>(int_sign_any v _ _ w h1 hL).mono fun _ _ ⟨e,h4⟩=>⟨_,e,rfl,h4⟩
theorem of_ok {x:Int} (h0 : -9223372036854775808<=x) (h1:x<=9223372036854775807):FnOK Tryz.prog true 96 [.c (.int .i64 x)] (.g (nz x)):=by
 refine⟨by kernel_rfl,?_⟩;intro D w vs hD hU hargs;match vs,hargs with
 | [v],hargs =>
  rw[show v = .int .i64 x from hargs.1];exact(int_of_any x w h0 h1).mono fun _ _ ⟨v',e,h3,h4⟩=>⟨v',e,gW hD (hU rfl) h4 h3,h4⟩
 | [],hargs=>exact hargs.elim
 | _ :: _ :: _,hargs=>exact hargs.2.elim
end Go.Proofs.YtkmbnldginonbaaGreat
/- Types, and the functions DivMod and Exact of package bigint in abstract words. -/
namespace Go.Proofs.YtkmbnldginonbaaGreat
open Go.RowKit
theorem divmod_ok {a b:RawZ} (ha:Dg.ok a.ds) (hb:Dg.ok b.ds) (h1:a.ds.length+2<=LIM) (h2:b.ds.length+1<=LIM) (h0:b.val≠0):FnOK Tryz.prog true 162 [.g (zr a),.g (zr b)] (.t3 (.g (nz (a.val / b.val))) (.g (nz (a.val%b.val))) (.c (.int .i64 0))) :=
 fnok_z2 (by kernel_rfl) ha hb fun v v2 w _ hD hU g1 g2=>(divMod_any v v2 _ _ _ _ w g1 g2 h1 h2 h0).mono fun _ _ ⟨q,r,e,h3,h4,h5⟩=>⟨_,e,⟨q,r,_,rfl,gW hD hU h5 h3,gW hD hU h5 h4,rfl⟩,h5⟩
set_option maxHeartbeats 1000000 in
theorem exact_ok {a b:RawZ} (ha:Dg.ok a.ds) (hb:Dg.ok b.ds) (h1:a.ds.length+2<=LIM) (h2:b.ds.length+1<=LIM) (h0:b.val≠0) (hd:a.val%b.val=0):FnOK Tryz.prog true 138 [.g (zr a),.g (zr b)] (.t2 (.g (nz (a.val / b.val))) (.c (.int .i64 0))):=by
 refine qV (E:=E1) qQ Tryz.func138 rfl mixed (by kernel_rfl) (by kernel_rfl) ?_;conv=>whnf
 refine⟨_,divmod_ok (a:=a) (b:=b) ha hb h1 h2 h0,?_⟩;conv=>whnf
 refine qg (fun h=>?_) fun h=>?_
 ·have h':decide ((qB (a.val%b.val):Int) > 0)=true:=h;rw[hd]at h';exact absurd h' (by decide)
 conv=>whnf
 refine⟨rfl,?_⟩;exact Sub.refl _
theorem neg_nz (x:Int) (h:qB x<=LIM):FnOK Tryz.prog true 110 [.g (nz x)] (.g (nz (-x))):=by
 have:=neg_ok (a:=ofZ x) (jV x) h;rwa [qX]at this
theorem add_nz (x y:Int) (h1:qB x<=LIM) (h2:qB y<=LIM):FnOK Tryz.prog true 133 [.g (nz x),.g (nz y)] (.g (nz (x+y))):=by
 have:=add_ok (a:=ofZ x) (b:=ofZ y) (jV x) (jV y) h1 h2;rwa [qX,qX]at this
theorem gcd_nz (x y:Int) (h1:qB x+1<=LIM) (h2:qB y+1<=LIM):FnOK Tryz.prog true 137 [.g (nz x),.g (nz y)] (.g (nz (Nat.gcd x.natAbs y.natAbs:Nat))):=by
 have:=gcd_ok (a:=ofZ x) (b:=ofZ y) (jV x) (jV y) h1 h2;rwa [qX,qX]at this
theorem exact_nz (x y:Int) (h1:qB x+2<=LIM) (h2:qB y+1<=LIM) (h0:y≠0) (hd:x%y=0):FnOK Tryz.prog true 138 [.g (nz x),.g (nz y)] (.t2 (.g (nz (x / y))) (.c (.int .i64 0))):=by
 have:=exact_ok (a:=ofZ x) (b:=ofZ y) (jV x) (jV y) h1 h2 (by rw[qX];exact h0) (by rw[qX,qX];exact hd);rwa [qX,qX]at this
end Go.Proofs.YtkmbnldginonbaaGreat
namespace Go.Proofs.YtkmbnldginonbaaGreat
def zx (n d:Int):Rat:=(n:Rat) / (d:Rat)
theorem xg (n:Int):zx n 0=0:=by unfold zx;simp[Rat.div_def,Rat.inv_zero]
theorem vj (d:Int):zx 0 d=0:=by unfold zx;simp[Rat.div_def]
theorem ratio_one (n:Int):zx n 1=(n:Rat):=by unfold zx;grind
theorem W3 (n d:Int):zx (-n) (-d)=zx n d:=by
 unfold zx;simp only[Rat.intCast_neg,Rat.div_def];by_cases h:(d:Rat)=0
 ·simp[h,Rat.inv_zero]
 ·generalize (d:Rat)=a at *;generalize (n:Rat)=b at *;grind
theorem Wz (n d:Int):zx (-n) d = -zx n d:=by
 unfold zx;simp only[Rat.intCast_neg,Rat.div_def];grind
theorem cast_ne {d:Int} (h:d≠0):(d:Rat)≠0:=by
 intro e;exact h (by exact_mod_cast e)
theorem ratio_add {n1 d1 n2 d2:Int} (h1:d1≠0) (h2:d2≠0):zx n1 d1+zx n2 d2=zx (n1*d2+n2*d1) (d1*d2):=by
 have g1:=cast_ne h1;have g2:=cast_ne h2;unfold zx;simp only[Rat.intCast_add,Rat.intCast_mul];generalize (d1:Rat)=a at *;generalize (d2:Rat)=b at *;grind
theorem yV (n1 d1 n2 d2:Int):zx n1 d1*zx n2 d2=zx (n1*n2) (d1*d2):=by
 unfold zx;simp only[Rat.intCast_mul,Rat.div_def];by_cases h1:(d1:Rat)=0
 ·simp[h1,Rat.inv_zero]
 ·by_cases h2:(d2:Rat)=0
  ·simp[h2,Rat.inv_zero]
  ·generalize (d1:Rat)=a at *;generalize (d2:Rat)=b at *;grind
theorem ratio_inv (n d:Int):(zx n d)⁻¹=zx d n:=by
 unfold zx;by_cases h1:(d:Rat)=0
 ·simp[h1,Rat.div_def,Rat.inv_zero]
 ·by_cases h2:(n:Rat)=0
  ·simp[h2,Rat.div_def,Rat.inv_zero]
  ·generalize (d:Rat)=a at *;generalize (n:Rat)=b at *;grind
theorem ratio_div (n1 d1 n2 d2:Int):zx n1 d1 / zx n2 d2=zx (n1*d2) (d1*n2):=by
 rw[Rat.div_def,ratio_inv,yV]
theorem zw (x:Rat):zx x.num x.den=x:=by
 unfold zx;have:=Rat.num_divInt_den x;rw[Rat.divInt_eq_div]at this;exact this
theorem ratio_eq_mkRat (n:Int) (d:Nat):zx n d=mkRat n d:=by
 rw[Rat.mkRat_eq_div];unfold zx;norm_cast
theorem Wg {n:Int} {d:Nat} (hd:0<d):(zx n d).num=n / (Int.gcd n d:Int)/\(zx n d).den=d / Int.gcd n d:=by
 rw[ratio_eq_mkRat,<- Rat.normalize_eq_mkRat (Nat.pos_iff_ne_zero.1 hd),Rat.normalize_eq];constructor <;> simp[Int.gcd]
theorem ratio_num_mul {n:Int} {d:Nat} (hd:0<d):(zx n d).num*(Int.gcd n d:Int)=n:=by
 rw[(Wg hd).1];exact Int.ediv_mul_cancel (Int.gcd_dvd_left _ _)
theorem ratio_den_mul {n:Int} {d:Nat} (hd:0<d):(zx n d).den*Int.gcd n d=d:=by
 rw[(Wg hd).2];exact Nat.div_mul_cancel (by exact_mod_cast (Int.gcd_dvd_right n d:(Int.gcd n d:Int)∣d))
theorem gcd_pos_right {n:Int} {d:Nat} (hd:0<d):0<Int.gcd n d:=Int.gcd_pos_of_ne_zero_right _ (by omega)
theorem ratio_sign (n d:Int):(zx n d).num.sign=n.sign*d.sign:=by
 have key:∀(n:Int) (d:Nat),0<d->(zx n d).num.sign=n.sign:=by
  intro n d hd;have h:=ratio_num_mul (n:=n) hd;have g:0<(Int.gcd n d:Int):=by have:=gcd_pos_right (n:=n) hd;omega
  have:((zx n d).num*(Int.gcd n d:Int)).sign=n.sign:=by rw[h]
  rw[Int.sign_mul,Int.sign_eq_one_of_pos g,Int.mul_one]at this;exact this
 rcases Int.lt_trichotomy d 0 with h | h | h
 ·have e:=W3 n d;rw[<- e];obtain⟨k,hk⟩:=Int.eq_ofNat_of_zero_le (show 0 <= -d by omega);rw[hk,key (-n) k (by omega),Int.sign_eq_neg_one_of_neg h,Int.sign_neg];omega
 ·rw[h,xg];simp
 ·obtain⟨k,hk⟩:=Int.eq_ofNat_of_zero_le (show 0<=d by omega);rw[hk,key n k (by omega),<- hk,Int.sign_eq_one_of_pos h];omega
theorem ratio_small {n:Int} {d:Nat} (hd:0<d):(zx n d).num.natAbs<=n.natAbs/\(zx n d).den<=d:=by
 have g:=gcd_pos_right (n:=n) hd;constructor
 ·have h:=congrArg Int.natAbs (ratio_num_mul (n:=n) hd);rw[Int.natAbs_mul,Int.natAbs_natCast]at h;rw[<- h];exact Nat.le_mul_of_pos_right _ g
 ·have h:=ratio_den_mul (n:=n) hd;have:=Nat.le_mul_of_pos_right (zx n d).den g;omega
theorem jf (x:Rat):x.num.sign=0↔x=0:=by
 rw[Int.sign_eq_zero_iff_zero];exact Rat.num_eq_zero
end Go.Proofs.YtkmbnldginonbaaGreat
set_option maxHeartbeats 4000000
namespace Go.Proofs.YtkmbnldginonbaaGreat
open Go.RowKit
structure RawR where
 num:RawZ
 den:RawZ
def RawR.val (q:RawR):Rat:=zx q.num.val q.den.val
def rr (q:RawR):List Cell:=[.bool q.num.neg,dsC q.num.ds,.bool q.den.neg,dsC q.den.ds]
def ofR (x:Rat):RawR:=⟨ofZ x.num,ofZ x.den⟩
abbrev nq (x:Rat):List Cell:=rr (ofR x)
structure RawR.Fit (q : RawR) (L : Nat) : Prop where
 num:Dg.ok q.num.ds
 den:Dg.ok q.den.ds
 numL:q.num.ds.length<=L
 denL:q.den.ds.length<=L
theorem qP (x:Rat):(ofR x).val=x:=by
 unfold RawR.val ofR;simp only[qX];exact zw x
def qlen (x:Rat):Nat:=max (qB x.num) (qB x.den)
theorem zX {x:Rat} {L:Nat} (h:qlen x<=L):(ofR x).Fit L:=by
 unfold qlen at h;exact⟨jV _,jV _,by rw[ofR,yw];omega,by rw[ofR,yw];omega⟩
theorem ofZ_one:ofZ 1=⟨false,[1]⟩:=rfl
theorem jG {x:Int}:qB x=0↔x=0:=by
 unfold qB;rw[List.length_eq_zero_iff];constructor
 ·intro h;have:=wQ x.natAbs;rw[h]at this;simp[Dg.val]at this;omega
 ·intro h;subst h;rfl
theorem ofZ_inj {x y:Int} (h:ofZ x=ofZ y):x=y:=by rw[<- qX x,h,qX]
def SubC (x y:Cell):Prop:=∀ D w v,CRel D w [] x v->CRel D w [] y v
theorem SubC.refl (x:Cell):SubC x x:=fun _ _ _ h=>h
theorem SubC.nil (sz:Nat) (f:Nat->Nat->Cell):SubC .nil (.row sz 0 f):=fun D w v h=>by
 have h:v = .slice none 0 0:=h;exact⟨none,0,h,Nat.le_refl _,fun h=>by omega⟩
theorem Sub.cells {l l':List Cell} (hl:l.length=l'.length) (h:∀(i:Nat) x y,l[i]? = some x->l'[i]? = some y->SubC x y):Sub (.g l) (.g l'):=by
 intro D w v hv;obtain⟨vs,rfl,h2⟩:=hv;refine⟨vs,rfl,CRels.of _ _ (by rw[<- hl];exact h2.length) fun i y v hy hv=>?_⟩;obtain⟨x,hx⟩:∃ x,l[i]? = some x:=⟨_,List.getElem?_eq_getElem (by rw[hl];exact(List.getElem?_eq_some_iff.1 hy).1)⟩;obtain⟨v',hv',hr⟩:=h2.get i x hx;rw[hv]at hv';cases hv';exact h i x y hx hy D w _ hr
theorem Sub.bool {a b:Bool} (h:a=b):Sub (.c (.bool a)) (.c (.bool b)):=by subst h;exact Sub.refl _
theorem one_ok {a:RawZ}:FnOK Tryz.prog true 132 [.g (zr a)] (.c (.bool (decide (a.ds=[1]/\a.neg=false)))):=by
 refine qV (E:=E1) qQ Tryz.func132 rfl mixed (by kernel_rfl) (by kernel_rfl) ?_;conv=>whnf
 refine qg (fun(h:decide ((a.ds.length:Int)=1)=true)=>?_) fun(h:decide ((a.ds.length:Int)=1)=false)=>?_
 ·have hl:a.ds.length=1:=by have h:=of_decide_eq_true h;omega
  obtain⟨x,hx⟩:=List.length_eq_one_iff.1 hl;conv=>whnf
  refine⟨by omega,by omega,?_⟩;conv=>whnf
  refine qg (fun(h2:decide (((a.ds.getD 0 0:Nat):Int)=1)=true)=>?_) fun(h2:decide (((a.ds.getD 0 0:Nat):Int)=1)=false)=>?_
  ·conv=>whnf
   refine⟨rfl,Sub.bool ?_⟩;have h2:=of_decide_eq_true h2;rw[hx]at h2 ⊢
   simp at h2;have:x=1:=by omega
   subst this;cases a.neg <;> rfl
  ·conv=>whnf
   refine⟨rfl,Sub.bool (decide_eq_false ?_).symm⟩;rintro ⟨e,_⟩;rw[e]at h2;exact absurd h2 (by decide)
 ·conv=>whnf
  refine⟨rfl,Sub.bool (decide_eq_false ?_).symm⟩;rintro ⟨e,_⟩;rw[e]at h;exact absurd h (by decide)
theorem one_nz {x:Int}:decide ((ofZ x).ds=[1]/\(ofZ x).neg=false)=decide (x=1):=by
 congr 1;apply propext;constructor
 ·rintro ⟨h1,h2⟩;refine ofZ_inj (y:=1) ?_;rw[ofZ_one];exact(by rw[<- h1,<- h2]:ofZ x=⟨false,[1]⟩)
 ·rintro rfl;exact⟨rfl,rfl⟩
theorem W6 (x:Int):FnOK Tryz.prog true 132 [.g (nz x)] (.c (.bool (decide (x=1)))):=one_nz ▸ one_ok (a:=ofZ x)
theorem Vf (x:Int) {a:RawZ} (h:x=a.val) (ha:Dg.ok a.ds):qB x<=a.ds.length:=by
 refine VG ?_;have:=Dg.val_lt ha;rw[h];unfold RawZ.val sgn;cases a.neg <;> simpa using this
theorem leaf {x:Rat} {n d:Int} (e:ofR x=⟨ofZ n,ofZ d⟩):Sub (.g (rr ⟨ofZ n,ofZ d⟩)) (.g (nq x)):=by
 unfold nq;rw[e];exact Sub.refl _
theorem leaf0 {x:Rat} (e:x=0):Sub (.g [.bool false,.nil,.bool (ofZ 1).neg,dsC (ofZ 1).ds]) (.g (nq x)):=by
 subst e;refine Sub.cells rfl fun i x y hx hy=>?_;match i,hx,hy with
 | 0,hx,hy=>cases hx;cases hy;exact SubC.refl _
 | 1,hx,hy=>cases hx;cases hy;exact SubC.nil _ _
 | 2,hx,hy=>cases hx;cases hy;exact SubC.refl _
 | 3,hx,hy=>cases hx;cases hy;exact SubC.refl _
 | i+4,hx,hy=>simp at hx
theorem parts_one {n d:Int} (h:d=1):ofR (zx n d)=⟨ofZ n,ofZ d⟩:=by
 subst h;rw[ratio_one];unfold ofR;simp
theorem parts {n d:Int} (hd:0<d):ofR (zx n d)=⟨ofZ (n / (Nat.gcd n.natAbs d.natAbs:Nat)),ofZ (d / (Nat.gcd n.natAbs d.natAbs:Nat))⟩:=by
 obtain⟨k,rfl⟩:=Int.eq_ofNat_of_zero_le (show 0<=d by omega);obtain⟨h1,h2⟩:=Wg (n:=n) (d:=k) (by omega);unfold ofR;rw[h1,h2];simp[Int.gcd]
theorem gcd_ne {n d:Int} (hd:0<d):((Nat.gcd n.natAbs d.natAbs:Nat):Int)≠0:=by
 have:=Nat.gcd_pos_of_pos_right n.natAbs (show 0<d.natAbs by omega);omega
theorem gcd_le_right {n d:Int} (hd:0<d):((Nat.gcd n.natAbs d.natAbs:Nat):Int).natAbs<=d.natAbs:=by
 rw[Int.natAbs_natCast];exact Nat.gcd_le_right _ (by omega)
theorem gcd_dvd1 (n d:Int):n%(Nat.gcd n.natAbs d.natAbs:Nat)=0:=Int.emod_eq_zero_of_dvd (Int.ofNat_dvd_left.2 (Nat.gcd_dvd_left _ _))
theorem gcd_dvd2 (n d:Int):d%(Nat.gcd n.natAbs d.natAbs:Nat)=0:=Int.emod_eq_zero_of_dvd (Int.ofNat_dvd_left.2 (Nat.gcd_dvd_right _ _))
theorem over_ok {a b:RawZ} (ha:Dg.ok a.ds) (hb:Dg.ok b.ds) (h1:a.ds.length+3<=LIM) (h2:b.ds.length+3<=LIM):FnOK Tryz.prog true 97 [.g (zr a),.g (zr b)] (.g (nq (zx a.val b.val))):=by
 have hza:=Vf a.val rfl ha;have hzb:=Vf b.val rfl hb;refine qV (E:=E1) qQ Tryz.func97 rfl mixed (by kernel_rfl) (by kernel_rfl) ?_;conv=>whnf
 refine⟨_,normal_ok (a:=a) ha (by omega),?_⟩;conv=>whnf
 refine⟨_,normal_ok (a:=b) hb (by omega),?_⟩;conv=>whnf
 refine qg (fun h=>?_) fun h=>?_
 ·have h:decide ((qB b.val:Int)=0)=false:=gwf h;have hb0:b.val≠0:=fun e=>by rw[jG.2 e]at h;exact absurd h (by decide)
  conv=>whnf
  refine qg (fun(h:decide ((qB a.val:Int)=0)=true)=>?_) fun(h:decide ((qB a.val:Int)=0)=false)=>?_
  ·conv=>whnf
   refine⟨_,of_ok (x:=1) (by omega) (by omega),?_⟩;conv=>whnf
   refine⟨rfl,leaf0 ?_⟩;have:=of_decide_eq_true h;rw[(jG (x:=a.val)).1 (by omega)];exact vj _
  ·conv=>whnf
   refine qg (fun(h:decide (b.val<0)=true)=>?_) fun(h:decide (b.val<0)=false)=>?_
   ·have hneg:=of_decide_eq_true h;have hpos:0 < -b.val:=by omega
    have hr:=(W3 a.val b.val).symm;have hza:=kQ a.val;have hzb:=kQ b.val;conv=>whnf
    refine⟨_,neg_nz a.val (by omega),?_⟩;conv=>whnf
    refine⟨_,neg_nz b.val (by omega),?_⟩;conv=>whnf
    refine⟨_,W6 (-b.val),?_⟩;conv=>whnf
    refine qg (fun(h:decide ((-b.val)=1)=true)=>?_) fun(h:decide ((-b.val)=1)=false)=>?_
    ·conv=>whnf
     refine⟨rfl,leaf ?_⟩;rw[hr];exact parts_one (of_decide_eq_true h)
    ·have hd1:(-b.val)≠1:=of_decide_eq_false h;conv=>whnf
     refine⟨_,gcd_nz (-a.val) (-b.val) (by omega) (by omega),?_⟩;conv=>whnf
     refine⟨_,W6 _,?_⟩;conv=>whnf
     refine qg (fun(h:(!decide (((Nat.gcd (-a.val).natAbs (-b.val).natAbs:Nat):Int)=1))=true)=>?_) fun(h:(!decide (((Nat.gcd (-a.val).natAbs (-b.val).natAbs:Nat):Int)=1))=false)=>?_
     ·conv=>whnf
      refine⟨_,exact_nz (-a.val) (Nat.gcd (-a.val).natAbs (-b.val).natAbs:Nat) (by omega) (by have:=jx (x:=(Nat.gcd (-a.val).natAbs (-b.val).natAbs:Nat)) (y := -b.val) (gcd_le_right hpos);omega) (gcd_ne hpos) (gcd_dvd1 _ _),?_⟩;conv=>whnf
      refine⟨_,exact_nz (-b.val) (Nat.gcd (-a.val).natAbs (-b.val).natAbs:Nat) (by omega) (by have:=jx (x:=(Nat.gcd (-a.val).natAbs (-b.val).natAbs:Nat)) (y := -b.val) (gcd_le_right hpos);omega) (gcd_ne hpos) (gcd_dvd2 _ _),?_⟩;conv=>whnf
      refine⟨rfl,leaf ?_⟩;rw[hr];exact parts hpos
     ·have h:((Nat.gcd (-a.val).natAbs (-b.val).natAbs:Nat):Int)=1:=by simpa using h
      conv=>whnf
      refine⟨rfl,leaf ?_⟩;rw[hr,parts hpos,h];simp
   ·have hneg:=of_decide_eq_false h;have hpos:0<b.val:=by omega
    have hr:zx a.val b.val=zx a.val b.val:=rfl;conv=>whnf
    refine⟨_,W6 (b.val),?_⟩;conv=>whnf
    refine qg (fun(h:decide ((b.val)=1)=true)=>?_) fun(h:decide ((b.val)=1)=false)=>?_
    ·conv=>whnf
     refine⟨rfl,leaf ?_⟩;rw[hr];exact parts_one (of_decide_eq_true h)
    ·have hd1:(b.val)≠1:=of_decide_eq_false h;conv=>whnf
     refine⟨_,gcd_nz (a.val) (b.val) (by omega) (by omega),?_⟩;conv=>whnf
     refine⟨_,W6 _,?_⟩;conv=>whnf
     refine qg (fun(h:(!decide (((Nat.gcd (a.val).natAbs (b.val).natAbs:Nat):Int)=1))=true)=>?_) fun(h:(!decide (((Nat.gcd (a.val).natAbs (b.val).natAbs:Nat):Int)=1))=false)=>?_
     ·conv=>whnf
      refine⟨_,exact_nz (a.val) (Nat.gcd (a.val).natAbs (b.val).natAbs:Nat) (by omega) (by have:=jx (x:=(Nat.gcd (a.val).natAbs (b.val).natAbs:Nat)) (y:=b.val) (gcd_le_right hpos);omega) (gcd_ne hpos) (gcd_dvd1 _ _),?_⟩;conv=>whnf
      refine⟨_,exact_nz (b.val) (Nat.gcd (a.val).natAbs (b.val).natAbs:Nat) (by omega) (by have:=jx (x:=(Nat.gcd (a.val).natAbs (b.val).natAbs:Nat)) (y:=b.val) (gcd_le_right hpos);omega) (gcd_ne hpos) (gcd_dvd2 _ _),?_⟩;conv=>whnf
      refine⟨rfl,leaf ?_⟩;rw[hr];exact parts hpos
     ·have h:((Nat.gcd (a.val).natAbs (b.val).natAbs:Nat):Int)=1:=by simpa using h
      conv=>whnf
      refine⟨rfl,leaf ?_⟩;rw[hr,parts hpos,h];simp
 ·have h:decide ((qB b.val:Int)=0)=true:=gwf' h;conv=>whnf
  refine⟨_,of_ok (x:=1) (by omega) (by omega),?_⟩;conv=>whnf
  refine⟨rfl,leaf0 ?_⟩;have:=of_decide_eq_true h;rw[(jG (x:=b.val)).1 (by omega)];exact xg _
end Go.Proofs.YtkmbnldginonbaaGreat
/- Package rational in abstract words: the operations. -/
namespace Go.Proofs.YtkmbnldginonbaaGreat
open Go.RowKit
theorem over_eq {a b:RawZ} {x:Rat} (hx:zx a.val b.val=x) (ha:Dg.ok a.ds) (hb:Dg.ok b.ds) (h1:a.ds.length+3<=LIM) (h2:b.ds.length+3<=LIM):FnOK Tryz.prog true 97 [.g (zr a),.g (zr b)] (.g (nq x)):=by
 subst hx;exact over_ok ha hb h1 h2
theorem yF {n d:Int} {L:Nat} (hn:qB n<=L) (hd:qB d<=L) (h1:1<=L):qlen (zx n d)<=L:=by
 have z1:qB 1=1:=rfl;have key:∀(n d:Int),0<d->qB n<=L->qB d<=L->qlen (zx n d)<=L:=by
  intro n d h0 hn hd;obtain⟨k,rfl⟩:=Int.eq_ofNat_of_zero_le (show 0<=d by omega);obtain⟨g1,g2⟩:=ratio_small (n:=n) (d:=k) (by omega);have e1:=jx g1;have e2:=jx (x:=((zx n k).den:Int)) (y:=(k:Int)) (by omega);unfold qlen;omega
 rcases Int.lt_trichotomy d 0 with h | h | h
 ·rw[<- W3];exact key _ _ (by omega) (by rw[kQ];exact hn) (by rw[kQ];exact hd)
 ·subst h;rw[xg];show max (qB 0) (qB 1)<=L;rw[z1,jG.2 rfl];omega
 ·exact key _ _ h hn hd
theorem RawR.Fit.zn {q:RawR} {L:Nat} (h:q.Fit L):qB q.num.val<=L:=Nat.le_trans (Vf _ rfl h.num) h.numL
theorem RawR.Fit.zd {q:RawR} {L:Nat} (h:q.Fit L):qB q.den.val<=L:=Nat.le_trans (Vf _ rfl h.den) h.denL
theorem RawR.Fit.qlen {q:RawR} {L:Nat} (h:q.Fit L) (h1:1<=L):qlen q.val<=L:=yF h.zn h.zd h1
theorem RawR.Fit.mono {q:RawR} {L L':Nat} (h:q.Fit L) (h1:L<=L'):q.Fit L':=⟨h.num,h.den,Nat.le_trans h.numL h1,Nat.le_trans h.denL h1⟩
theorem wV {q:RawR} {L:Nat} (h:q.Fit L) (hL:L+3<=LIM):FnOK Tryz.prog true 73 [.g (rr q)] (.g (nq q.val)):=by
 obtain⟨h1,h2,h3,h4⟩:=h;refine qV (E:=E1) qQ Tryz.func73 rfl mixed (by kernel_rfl) (by kernel_rfl) ?_;conv=>whnf
 refine⟨_,over_ok (a:=q.num) (b:=q.den) h1 h2 (by omega) (by omega),?_⟩;conv=>whnf
 exact⟨rfl,Sub.refl _⟩
theorem qof_ok {n:Int} (h0 : -9223372036854775808<=n) (h1:n<=9223372036854775807):FnOK Tryz.prog true 45 [.c (.int .i64 n)] (.g (nq n)):=by
 refine qV (E:=E1) qQ Tryz.func45 rfl mixed (by kernel_rfl) (by kernel_rfl) ?_;conv=>whnf
 refine⟨_,of_ok (x:=n) h0 h1,?_⟩;conv=>whnf
 refine⟨_,of_ok (x:=1) (by omega) (by omega),?_⟩;conv=>whnf
 refine⟨rfl,leaf (x:=(n:Rat)) (n:=n) (d:=1) ?_⟩;unfold ofR;simp
theorem Sub.int {k:IntKind} {a b:Int} (h:a=b):Sub (.c (.int k a)) (.c (.int k b)):=by subst h;exact Sub.refl _
theorem sign_range (a b:Int):inR .i64 (a.sign*b.sign):=by
 have h:∀ a:Int,a.sign = -1∨a.sign=0∨a.sign=1:=fun a=>by
  rcases Int.lt_trichotomy a 0 with h | h | h
  ·exact .inl (Int.sign_eq_neg_one_of_neg h)
  ·subst h;exact .inr (.inl rfl)
  ·exact .inr (.inr (Int.sign_eq_one_of_pos h))
 rcases h a with e | e | e <;> rcases h b with e' | e' | e' <;> rw[e,e'] <;> exact⟨by omega,by omega⟩
theorem qsign_ok {q:RawR} {L:Nat} (h:q.Fit L) (hL:L+3<=LIM):FnOK Tryz.prog true 99 [.g (rr q)] (.c (.int .i64 q.val.num.sign)):=by
 obtain⟨h1,h2,h3,h4⟩:=h;refine qV (E:=E1) qQ Tryz.func99 rfl mixed (by kernel_rfl) (by kernel_rfl) ?_;conv=>whnf
 refine⟨_,sign_ok (a:=q.num) h1 (by omega),?_⟩;conv=>whnf
 refine⟨_,sign_ok (a:=q.den) h2 (by omega),?_⟩;conv=>whnf
 refine⟨sign_range _ _,?_⟩;conv=>whnf
 refine⟨rfl,Sub.int (ratio_sign _ _).symm⟩
theorem qneg_ok {q:RawR} {L:Nat} (h:q.Fit L) (hL:L+3<=LIM):FnOK Tryz.prog true 60 [.g (rr q)] (.g (nq (-q.val))):=by
 have hz:=h.zn;obtain⟨h1,h2,h3,h4⟩:=h;refine qV (E:=E1) qQ Tryz.func60 rfl mixed (by kernel_rfl) (by kernel_rfl) ?_;conv=>whnf
 refine⟨_,neg_ok (a:=q.num) h1 (by omega),?_⟩;conv=>whnf
 refine⟨_,over_eq (a:=ofZ (-q.num.val)) (b:=q.den) (x := -q.val) (by rw[qX];exact Wz _ _) (jV _) h2 (by rw[yw,kQ];omega) (by omega),?_⟩;conv=>whnf
 exact⟨rfl,Sub.refl _⟩
theorem qmul_ok {q p:RawR} {L L':Nat} (h:q.Fit L) (h':p.Fit L') (hL:L+L'+3<=LIM):FnOK Tryz.prog true 46 [.g (rr q),.g (rr p)] (.g (nq (q.val*p.val))):=by
 have z1:=h.zn;have z2:=h.zd;have z3:=h'.zn;have z4:=h'.zd;have y1:=zJ q.num.val p.num.val;have y2:=zJ q.den.val p.den.val;obtain⟨h1,h2,h3,h4⟩:=h;obtain⟨g1,g2,g3,g4⟩:=h';refine qV (E:=E1) qQ Tryz.func46 rfl mixed (by kernel_rfl) (by kernel_rfl) ?_;conv=>whnf
 refine⟨_,Ub (a:=q.num) (b:=p.num) h1 g1 (by omega),?_⟩;conv=>whnf
 refine⟨_,Ub (a:=q.den) (b:=p.den) h2 g2 (by omega),?_⟩;conv=>whnf
 refine⟨_,over_eq (a:=ofZ (q.num.val*p.num.val)) (b:=ofZ (q.den.val*p.den.val)) (x:=q.val*p.val) (by rw[qX,qX];exact(yV _ _ _ _).symm) (jV _) (jV _) (by rw[yw];omega) (by rw[yw];omega),?_⟩;conv=>whnf
 exact⟨rfl,Sub.refl _⟩
theorem leaf1 {x:Rat} {n:Int} (e:x=n):Sub (.g (rr ⟨ofZ n,ofZ 1⟩)) (.g (nq x)):=by
 subst e;exact leaf (by unfold ofR;simp)
theorem RawZ.one_val {a:RawZ} (h:a.ds=[1]/\a.neg=false):a.val=1:=by unfold RawZ.val;rw[h.1,h.2];rfl
theorem qadd_ok {q p:RawR} {L L':Nat} (h:q.Fit L) (h':p.Fit L') (hL:L+L'+4<=LIM):FnOK Tryz.prog true 93 [.g (rr q),.g (rr p)] (.g (nq (q.val+p.val))):=by
 have z1:=h.zn;have z2:=h.zd;have z3:=h'.zn;have z4:=h'.zd;have y1:=zJ q.num.val p.den.val;have y2:=zJ p.num.val q.den.val;have y3:=zJ q.den.val p.den.val;have y4:=zlen_add (q.num.val*p.den.val) (p.num.val*q.den.val);have k1:=h;have k2:=h';obtain⟨h1,h2,h3,h4⟩:=h;obtain⟨g1,g2,g3,g4⟩:=h';refine qV (E:=E1) qQ Tryz.func93 rfl mixed (by kernel_rfl) (by kernel_rfl) ?_;conv=>whnf
 refine⟨_,sign_ok (a:=q.den) h2 (by omega),?_⟩;conv=>whnf
 refine qg (fun(h:decide (q.den.val.sign=0)=true)=>?_) fun(h:decide (q.den.val.sign=0)=false)=>?_
 ·conv=>whnf
  refine⟨_,wV (q:=p) k2 (by omega),?_⟩;conv=>whnf
  refine⟨rfl,?_⟩;rw[show q.val=0 by unfold RawR.val;rw[Int.sign_eq_zero_iff_zero.1 (of_decide_eq_true h),xg],Rat.zero_add];exact Sub.refl _
 have d1:q.den.val≠0:=fun e=>of_decide_eq_false h (by rw[e];rfl);conv=>whnf
 refine⟨_,sign_ok (a:=p.den) g2 (by omega),?_⟩;conv=>whnf
 refine qg (fun(h:decide (p.den.val.sign=0)=true)=>?_) fun(h:decide (p.den.val.sign=0)=false)=>?_
 ·conv=>whnf
  refine⟨_,wV (q:=q) k1 (by omega),?_⟩;conv=>whnf
  refine⟨rfl,?_⟩;rw[show p.val=0 by unfold RawR.val;rw[Int.sign_eq_zero_iff_zero.1 (of_decide_eq_true h),xg],Rat.add_zero];exact Sub.refl _
 have d2:p.den.val≠0:=fun e=>of_decide_eq_false h (by rw[e];rfl);have gen:q.val+p.val=zx (q.num.val*p.den.val+p.num.val*q.den.val) (q.den.val*p.den.val):=ratio_add d1 d2;conv=>whnf
 refine⟨_,one_ok (a:=q.den),?_⟩;conv=>whnf
 refine qg (fun(hq:decide (q.den.ds=[1]/\q.den.neg=false)=true)=>?_) fun(hq:decide (q.den.ds=[1]/\q.den.neg=false)=false)=>?_
 ·have hq:=of_decide_eq_true hq;conv=>whnf
  refine⟨_,one_ok (a:=p.den),?_⟩;conv=>whnf
  refine qg (fun(hp:decide (p.den.ds=[1]/\p.den.neg=false)=true)=>?_) fun(hp:decide (p.den.ds=[1]/\p.den.neg=false)=false)=>?_
  ·have hp:=of_decide_eq_true hp;conv=>whnf
   refine⟨_,add_ok (a:=q.num) (b:=p.num) h1 g1 (by omega) (by omega),?_⟩;conv=>whnf
   refine⟨_,of_ok (x:=1) (by omega) (by omega),?_⟩;conv=>whnf
   refine⟨rfl,leaf1 (n:=q.num.val+p.num.val) ?_⟩;rw[gen,RawZ.one_val hq,RawZ.one_val hp,Int.mul_one,Int.mul_one,Int.mul_one,ratio_one]
  ·conv=>whnf
   refine⟨_,Ub (a:=q.num) (b:=p.den) h1 g2 (by omega),?_⟩;conv=>whnf
   refine⟨_,Ub (a:=p.num) (b:=q.den) g1 h2 (by omega),?_⟩;conv=>whnf
   refine⟨_,add_nz (q.num.val*p.den.val) (p.num.val*q.den.val) (by omega) (by omega),?_⟩;conv=>whnf
   refine⟨_,Ub (a:=q.den) (b:=p.den) h2 g2 (by omega),?_⟩;conv=>whnf
   refine⟨_,over_eq (a:=ofZ (q.num.val*p.den.val+p.num.val*q.den.val)) (b:=ofZ (q.den.val*p.den.val)) (x:=q.val+p.val) (by rw[qX,qX];exact gen.symm) (jV _) (jV _) (by rw[yw];omega) (by rw[yw];omega),?_⟩;conv=>whnf
   exact⟨rfl,Sub.refl _⟩
 ·conv=>whnf
  refine⟨_,Ub (a:=q.num) (b:=p.den) h1 g2 (by omega),?_⟩;conv=>whnf
  refine⟨_,Ub (a:=p.num) (b:=q.den) g1 h2 (by omega),?_⟩;conv=>whnf
  refine⟨_,add_nz (q.num.val*p.den.val) (p.num.val*q.den.val) (by omega) (by omega),?_⟩;conv=>whnf
  refine⟨_,Ub (a:=q.den) (b:=p.den) h2 g2 (by omega),?_⟩;conv=>whnf
  refine⟨_,over_eq (a:=ofZ (q.num.val*p.den.val+p.num.val*q.den.val)) (b:=ofZ (q.den.val*p.den.val)) (x:=q.val+p.val) (by rw[qX,qX];exact gen.symm) (jV _) (jV _) (by rw[yw];omega) (by rw[yw];omega),?_⟩;conv=>whnf
  exact⟨rfl,Sub.refl _⟩
theorem qlen_neg (x:Rat):qlen (-x)=qlen x:=by unfold qlen;simp[kQ]
theorem qsub_ok {q p:RawR} {L L':Nat} (h:q.Fit L) (h':p.Fit L') (h0:1<=L') (hL:L+L'+4<=LIM):FnOK Tryz.prog true 50 [.g (rr q),.g (rr p)] (.g (nq (q.val-p.val))):=by
 have hn:=qlen_neg p.val;have hq:=h'.qlen h0;refine qV (E:=E1) qQ Tryz.func50 rfl mixed (by kernel_rfl) (by kernel_rfl) ?_;conv=>whnf
 refine⟨_,qneg_ok (q:=p) h' (by omega),?_⟩;conv=>whnf
 refine⟨_,qadd_ok (q:=q) (p:=ofR (-p.val)) h (zX (L:=L') (by omega)) hL,?_⟩;conv=>whnf
 refine⟨rfl,?_⟩;rw[qP,<- Rat.sub_eq_add_neg];exact Sub.refl _
theorem qquo_ok {q p:RawR} {L L':Nat} (h:q.Fit L) (h':p.Fit L') (hL:L+L'+4<=LIM) (hp:p.val≠0):FnOK Tryz.prog true 59 [.g (rr q),.g (rr p)] (.t2 (.g (nq (q.val / p.val))) (.c (.int .i64 0))):=by
 have z1:=h.zn;have z2:=h.zd;have z3:=h'.zn;have z4:=h'.zd;have y1:=zJ q.num.val p.den.val;have y2:=zJ q.den.val p.num.val;have k2:=h';obtain⟨h1,h2,h3,h4⟩:=h;obtain⟨g1,g2,g3,g4⟩:=h';refine qV (E:=E1) qQ Tryz.func59 rfl mixed (by kernel_rfl) (by kernel_rfl) ?_;conv=>whnf
 refine⟨_,qsign_ok (q:=p) k2 (by omega),?_⟩;conv=>whnf
 refine qg (fun(h:decide (p.val.num.sign=0)=true)=>?_) fun h=>?_
 ·exact absurd ((jf _).1 (of_decide_eq_true h)) hp
 conv=>whnf
 refine⟨_,Ub (a:=q.num) (b:=p.den) h1 g2 (by omega),?_⟩;conv=>whnf
 refine⟨_,Ub (a:=q.den) (b:=p.num) h2 g1 (by omega),?_⟩;conv=>whnf
 refine⟨_,over_eq (a:=ofZ (q.num.val*p.den.val)) (b:=ofZ (q.den.val*p.num.val)) (x:=q.val / p.val) (by rw[qX,qX];exact(ratio_div _ _ _ _).symm) (jV _) (jV _) (by rw[yw];omega) (by rw[yw];omega),?_⟩;conv=>whnf
 exact⟨rfl,Sub.refl _⟩
end Go.Proofs.YtkmbnldginonbaaGreat
set_option maxHeartbeats 8000000
namespace Go.Proofs.YtkmbnldginonbaaGreat
open Go.RowKit
namespace Rf
theorem same_nz {x y:Int} (h:qB x<=1048576):FnOK Tryz.prog false 51 [.g (nz x),.g (nz y)] (.c (.bool (decide (x=y)))):=by
 refine same_ok (n:=(qj x.natAbs).length) (m:=(qj y.natAbs).length) (a:=ld (qj x.natAbs)) (b:=ld (qj y.natAbs)) h ⟨fun e=>?_,fun⟨h1,h2,h3⟩=>?_⟩
 ·have e:=of_decide_eq_true e;subst e;exact⟨rfl,rfl,fun _ _=>rfl⟩
 ·refine decide_eq_true ?_;have hd:qj x.natAbs=qj y.natAbs:=List.ext_getElem h2 fun i h4 h5=>by
   have:=h3 i h4;unfold ld at this;simpa [List.getD,h4,h5] using this
  have hn:x.natAbs=y.natAbs:=by rw[<- wQ x.natAbs,hd,wQ]
  have h1:decide (x<0)=decide (y<0):=h1;have h1:x<0↔y<0:=decide_eq_decide.1 h1;omega
theorem divd_ok {a b:RawZ} (ha:wr a) (hb:wr b) (h1:qB a.val<=524286) (h2:qB b.val<=524286) (h0:b.val≠0):FnOK Tryz.prog false 146 [.g (zr a),.g (zr b)] (.g (nz (a.val / b.val))):=by
 have h:=euclid_ok ha hb h1 h2 h0;refine qV (E:=E0) qw Tryz.func146 rfl mixed (by kernel_rfl) (by kernel_rfl) ?_;conv=>whnf
 refine⟨_,h,?_⟩;conv=>whnf
 exact⟨rfl,Sub.refl _⟩
theorem vZ {n:Int} (h0 : -9223372036854775808<=n) (h1:n<9223372036854775808):FnOK Tryz.prog false 52 [.c (.int .i64 n)] (.g (nq n)):=by
 have o1:=rof_ok h0 h1;have o2:=rof_ok (x:=1) (by decide) (by decide);refine qV (E:=E0) qw Tryz.func52 rfl mixed (by kernel_rfl) (by kernel_rfl) ?_;conv=>whnf
 refine⟨_,o1,?_⟩;conv=>whnf
 refine⟨_,o2,?_⟩;conv=>whnf
 refine⟨rfl,leaf (x:=(n:Rat)) (n:=n) (d:=1) ?_⟩;unfold ofR;simp
theorem zlen_gcd {x y:Int} {L:Nat} (h:y≠0) (hy:qB y<=L):qB ((Nat.gcd x.natAbs y.natAbs:Nat):Int)<=L :=
 Nat.le_trans (jx (by rw[Int.natAbs_natCast];exact Nat.gcd_le_right _ (by omega))) hy
theorem rover_ok {a b:RawZ} (ha:wr a) (hb:wr b) (h1:qB a.val<=524286) (h2:qB b.val<=524286):FnOK Tryz.prog false 103 [.g (zr a),.g (zr b)] (.g (nq (zx a.val b.val))):=by
 have s0:=zsign_ok hb;have n1:=UQ ha;have n2:=UQ hb;have hG:=gcd_ok ha hb h1 h2;have o0:=vZ (n:=0) (by decide) (by decide);have o1:=rof_ok (x:=1) (by decide) (by decide);rcases Int.lt_trichotomy b.val 0 with c | c | c
 ·have e1:(-a.val) / ((Nat.gcd (-a.val).natAbs (-b.val).natAbs:Nat):Int)=a.val / -((Nat.gcd a.val.natAbs b.val.natAbs:Nat):Int):=by
   rw[Int.natAbs_neg,Int.natAbs_neg,Int.ediv_neg,Int.neg_ediv_of_dvd (Int.ofNat_dvd_left.2 (Nat.gcd_dvd_left _ _))]
  have e2:(-b.val) / ((Nat.gcd (-a.val).natAbs (-b.val).natAbs:Nat):Int)=b.val / -((Nat.gcd a.val.natAbs b.val.natAbs:Nat):Int):=by
   rw[Int.natAbs_neg,Int.natAbs_neg,Int.ediv_neg,Int.neg_ediv_of_dvd (Int.ofNat_dvd_left.2 (Nat.gcd_dvd_right _ _))]
  have hR:=parts (n := -a.val) (d := -b.val) (by omega);rw[W3,e1,e2]at hR;have hz:=zlen_gcd (x:=a.val) (by omega) h2;have hp:0<Nat.gcd a.val.natAbs b.val.natAbs:=Nat.gcd_pos_of_pos_right _ (by omega);generalize Nat.gcd a.val.natAbs b.val.natAbs=G at *;have hN:=zneg_ok (a:=ofZ (G:Nat)) (k6 (by omega));rw[qX]at hN;have hz':qB (-(G:Int))<=524286:=by rw[kQ];exact hz
  have hS:=same_nz (x := -(G:Int)) (y:=1) (by omega);have hd1:=divd_ok ha (b:=ofZ (-(G:Int))) (k6 (by omega)) h1 (by rw[qX];exact hz') (by rw[qX];omega);have hd2:=divd_ok hb (b:=ofZ (-(G:Int))) (k6 (by omega)) h2 (by rw[qX];exact hz') (by rw[qX];omega);rw[qX]at hd1 hd2;have d1:decide (b.val.sign=0)=false:=by rw[Int.sign_eq_neg_one_of_neg c];rfl
  have d2:decide (b.val.sign<0)=true:=by rw[Int.sign_eq_neg_one_of_neg c];rfl
  have d3:decide (-(G:Int)=1)=false:=decide_eq_false (by omega);refine qV (E:=E0) qw Tryz.func103 rfl mixed (by kernel_rfl) (by kernel_rfl) ?_;conv=>whnf
  refine⟨_,s0,?_⟩;conv=>whnf
  refine jj d1 ?_;conv=>whnf
  refine⟨_,hG,?_⟩;conv=>whnf
  refine⟨_,s0,?_⟩;conv=>whnf
  refine xG d2 ?_;conv=>whnf
  refine⟨_,hN,?_⟩;conv=>whnf
  refine⟨_,o1,?_⟩;conv=>whnf
  refine⟨_,hS,?_⟩;conv=>whnf
  refine jj d3 ?_;conv=>whnf
  refine⟨_,hd1,?_⟩;conv=>whnf
  refine⟨_,hd2,?_⟩;conv=>whnf
  exact⟨rfl,leaf hR⟩
 ·have d1:decide (b.val.sign=0)=true:=by rw[c];rfl
  have hR:zx a.val b.val=0:=by rw[c];exact xg _
  rw[hR];refine qV (E:=E0) qw Tryz.func103 rfl mixed (by kernel_rfl) (by kernel_rfl) ?_;conv=>whnf
  refine⟨_,s0,?_⟩;conv=>whnf
  refine xG d1 ?_;conv=>whnf
  refine⟨_,o0,?_⟩;conv=>whnf
  exact⟨rfl,Sub.refl _⟩
 ·have hR:=parts (n:=a.val) (d:=b.val) (by omega);have hz:=zlen_gcd (x:=a.val) (by omega) h2;have hp:0<Nat.gcd a.val.natAbs b.val.natAbs:=Nat.gcd_pos_of_pos_right _ (by omega);generalize Nat.gcd a.val.natAbs b.val.natAbs=G at *;have hS:=same_nz (x:=(G:Int)) (y:=1) (by omega);have hd1:=divd_ok ha (b:=ofZ (G:Int)) (k6 (by omega)) h1 (by rw[qX];exact hz) (by rw[qX];omega);have hd2:=divd_ok hb (b:=ofZ (G:Int)) (k6 (by omega)) h2 (by rw[qX];exact hz) (by rw[qX];omega);rw[qX]at hd1 hd2;have d1:decide (b.val.sign=0)=false:=by rw[Int.sign_eq_one_of_pos c];rfl
  have d2:decide (b.val.sign<0)=false:=by rw[Int.sign_eq_one_of_pos c];rfl
  refine qV (E:=E0) qw Tryz.func103 rfl mixed (by kernel_rfl) (by kernel_rfl) ?_;conv=>whnf
  refine⟨_,s0,?_⟩;conv=>whnf
  refine jj d1 ?_;conv=>whnf
  refine⟨_,hG,?_⟩;conv=>whnf
  refine⟨_,s0,?_⟩;conv=>whnf
  refine jj d2 ?_;conv=>whnf
  refine⟨_,o1,?_⟩;conv=>whnf
  refine⟨_,hS,?_⟩;conv=>whnf
  refine qg (fun(h:decide ((G:Int)=1)=true)=>?_) fun(h:decide ((G:Int)=1)=false)=>?_
  ·have hR':ofR (zx a.val b.val)=⟨ofZ a.val,ofZ b.val⟩:=by
    have:=of_decide_eq_true h;rw[this]at hR;simpa using hR
   conv=>whnf
   refine⟨_,n1,?_⟩;conv=>whnf
   refine⟨_,n2,?_⟩;conv=>whnf
   exact⟨rfl,leaf hR'⟩
  ·conv=>whnf
   refine⟨_,hd1,?_⟩;conv=>whnf
   refine⟨_,hd2,?_⟩;conv=>whnf
   exact⟨rfl,leaf hR⟩
def wq (q:RawR):Prop:=(wr q.num/\wr q.den)/\qB q.num.val<=524286/\qB q.den.val<=524286
theorem vq {q:RawR} (h:wq q):FnOK Tryz.prog false 102 [.g (rr q)] (.g (nq q.val)):=by
 have ho:=rover_ok h.1.1 h.1.2 h.2.1 h.2.2;refine qV (E:=E0) qw Tryz.func102 rfl mixed (by kernel_rfl) (by kernel_rfl) ?_;conv=>whnf
 refine⟨_,ho,?_⟩;conv=>whnf
 exact⟨rfl,Sub.refl _⟩
end Rf
end Go.Proofs.YtkmbnldginonbaaGreat
namespace Go.Proofs.YtkmbnldginonbaaGreat
open Go.RowKit
abbrev zlF (c:Nat->RawZ) (i j:Nat):Cell:=(zr (c i)).getD j .any
abbrev zl (n:Nat) (c:Nat->RawZ):Cell := .row 2 n (zlF c)
abbrev nl (n:Nat) (v:Nat->Int):Cell:=zl n fun i=>ofZ (v i)
def tl (a : Nat → Int) : Nat → Nat
 | 0=>0
 | n+1=>if a n=0 then tl a n else n+1
namespace Rf
abbrev gz (n:Nat) (v:Nat->Int):Gx:=⟨36,2,n,zlF fun i=>ofZ (v i)⟩
theorem app_same {α:Type} (g:Nat->α) (i j:Nat):(if j=i then g i else g j)=g j:=by
 by_cases e:j=i
 ·rw[if_pos e,e]
 ·rw[if_neg e]
def co (v:Nat->Int) (n:Nat) (i:Int):Int:=if 0<=i/\i<n then v i.toNat else 0
abbrev ldc (n:Nat) (v:Nat->Int):Int:=co v n ((tl v n:Nat)-1)
def formed (n:Nat) (v:Nat->Int):Prop:=2<=tl v n/\tl v n<=13/\ldc n v=1
instance (n:Nat) (v:Nat->Int):Decidable (formed n v):=by unfold formed;infer_instance
end Rf
end Go.Proofs.YtkmbnldginonbaaGreat
namespace Go.Proofs.YtkmbnldginonbaaGreat
open Go.RowKit
namespace Rf
theorem zmul_n {a b:Int} (h:qB a+qB b<=1048576):FnOK Tryz.prog false 105 [.g (nz a),.g (nz b)] (.g (nz (a*b))):=by
 have:=rmulz_ok (a:=ofZ a) (b:=ofZ b) (k6 (by omega)) (k6 (by omega)) (by rw[qX,qX];exact h);rwa [qX,qX]at this
set_option maxHeartbeats 4000000 in
theorem sameInt_ok {n m:Nat} {a b:Nat->Nat} {s s' r:Bool} (hn:n<=1048576) (hr:r=true↔s=s'/\n=m/\∀ i,i<n->a i=b i):FnOK Tryz.prog false 116 [bn s n a,bn s' m b] (.c (.bool r)):=by
 refine qV (E:=E0) qw Tryz.func116 rfl mixed (by kernel_rfl) (by kernel_rfl) ?_;conv=>whnf
 refine qg (fun(h:gw false (!(s == s'))=true)=>?_) fun(h:gw false (!(s == s'))=false)=>?_
 ·have hs:s=s':=by have:=gwf h;simpa using this
  conv=>whnf
  refine qg (fun(h1:(!decide ((n:Int)=m))=true)=>?_) fun(h1:(!decide ((n:Int)=m))=false)=>?_
  ·have h1':r=false:=Bool.eq_false_iff.2 fun e=>by have:=(hr.1 e).2.1;subst this;simp at h1
   conv=>whnf
   exact⟨rfl,z7 h1'.symm⟩
  have h1':n=m:=by
   have:(n:Int)=m:=by simpa using h1
   omega
  subst h1';conv=>whnf
  refine qK (fun i:Nat=>gst [(2,.c (.p 0 0 2 0 0)),(3,.c (.p 1 0 2 0 0)),(5,.c (.int .i64 i))] [gi s n a,gi s' n b]) (fun i=>n-i) (fun i=>i<=n/\∀ j,j<i->a j=b j) 0 rfl ?_ ⟨Nat.zero_le _,fun j h=>by omega⟩ fun i ⟨hi,hh⟩=>?_
  ·exact Weak.gen [some 0,some 1] rfl ⟨boxK rfl rfl,boxK rfl rfl,trivial⟩ ⟨⟨_,rfl,rfl,rfl⟩,⟨_,rfl,rfl,rfl⟩,⟨_,rfl,rfl⟩,trivial⟩
  have hr':r=false∨a i=b i∨¬ i<n:=by
   by_cases c:i<n
   ·by_cases c':a i=b i
    ·exact .inr (.inl c')
    ·exact .inl (Bool.eq_false_iff.2 fun e=>c' ((hr.1 e).2.2 i c))
   ·exact .inr (.inr c)
  conv=>whnf
  refine qg (fun(h2:decide ((i:Int)<n)=true)=>?_) fun(h2:decide ((i:Int)<n)=false)=>?_
  ·have h2':=of_decide_eq_true h2;conv=>whnf
   refine⟨by omega,by omega,?_⟩;conv=>whnf
   refine⟨by omega,by omega,?_⟩;conv=>whnf
   refine qg (fun(h3:(!decide ((a i:Int)=(b i:Int)))=true)=>?_) fun(h3:(!decide ((a i:Int)=(b i:Int)))=false)=>?_
   ·have h3':r=false:=by
     refine Bool.eq_false_iff.2 fun e=>?_;have:=(hr.1 e).2.2 i (by omega);rw[this]at h3;simp at h3
    conv=>whnf
    exact⟨rfl,z7 h3'.symm⟩
   ·have h3':a i=b i:=by
     have:(a i:Int)=b i:=by simpa using h3
     omega
    conv=>whnf
    refine⟨i64 (by omega) (by omega),?_⟩;conv=>whnf
    exact⟨i+1,by omega,Weak.gen [some 0,some 1] rfl ⟨boxK rfl rfl,boxK rfl rfl,trivial⟩ ⟨⟨_,rfl,rfl,rfl⟩,⟨_,rfl,rfl,rfl⟩,⟨_,rfl,by omega⟩,trivial⟩,by omega,fun j hj=>if e:j=i then by rw[e];exact h3' else hh j (by omega)⟩
  ·have h2':=of_decide_eq_false h2;have h3':r=true:=hr.2 ⟨hs,rfl,fun j hj=>hh j (by omega)⟩;conv=>whnf
   exact⟨rfl,z7 h3'.symm⟩
 ·have hs:s≠s':=by
   have:=gwf' h;intro e;subst e;simp at this
  have h1':r=false:=Bool.eq_false_iff.2 fun e=>hs (hr.1 e).1;conv=>whnf
  exact⟨rfl,z7 h1'.symm⟩
theorem sameInt_n (x:Int) (h:qB x<=1048576):FnOK Tryz.prog false 116 [.g (nz x),.g (nz x)] (.c (.bool true)) :=
 sameInt_ok (n:=(qj x.natAbs).length) (m:=(qj x.natAbs).length) (a:=ld (qj x.natAbs)) (b:=ld (qj x.natAbs)) h ⟨fun _=>⟨rfl,rfl,fun _ _=>rfl⟩,fun _=>rfl⟩
theorem regApp {q:Nat} {bl:List Blk} {ks:List (Option Nat)} {i a b:Nat} {f:Nat->Nat->Cell} {c:Cell} {t:Nat->Cell} (ha:a<i+1) (hb:b<1) (hold:a<i->zF q bl ks (t a) fun z=>f a b=z) (hnew:zF q bl ks (t i) fun z=>c=z):zF q bl ks (t a) fun z=>zB i f (xJ 1 [c]) a b=z:=by
 obtain rfl:=Nat.lt_one_iff.1 hb;by_cases h:a<i
 ·rw[show zB i f (xJ 1 [c]) a 0=f a 0 from if_pos h];exact hold h
 ·obtain rfl:a=i:=by omega
  rw[show zB a f (xJ 1 [c]) a 0=c from by unfold zB;rw[if_neg h,Nat.sub_self];rfl];exact hnew
end Rf
end Go.Proofs.YtkmbnldginonbaaGreat
namespace Go.Proofs.YtkmbnldginonbaaGreat
open Go.RowKit
def tb (p : Nat → Bool) : Nat → Nat
 | 0=>0
 | n+1=>if p n=true then tb p n else n+1
abbrev qlF (q:Nat->RawR) (i j:Nat):Cell:=(rr (q i)).getD j .any
abbrev ql (n:Nat) (q:Nat->RawR):Cell := .row 4 n (qlF q)
theorem Ug {c e:Nat->RawR} {i j k:Nat} (h:c i=e k):qlF c i j=qlF e k j:=by unfold qlF;rw[h]
theorem qW {c:Nat->RawR} (i j:Nat):(qlF c i j).clos=true:=by
 match j with
 | 0=>rfl
 | 1=>rfl
 | 2=>rfl
 | 3=>rfl
 | j+4=>rfl
namespace Rf
set_option maxHeartbeats 4000000 in
theorem qtrim_ok {n:Nat} {c:Nat->RawR} (hn:n<=1048576):FnOK Tryz.prog false 100 [.c (ql n c)] (.c (ql (tb (fun i=>decide ((c i).num.ds.length=0)) n) c)):=by
 refine qV (E:=E0) qw Tryz.func100 rfl mixed (by kernel_rfl) (by kernel_rfl) ?_;conv=>whnf
 refine qK (fun m:Nat=>gst [(0,.c (ql m c))] []) (fun m=>m) (fun m=>m<=n/\tb (fun i=>decide ((c i).num.ds.length=0)) m=tb (fun i=>decide ((c i).num.ds.length=0)) n) n rfl (Weak.gen [] rfl trivial ⟨rO rfl,trivial⟩) ⟨Nat.le_refl _,rfl⟩ fun m ⟨hm,ht⟩=>?_;have hz:∀ k,m=k+1->(c k).num.ds.length=0->tb (fun i=>decide ((c i).num.ds.length=0)) k=tb (fun i=>decide ((c i).num.ds.length=0)) n:=fun k e h=>by
  rw[<- ht,e];simp only[tb];rw[if_pos (decide_eq_true h)]
 have hz':∀ k,m=k+1->(c k).num.ds.length≠0->m=tb (fun i=>decide ((c i).num.ds.length=0)) n:=fun k e h=>by
  rw[<- ht,e];simp only[tb];rw[if_neg (by simpa using h)]
 have h0:m=0->m=tb (fun i=>decide ((c i).num.ds.length=0)) n:=fun e=>by rw[<- ht,e];rfl
 clear ht;generalize tb (fun i=>decide ((c i).num.ds.length=0)) n=N at *;conv=>whnf
 refine qg (fun(h:gw true (decide ((0:Int)<m))=true)=>?_) fun(h:gw true (decide ((0:Int)<m))=false)=>?_
 ·have h:=of_decide_eq_true (xK.1 h);have ek:m=((m:Int)-1).toNat+1:=by omega
  have g1:=hz _ ek;have g2:=hz' _ ek;conv=>whnf
  refine⟨i64 (by omega) (by omega),?_⟩;conv=>whnf
  refine⟨by omega,by omega,?_⟩;conv=>whnf
  refine qg (fun(h1:decide (((c ((m:Int)-1).toNat).num.ds.length:Int)=0)=true)=>?_) fun(h1:decide (((c ((m:Int)-1).toNat).num.ds.length:Int)=0)=false)=>?_
  ·have h1:=of_decide_eq_true h1;have g:=g1 (by omega);conv=>whnf
   refine⟨i64 (by omega) (by omega),?_⟩;conv=>whnf
   refine⟨by omega,by omega,?_⟩;conv=>whnf
   refine⟨by omega,?_⟩;conv=>whnf
   exact⟨((m:Int)-1).toNat,by omega,Weak.gen [] rfl trivial ⟨.inl ⟨_,_,rfl,by omega,fun i j hi hj=>Ug (c:=c) (e:=c) (i:=Int.toNat 0+i) (k:=i) (congrArg c (by omega))⟩,trivial⟩,by omega,g⟩
  ·have h1:=of_decide_eq_false h1;have g:=g2 (by omega);conv=>whnf
   exact⟨rfl,zg g fun _ _ _ _=>rfl⟩
 ·have h:¬(0:Int)<m:=of_decide_eq_false (jv.1 h);have g:=h0 (by omega);conv=>whnf
  exact⟨rfl,zg g fun _ _ _ _=>rfl⟩
end Rf
end Go.Proofs.YtkmbnldginonbaaGreat
/- Normal forms of lists in the program, and the form of a number field. -/
namespace Go.Proofs.YtkmbnldginonbaaGreat
open Go.RowKit
namespace Rf
def qpF (v:Nat->Rat) (i k:Nat):List Cell:=if k<i then nq (v k)else [.bool false,.nil,.bool false,.nil]
theorem y6 (v:Nat->Rat) (i k:Nat):(if k=i then nq (v i)else qpF v i k)=qpF v (i+1) k:=by
 unfold qpF;by_cases e:k=i
 ·rw[if_pos e,if_pos (by omega),e]
 ·rw[if_neg e];by_cases e2:k<i
  ·rw[if_pos e2,if_pos (by omega)]
  ·rw[if_neg e2,if_neg (by omega)]
theorem z5 {v:Nat->Rat} {i:Nat} (k j:Nat):((qpF v i k).getD j .any).clos=true:=by
 unfold qpF;split
 ·exact qW (c:=fun i=>ofR (v i)) k j
 ·match j with
  | 0=>rfl
  | 1=>rfl
  | 2=>rfl
  | 3=>rfl
  | j+4=>rfl
theorem V5 {v:Nat->Rat} {n k:Nat} (h:k<n) (j:Nat):(qpF v n k).getD j .any=qlF (fun i=>ofR (v i)) k j:=by
 unfold qpF;rw[if_pos h]
theorem gV (v:Nat->Rat) (k:Nat):qpF v 0 k=[.bool false,.nil,.bool false,.nil]:=by
 unfold qpF;rw[if_neg (Nat.not_lt_zero k)]
abbrev gqp (n:Nat) (v:Nat->Rat) (i:Nat):Gx:=⟨38,4,n,fun k j=>(qpF v i k).getD j .any⟩
abbrev nql (n:Nat) (v:Nat->Rat):Cell:=ql n fun i=>ofR (v i)
theorem qlen_int {x:Int} {L:Nat} (h:qB x<=L) (h1:1<=L):qlen (x:Rat)<=L:=by
 have z1:qB 1=1:=rfl;unfold qlen;rw[show((x:Rat).num)=x by simp,show(((x:Rat).den:Nat):Int)=1 by simp];omega
end Rf
end Go.Proofs.YtkmbnldginonbaaGreat
/- Short lists of fractions. -/
namespace Go.Proofs.YtkmbnldginonbaaGreat
open Go.RowKit
namespace Rf
def dgq (a:RawR):Prop:=Dg.ok a.num.ds/\Dg.ok a.den.ds
end Rf
end Go.Proofs.YtkmbnldginonbaaGreat
namespace Go.Proofs.YtkmbnldginonbaaGreat
namespace Q
def su (f : Nat → Rat) : Nat → Rat
 | 0=>0
 | n+1=>su f n+f n
theorem su_congr {f g : Nat → Rat} : ∀ {n : Nat}, (∀ i, i < n → f i = g i) → su f n = su g n
 | 0,_=>rfl
 | n+1,h=>by
  unfold su;rw[su_congr fun i hi=>h i (by omega),h n (by omega)]
theorem su_zero {f : Nat → Rat} : ∀ {n : Nat}, (∀ i, i < n → f i = 0) → su f n = 0
 | 0,_=>rfl
 | n+1,h=>by
  unfold su;rw[su_zero fun i hi=>h i (by omega),h n (by omega),Rat.add_zero]
theorem su_more {f : Nat → Rat} {n : Nat} (h : ∀ i, n ≤ i → f i = 0) : ∀ {m : Nat}, n ≤ m → su f m = su f n
 | 0,hm=>by rw[show n=0 by omega]
 | m+1,hm=>by
  rcases Nat.lt_or_ge m n with h1 | h1
  ·rw[show n=m+1 by omega]
  ·rw[<- su_more h h1];show su f m+f m=su f m;rw[h m h1,Rat.add_zero]
def cf (F G:Nat->Rat) (k:Nat):Rat:=su (fun i=>F i*G (k-i)) (k+1)
def Fin (n:Nat) (F:Nat->Rat):Prop:=∀ k,n<=k->F k=0
def Rm (n:Nat) (f p r:Nat->Rat):Prop:=Fin n r/\∃(N:Nat) (q:Nat->Rat),Fin N q/\∀ k,p k=cf q f k+r k
def dv (n : Nat) (f : Nat → Rat) : Nat → (Nat → Rat) → Nat → Rat
 | 0,p=>p
 | N+1,p=>dv n f N fun k=>p k-(if N<=k then p (N+n)*f (k-N)else 0)
def tq (v : Nat → Rat) : Nat → Nat
 | 0=>0
 | n+1=>if v n=0 then tq v n else n+1
theorem tq_le (v : Nat → Rat) : ∀ n, tq v n ≤ n
 | 0=>Nat.le_refl _
 | n+1=>by
  unfold tq;split
  ·exact Nat.le_succ_of_le (tq_le v n)
  ·exact Nat.le_refl _
theorem tq_behind {v : Nat → Rat} : ∀ {n k : Nat}, tq v n ≤ k → k < n → v k = 0
 | 0,k,_,h=>absurd h (Nat.not_lt_zero k)
 | n+1,k,h,hk=>by
  unfold tq at h;split at h
  ·rename_i h0;by_cases e:k=n
   ·rw[e];exact h0
   ·exact tq_behind h (by omega)
  ·omega
theorem tq_self {v:Nat->Rat} {n:Nat} (h:∀ k,n=k+1->v k≠0):tq v n=n:=by
 cases n with
 | zero=>rfl
 | succ k=>unfold tq;rw[if_neg (h k rfl)]
def qx (n:Nat) (v:Nat->Rat) (i:Nat):Rat:=if i<n then v i else 0
theorem qx_fin (n:Nat) (v:Nat->Rat):Fin n (qx n v):=fun k hk=>if_neg (by omega)
theorem qx_lt {n i:Nat} {v:Nat->Rat} (h:i<n):qx n v i=v i:=if_pos h
theorem qx_self {n:Nat} {v:Nat->Rat} (h:Fin n v):qx n v=v:=funext fun k=>by
 unfold qx;split
 ·rfl
 ·rename_i c;exact(h k (by omega)).symm
def mu (F G:Nat->Rat) (i k:Nat):Rat:=su (fun a=>if a<=k then F a*G (k-a)else 0) i
def mp (c:Rat) (G r:Nat->Rat) (i j k:Nat):Rat:=r k+(if i<=k/\k<i+j then c*G (k-i)else 0)
theorem mp_zero (c:Rat) (G r:Nat->Rat) (i k:Nat):mp c G r i 0 k=r k:=by
 unfold mp;rw[if_neg (by omega),Rat.add_zero]
theorem mp_old {c:Rat} {G r:Nat->Rat} {i j:Nat}:mp c G r i j (i+j)=r (i+j):=by
 unfold mp;rw[if_neg (by omega),Rat.add_zero]
theorem mp_next (c:Rat) (G r:Nat->Rat) (i j k:Nat):(if k=i+j then r (i+j)+c*G j else mp c G r i j k)=mp c G r i (j+1) k:=by
 unfold mp;by_cases e:k=i+j
 ·rw[if_pos e,if_pos (by omega),e,show i+j-i=j by omega]
 ·rw[if_neg e];by_cases e2:i<=k/\k<i+j
  ·rw[if_pos e2,if_pos (by omega)]
  ·rw[if_neg e2,if_neg (by omega)]
theorem mp_skip {c:Rat} {G r:Nat->Rat} {i j:Nat} (h:G j=0) (k:Nat):mp c G r i j k=mp c G r i (j+1) k:=by
 rw[<- mp_next];split
 ·rename_i e;rw[e,mp_old,h,Rat.mul_zero,Rat.add_zero]
 ·rfl
theorem mp_none {c:Rat} (h:c=0) (G r:Nat->Rat) (i j k:Nat):mp c G r i j k=r k:=by
 unfold mp;split
 ·rw[h,Rat.zero_mul,Rat.add_zero]
 ·rw[Rat.add_zero]
theorem mp_all {m:Nat} {F G:Nat->Rat} (hG:Fin m G) (i k:Nat):mp (F i) G (mu F G i) i m k=mu F G (i+1) k:=by
 show mu F G i k+(if i<=k/\k<i+m then F i*G (k-i)else 0)=mu F G i k+(if i<=k then F i*G (k-i)else 0);by_cases e:i<=k
 ·rw[if_pos e];by_cases e2:k<i+m
  ·rw[if_pos ⟨e,e2⟩]
  ·rw[if_neg (by omega),hG (k-i) (by omega),Rat.mul_zero]
 ·rw[if_neg (by omega),if_neg e]
theorem mu_all {n:Nat} {F G:Nat->Rat} (hF:Fin n F) (k:Nat):mu F G n k=cf F G k:=by
 have z:∀ i,min n (k+1)<=i->(if i<=k then F i*G (k-i)else 0)=0:=fun i hi=>by
  split
  ·rw[hF i (by omega),Rat.zero_mul]
  ·rfl
 have e:cf F G k=su (fun a=>if a<=k then F a*G (k-a)else 0) (k+1):=su_congr fun i hi=>(if_pos (by omega)).symm;rw[e];unfold mu;rw[su_more z (Nat.min_le_left _ _),su_more z (Nat.min_le_right _ _)]
end Q
end Go.Proofs.YtkmbnldginonbaaGreat
namespace Go.Proofs.YtkmbnldginonbaaGreat
open Go.RowKit
end Go.Proofs.YtkmbnldginonbaaGreat
