/- The function times of package bigint: the product of two numbers by their digits. The lengths are together at most 2^40. -/
import Derived.Test.YtkmbnldginonbaaGreatNw7
import Derived.Deep.RegionHeld3
import Derived.StillTailTactics
import Derived.Test.YtkmbnldginonbaaGreatNw6
import Derived.Deep.DeepCutAuto
import Derived.Deep.CutBlock
namespace Go.Proofs.YtkmbnldginonbaaGreat
open Go.RowKit
theorem mul_bound {X Y:Int} (hX:0≤X) (hX1:X<4294967296) (hY:0≤Y) (hY1:Y<4294967296):0≤X*Y/\X*Y≤18446744065119617025:=by
 refine⟨Int.mul_nonneg hX hY,?_⟩
 have h1:X*Y≤4294967295*Y:=Int.mul_le_mul_of_nonneg_right (by omega) hY
 omega
theorem times_round {a b o : List Nat} {V i j n n' : Nat} {X Y Z C : Int} (hX : X = (a[i]?.getD 0 : Nat)) (hY : Y = (b[j]?.getD 0 : Nat)) (hZ : Z = (o[i + j]?.getD 0 : Nat)) (hC0 : 0 ≤ C) (hC1 : C < 4294967296)
  (oa:Dg.ok a) (ob:Dg.ok b) (oo:Dg.ok o) (ho:o.length=n+n') (hi:i<n) (hj:j<n')
  (hI:Dg.val o+Dg.B^(i+j)*C.toNat=V+Dg.B^i*(a[i]?.getD 0*Dg.val (b.take j))) (hz:∀ k,i+n'≤k->o[k]?.getD 0=0) :
  ∃ d:Nat,(X*Y+Z+C)%4294967296=d/\d<Dg.B/\0≤(X*Y+Z+C) / 4294967296/\(X*Y+Z+C) / 4294967296<4294967296 /\
   Dg.val (o.set (i+j) d)+Dg.B^(i+(j+1))*((X*Y+Z+C) / 4294967296).toNat=V+Dg.B^i*(a[i]?.getD 0*Dg.val (b.take (j+1)))/\(∀ k,i+n'≤k->(o.set (i+j) d)[k]?.getD 0=0):=by
 obtain⟨c,rfl⟩:=Int.eq_ofNat_of_zero_le hC0
 have hc:c<Dg.B:=by rw[Dg.B_eq];omega
 have hb:=Dg.times_bound (Dg.ok_getD oa i) (Dg.ok_getD ob j) (Dg.ok_getD oo (i+j)) hc
 have hd:=Dg.div_lt_B hb
 have hs:=Dg.times_step (o:=o) (V:=V) (x:=a[i]?.getD 0) (y:=b[j]?.getD 0) (i:=i) (j:=j) (c:=c) (by omega) b rfl (by simpa using hI)
 have e:(X*Y+Z+c)=((a[i]?.getD 0*b[j]?.getD 0+o[i+j]?.getD 0+c:Nat):Int):=by rw[hX,hY,hZ];simp
 rw[e]
 generalize a[i]?.getD 0*b[j]?.getD 0+o[i+j]?.getD 0+c=t at *
 refine⟨t%Dg.B,by rw[Dg.B_eq];omega,Nat.mod_lt _ Dg.B_pos,by omega,by rw[Dg.B_eq]at hd;omega,?_,?_⟩
 ·rw[← hs,Dg.B_eq];congr 2
 ·intro k hk
  rw[List.getElem?_set_ne (by omega)];exact hz k hk
theorem times_row {a b o : List Nat} {V i n n' : Nat} {C : Int} (hC0 : 0 ≤ C) (hC1 : C < 4294967296) (ho : o.length = n + n') (hi : i < n) (hla : a.length = n) (hlb : b.length = n')
  (hI:Dg.val o+Dg.B^(i+n')*C.toNat=V+Dg.B^i*(a[i]?.getD 0*Dg.val (b.take n'))) (hz:∀ k,i+n'≤k->o[k]?.getD 0=0) (hV:V=Dg.val (a.take i)*Dg.val b) :
  ∃ d:Nat,C=d/\d<Dg.B/\Dg.val (o.set (i+n') d)=Dg.val (a.take (i+1))*Dg.val b/\(∀ k,i+1+n'≤k->(o.set (i+n') d)[k]?.getD 0=0):=by
 obtain⟨c,rfl⟩:=Int.eq_ofNat_of_zero_le hC0
 refine⟨c,rfl,by rw[Dg.B_eq];omega,?_,?_⟩
 ·have h1:=Dg.val_set (l:=o) (i:=i+n') (by omega) c
  have h2:=hz (i+n') (by omega)
  rw[List.getElem?_eq_getElem (by omega)]at h2
  simp only[Option.getD_some]at h2
  rw[h2,Nat.mul_zero,Nat.add_zero]at h1
  rw[h1,Dg.val_take_succ_getD,Nat.add_mul,← hV]
  rw[List.take_of_length_le (l:=b) (by omega)]at hI
  simp only[Int.toNat_natCast]at hI
  rw[hI,Nat.mul_assoc]
 ·intro k hk
  rw[List.getElem?_set_ne (by omega)];exact hz k (by omega)
def IsVal (w:World) (v:Value) (x L:Nat):Prop:=∃ A n c ds,v = .slice A n c/\Dig w A n ds/\n≤c/\n≤L/\Dg.val ds=x
theorem IsDig.val {w:World} {v:Value} {x L:Nat} (h:IsDig w v x L):IsVal w v x L:=by
 obtain⟨A,n,c,ds,h1,h2,h3,h4,h5,h6⟩:=h
 exact⟨A,n,c,ds,h1,h2,h3,h4,h6⟩
set_option maxRecDepth 100000 in
set_option maxHeartbeats 400000 in
theorem times_one (A A' : Option Addr) (c c' : Nat) (a b : List Nat) (w : World) (ha : Dig w A 1 a) (hb : Dig w A' 1 b) :
  Calls Tryz.prog 139 #[.slice A 1 c,.slice A' 1 c'] w fun e w'=>∃ v,e = .returned v/\IsVal w' v (Dg.val a*Dg.val b) 2/\Below w.heap.size w w':=by
 obtain⟨b1,o1,rfl,hl1,hcell1⟩:=ha.at_ (by omega)
 obtain⟨b2,o2,rfl,hl2,hcell2⟩:=hb.at_ (by omega)
 have hc1:=hcell1 0 (by omega)
 have hc2:=hcell2 0 (by omega)
 obtain⟨x,rfl⟩:=List.length_eq_one_iff.1 ha.len.symm
 obtain⟨y,rfl⟩:=List.length_eq_one_iff.1 hb.len.symm
 have hx:=(Dg.ok_cons.1 ha.ok).1
 have hy:=(Dg.ok_cons.1 hb.ok).1
 have hxy:x*y<Dg.B*Dg.B:=Nat.mul_lt_mul'' hx hy
 rw[Dg.B_eq]at hx hy
 simp only[List.getElem?_cons_zero,Option.getD_some,Nat.add_zero]at hc1 hc2
 have hv:Dg.val [x]*Dg.val [y]=x*y:=by simp[Dg.val]
 rw[hv]
 obtain⟨X,hX⟩:∃ X:Int,X=x:=⟨_,rfl⟩
 obtain⟨Y,hY⟩:∃ X:Int,X=y:=⟨_,rfl⟩
 have hX0:0≤X:=by omega
 have hX1:X<4294967296:=by omega
 have hY0:0≤Y:=by omega
 have hY1:Y<4294967296:=by omega
 have hm:=mul_bound hX0 hX1 hY0 hY1
 obtain⟨q,hq⟩:∃ q:Nat,q=x*y:=⟨_,rfl⟩
 rw[← hq]at hxy ⊢
 have hw:IntKind.u64.wrap (X*Y)=(q:Int):=by
  rw[IntWalk.u64_in _ ⟨hm.1,by omega⟩,hq,hX,hY];simp
 rw[← hX]at hc1
 rw[← hY]at hc2
 have HXY:=Lib.hid hxy
 clear hcell1 hcell2 hm hq hxy hx hy ha hb hv hX hY
 go_enter Tryz.func139,Tryz.ntmps139
 go_wp2_with fail
 refine wp_region_still_tail 9 (by kernel_rfl) (by kernel_rfl) ?_
 simp only[List.take_succ_cons,List.take_zero,List.drop_succ_cons,List.drop_zero]
 repeat still_step
 try refine wpStill_nil ?_
 change wpList _ _ _ _ _ w.drew
 generalize hw2:w.drew=w2
 have hbw:Below w.heap.size w w2:=by rw[← hw2];exact(Below.refl _ _).drew
 clear hw2 hc1 hc2
 go_wp2_with fail
 rw[hw]
 refine(wide_any _ _ HXY.out).mono ?_
 rintro e w' ⟨v,rfl,hv,hbv⟩
 have HV:=Lib.hid hv
 clear hv hw
 go_wp2
 go_ret
 exact⟨_,rfl,HV.out.val,bel_ext hbw hbv⟩
set_option maxRecDepth 100000 in
set_option maxHeartbeats 1000000 in
theorem times_any (A A' : Option Addr) (n c n' c' : Nat) (a b : List Nat) (w : World) (ha : Dig w A n a) (hb : Dig w A' n' b) (hn : n + n' ≤ LIM) :
  Calls Tryz.prog 139 #[.slice A n c,.slice A' n' c'] w fun e w'=>∃ v,e = .returned v/\IsVal w' v (Dg.val a*Dg.val b) (n+n')/\Below w.heap.size w w':=by
 have HA:=Lib.hid ha
 have HB:=Lib.hid hb
 clear ha hb
 obtain⟨i0,hi,hz0,hz1,hz2⟩:=info_parts info158
 unfold LIM at hn
 by_cases h0:n=0
 ·subst h0
  have e:a=[]:=List.length_eq_zero_iff.1 HA.out.len.symm
  go_enter Tryz.func139,Tryz.ntmps139
  go_wp2
  go_ret
  exact⟨_,rfl,⟨none,0,0,[],rfl,Dig.nil _,by omega,by omega,by rw[e];simp[Dg.val]⟩,Below.refl _ _⟩
 ·by_cases h0':n'=0
  ·subst h0'
   have e:b=[]:=List.length_eq_zero_iff.1 HB.out.len.symm
   have hb0:((n:Int) == 0)=false:=by simp;omega
   go_enter Tryz.func139,Tryz.ntmps139
   go_wp2
   go_ret
   exact⟨_,rfl,⟨none,0,0,[],rfl,Dig.nil _,by omega,by omega,by rw[e];simp[Dg.val]⟩,Below.refl _ _⟩
  ·have hb0:((n:Int) == 0)=false:=by simp;omega
   have hb0':((n':Int) == 0)=false:=by simp;omega
   by_cases h1:n=1/\n'=1
   ·obtain⟨rfl,rfl⟩:=h1
    exact times_one A A' c c' a b w HA.out HB.out
   ·have hf:¬(n=1/\n'=1):=h1
    obtain⟨bb,hbb⟩:∃ bb:Bool,((n:Int) == 1)=bb:=⟨_,rfl⟩
    have hbb':bb=true->((n':Int) == 1)=false:=by
     rintro rfl;simp at hbb ⊢;omega
    clear h1 hf
    rcases bb with _ | _
    case' true=>have hbb2:=hbb' rfl
    all_goals
     clear hbb'
     go_enter Tryz.func139,Tryz.ntmps139
     go_wp2_with (at_make;refine wpList_make_full _ rfl _ _ 34 rfl w.heap.size 119 i0 _ 1 Tryz.underlying34 hi hz0 hz1 .i64 .i64 _ _ (n+n') rfl rfl (by omega) (by omega) (by rw[hz2];omega) (by unfold maxLen;omega) (Nat.le_refl _) ?_;intro w1 hown hgr;have HO:=Lib.hid (OwnD.made hown);clear hown;have hb1:Below w.heap.size w w1:=(Below.refl _ _).grown hgr (Nat.le_refl _) (by simp);clear hgr)
     clear hbb
     go_loopw [46] (fun v wr=>∃(i:Nat) (o:List Nat),i≤n/\v = .int .i64 i/\OwnD wr w.heap.size w.heap.size (n+n') o/\Hid (Dg.val o=Dg.val (a.take i)*Dg.val b)/\Hid (∀ k,i+n'≤k->o[k]?.getD 0=0)/\Below w.heap.size w wr) (fun v _=>n-(intOf v).toNat)
     case atStart=>exact⟨0,_,by omega,rfl,HO.out,by show _=_;simp[Dg.val,Dg.val_replicate],by intro k _;rw[List.getElem?_replicate];split <;> rfl,hb1⟩
     case round =>
      obtain⟨i,o,hik,rfl,hO,HI,HZ,hbw⟩:=hrel
      by_cases hlt:i<n
      ·have hOh:=Lib.hid hO
       clear hO
       obtain⟨b1,o1,rfl,hl1,hcell1⟩:=(HA.out.below hbw).at_ (by omega)
       have hc1:=hcell1 i hlt
       have hx1:(a[i]?.getD 0)<4294967296:=Dg.ok_getD HA.out.ok i
       clear hcell1
       obtain⟨X,hX⟩:∃ X:Int,X=(a[i]?.getD 0:Nat):=⟨_,rfl⟩
       rw[← hX]at hc1
       have hX0:0≤X:=by omega
       have hX1:X<4294967296:=by omega
       have HX:=Lib.hid hX
       clear hX hx1
       have hdk:decide (i<n)=true:=by simp;omega
       obtain⟨wo,rfl⟩:∃ wo:World,wo=wr:=⟨_,rfl⟩
       go_wp2
       go_loopw [8,53] (fun u v wr=>∃(j:Nat) (C:Int) (p:List Nat),j≤n'/\v = .int .i64 j/\u = .int .u64 C/\0≤C/\C<4294967296/\OwnD wr w.heap.size w.heap.size (n+n') p/\Hid (Dg.val p+Dg.B^(i+j)*C.toNat=Dg.val o+Dg.B^i*(a[i]?.getD 0*Dg.val (b.take j)))/\Hid (∀ k,i+n'≤k->p[k]?.getD 0=0)/\Below w.heap.size w wr) (fun _ v _=>n'-(intOf v).toNat)
       case atStart=>exact⟨0,0,_,by omega,rfl,rfl,by omega,by omega,hOh.out,by show _=_;simp[Dg.val],HZ,hbw⟩
       case round =>
        clear hc1 hl1
        obtain⟨j,C,p,hjk,rfl,rfl,hC0,hC1,hP,HJ,HY,hbp⟩:=hrel
        by_cases hltj:j<n'
        ·have hoc:=hP.cell (i:=i+j) (by omega)
         have hof:=hP.frozen (i+j)
         have hPh:=Lib.hid hP
         clear hP
         obtain⟨b2,o2,rfl,hl2,hcell2⟩:=(HB.out.below hbp).at_ (by omega)
         have hc2:=hcell2 j hltj
         have hx1:(b[j]?.getD 0)<4294967296:=Dg.ok_getD HB.out.ok j
         have hz1:(p[i+j]?.getD 0)<4294967296:=Dg.ok_getD hPh.out.2.1 (i+j)
         clear hcell2
         obtain⟨Y,hY⟩:∃ X:Int,X=(b[j]?.getD 0:Nat):=⟨_,rfl⟩
         rw[← hY]at hc2
         have hY0:0≤Y:=by omega
         have hY1:Y<4294967296:=by omega
         have HYe:=Lib.hid hY
         obtain⟨Z,hZ⟩:∃ X:Int,X=(p[i+j]?.getD 0:Nat):=⟨_,rfl⟩
         rw[← hZ]at hoc
         have hZ0:0≤Z:=by omega
         have hZ1:Z<4294967296:=by omega
         have HZe:=Lib.hid hZ
         clear hY hx1 hZ hz1
         obtain⟨hm0,hm1⟩:=mul_bound hX0 hX1 hY0 hY1
         have hdj:decide (j<n')=true:=by simp;omega
         obtain⟨d,hd1,hd2,hd3,hd4,hd5,hd6⟩:=times_round HX.out HYe.out HZe.out hC0 hC1 HA.out.ok HB.out.ok hPh.out.2.1 hPh.out.1 hlt hltj HJ.out HY.out
         have HS:=Lib.hid (hPh.out.set_ (i+j) d hd2)
         have HD5:=Lib.hid hd5
         have HD6:=Lib.hid hd6
         have hbn:Below w.heap.size w (wr.setCell ⟨w.heap.size,i+j,none⟩ (.int .u32 d)):=hbp.setCell (by simp) _
         clear hd2 hd5 hd6
         go_wp2
         go_roundw
         case rel=>exact⟨j+1,_,_,by omega,by go_num,rfl,hd3,hd4,HS.out,HD5.out,HD6.out,hbn⟩
         case measure=>simp[intOf] <;> omega
        ·obtain rfl:j=n':=by omega
         have hdj:decide (j<j)=false:=by simp
         have hoc:=hP.cell (i:=i+j) (by omega)
         have hof:=hP.frozen (i+j)
         have hPh:=Lib.hid hP
         clear hP
         obtain⟨d,rfl,hd2,hd3,hd4⟩:=times_row hC0 hC1 hPh.out.1 hlt HA.out.len.symm HB.out.len.symm HJ.out HY.out HI.out
         have HS:=Lib.hid (hPh.out.set_ (i+j) d hd2)
         have HD3:=Lib.hid hd3
         have HD4:=Lib.hid hd4
         have hbn:Below w.heap.size w (wr.setCell ⟨w.heap.size,i+j,none⟩ (.int .u32 d)):=hbp.setCell (by simp) _
         clear hd2 hd3 hd4
         go_wp2
         go_roundw
         case rel=>exact⟨i+1,_,by omega,by go_num,HS.out,HD3.out,HD4.out,hbn⟩
         case measure=>simp[intOf] <;> omega
      ·obtain rfl:i=n:=by omega
       have hdk:decide (i<i)=false:=by simp
       have hOh:=Lib.hid hO
       clear hO
       go_wp2
       go_ret
       refine⟨_,rfl,⟨_,_,_,o,rfl,hOh.out.dig,Nat.le_refl _,Nat.le_refl _,?_⟩,hbw⟩
       rw[HI.out,List.take_of_length_le (by have:=HA.out.len;omega)]
end Go.Proofs.YtkmbnldginonbaaGreat
/- The function short of package bigint: a division by one digit. The length is at most 2^40. -/
namespace Go.Proofs.YtkmbnldginonbaaGreat
open Go.RowKit
theorem val_drop_pred (l:List Nat) (k:Nat) (h:k<l.length):Dg.val (l.drop k)=l[k]?.getD 0+Dg.B*Dg.val (l.drop (k+1)):=by
 rw[List.drop_eq_getElem_cons h];simp[Dg.val,h]
theorem short_round {a q : List Nat} {k n : Nat} {X R D : Int} (hX : X = (a[k]?.getD 0 : Nat)) (hX1 : X < 4294967296) (hR : 0 ≤ R) (hRD : R < D) (hD : D < 4294967296) (ha : a.length = n) (hq : q.length = n) (hk : k < n)
  (hI:Dg.val (a.drop (k+1))=Dg.val (q.drop (k+1))*D.toNat+R.toNat) :
  ∃ d:Nat,(R*4294967296+X) / D=d/\d<Dg.B/\0≤(R*4294967296+X)%D/\(R*4294967296+X)%D<D/\Dg.val (a.drop k)=Dg.val ((q.set k d).drop k)*D.toNat+((R*4294967296+X)%D).toNat:=by
 obtain⟨r,rfl⟩:=Int.eq_ofNat_of_zero_le hR
 obtain⟨D,rfl⟩:=Int.eq_ofNat_of_zero_le (a:=D) (by omega)
 have e:(r:Int)*4294967296+X=((r*Dg.B+a[k]?.getD 0:Nat):Int):=by rw[hX,Dg.B_eq];omega
 have hx:a[k]?.getD 0<Dg.B:=by rw[Dg.B_eq];omega
 have h1:=Dg.short_step (x:=a[k]?.getD 0) (d:=D) (r:=r) _ _ (by simpa using hI)
 have h2:=Dg.short_lt (d:=D) (r:=r) hx (by omega)
 have h3:=Nat.mod_lt (r*Dg.B+a[k]?.getD 0) (show 0<D by omega)
 rw[e,← Int.natCast_ediv,← Int.natCast_emod,Int.toNat_natCast,Int.toNat_natCast]
 clear e hI
 refine⟨(r*Dg.B+a[k]?.getD 0) / D,rfl,h2,by omega,by omega,?_⟩
 ·have hl:k<(q.set k ((r*Dg.B+a[k]?.getD 0) / D)).length:=by rw[List.length_set];omega
  rw[val_drop_pred a k (by omega),h1,val_drop_pred _ k hl]
  have e2:(q.set k ((r*Dg.B+a[k]?.getD 0) / D))[k]?.getD 0=(r*Dg.B+a[k]?.getD 0) / D:=by simp[show k<q.length by omega]
  have e3:(q.set k ((r*Dg.B+a[k]?.getD 0) / D)).drop (k+1)=q.drop (k+1):=by rw[List.drop_set_of_lt (by omega)]
  rw[e2,e3]
set_option maxRecDepth 100000 in
set_option maxHeartbeats 1000000 in
theorem short_any (A : Option Addr) (n c : Nat) (D : Int) (a : List Nat) (w : World) (ha : Dig w A n a) (hn : n ≤ LIM) (hD0 : 0 < D) (hD1 : D < 4294967296) :
  Calls Tryz.prog 180 #[.slice A n c,.int .u32 D] w fun e w'=>∃ g q R,e = .returned (.tuple #[.slice (some ⟨g,0,none⟩) n n,.int .u32 R])/\Dig w' (some ⟨g,0,none⟩) n q/\0≤R/\R<D/\Dg.val a=Dg.val q*D.toNat+R.toNat/\Below w.heap.size w w':=by
 have HA:=Lib.hid ha
 clear ha
 obtain⟨i0,hi,hz0,hz1,hz2⟩:=info_parts info158
 unfold LIM at hn
 go_enter Tryz.func180,Tryz.ntmps180
 go_wp2_with (at_make;refine wpList_make_full _ rfl _ _ 34 rfl w.heap.size 119 i0 _ 1 Tryz.underlying34 hi hz0 hz1 .i64 .i64 _ _ n rfl rfl (by omega) (by omega) (by rw[hz2];omega) (by unfold maxLen;omega) (Nat.le_refl _) ?_;intro w1 hown hgr;have HO:=Lib.hid (OwnD.made hown);clear hown;have hb1:Below w.heap.size w w1:=(Below.refl _ _).grown hgr (Nat.le_refl _) (by simp);clear hgr)
 go_loopw [7,8] (fun u v wr=>∃(k:Nat) (R:Int) (q:List Nat),k≤n/\v = .int .i64 ((k:Int)-1)/\u = .int .u32 R/\0≤R/\R<D/\OwnD wr w.heap.size w.heap.size n q/\Hid (Dg.val (a.drop k)=Dg.val (q.drop k)*D.toNat+R.toNat)/\Below w.heap.size w wr) (fun _ v _=>(intOf v+1).toNat)
 case atStart=>exact⟨n,0,_,by omega,rfl,rfl,by omega,by omega,HO.out,by show _=_;rw[List.drop_of_length_le (by have:=HA.out.len;omega),List.drop_of_length_le (by simp)];simp[Dg.val],hb1⟩
 case round =>
  obtain⟨k,R,q,hk,rfl,rfl,hR0,hR1,hO,HI,hbw⟩:=hrel
  by_cases h0:0<k
  ·obtain⟨k,rfl⟩:∃ j,k=j+1:=⟨k-1,by omega⟩
   have hoc:=hO.cell (i:=k) (by omega)
   have hof:=hO.frozen k
   have hOh:=Lib.hid hO
   clear hO
   obtain⟨b1,o1,rfl,hl1,hcell1⟩:=(HA.out.below hbw).at_ (by omega)
   have hc1:=hcell1 k (by omega)
   have hx1:(a[k]?.getD 0)<4294967296:=Dg.ok_getD HA.out.ok k
   clear hcell1
   obtain⟨X,hX⟩:∃ X:Int,X=(a[k]?.getD 0:Nat):=⟨_,rfl⟩
   rw[← hX]at hc1
   have hX0:0≤X:=by omega
   have hX1:X<4294967296:=by omega
   have HX:=Lib.hid hX
   clear hX hx1
   obtain⟨d,hd1,hd2,hd3,hd4,hd5⟩:=short_round HX.out hX1 hR0 hR1 hD1 HA.out.len.symm hOh.out.1 (by omega) HI.out
   have HD5:=Lib.hid hd5
   have HD2:=Lib.hid hd2
   clear hd2 hd5
   go_wp2_with (go_at_call 187;refine(div32_any _ _ _ _ hR0 hR1 hD1 hX0 hX1).mono ?_;rintro e w' ⟨rfl,hbd⟩;have hOd:=hOh.out.below hbd;have hoc2:=hOd.cell (i:=k) (by omega);have hof2:=hOd.frozen k;have HS:=Lib.hid (hOd.set_ k d HD2.out);have hbn:Below w.heap.size w (w'.setCell ⟨w.heap.size,k,none⟩ (.int .u32 d)):=(hbw.trans (hbd.mono hbw.size)).setCell (by simp) _;clear hOd hoc hof)
   go_roundw
   case rel=>exact⟨k,_,_,by omega,by go_num,rfl,hd3,hd4,HS.out,HD5.out,hbn⟩
   case measure=>simp[intOf] <;> omega
  ·obtain rfl:k=0:=by omega
   have HOh:=Lib.hid hO
   clear hO
   go_wp2
   go_ret2
   exact⟨_,_,_,rfl,HOh.out.dig,hR0,hR1,by simpa using HI.out,hbw⟩
end Go.Proofs.YtkmbnldginonbaaGreat
/- The functions shifted and unshifted of package bigint: digits moved by less than 32 binary places. The length is at most 2^40. -/
namespace Go.Proofs.YtkmbnldginonbaaGreat
open Go.RowKit
theorem shifted_round {a o : List Nat} {k n s : Nat} {X T : Int} (hX : X = (a[k]?.getD 0 : Nat)) (hT : T = (s : Int)) (hs : s ≤ 31) (oa : Dg.ok a) (oo : Dg.ok o) (ho : o.length = n + 1) (hk : k < n)
  (hI:Dg.val (o.take (k+1))=Dg.val (a.take k)*2^s) (hL:o[k]?.getD 0<2^s) :
  ∃(Q:Int) (d e:Nat),IntKind.u64.wrap (X*2^T.toNat)=Q/\bits BinOp.or IntKind.u32 (o[k]?.getD 0:Nat) (Q%4294967296)=d/\Q / 4294967296%4294967296=e/\d<Dg.B/\e<Dg.B /\
   Dg.val (((o.set k d).set (k+1) e).take (k+1+1))=Dg.val (a.take (k+1))*2^s/\((o.set k d).set (k+1) e)[k+1]?.getD 0<2^s:=by
 have hx:=Dg.ok_getD oa k
 have h:=Dg.shifted_step (a:=a) (o:=o) (i:=k) hs (by omega) hx hI hL
 have hlt:=Dg.high_lt (s:=s) hx
 have hp:=Dg.pow_le_half hs
 have hor:=u32_or_nat (o[k]?.getD 0) (a[k]?.getD 0*2^s%Dg.B) (by have:=Dg.ok_getD oo k;rw[Dg.B_eq]at this;exact this) (by have:=Nat.mod_lt (a[k]?.getD 0*2^s) Dg.B_pos;rw[Dg.B_eq]at this ⊢;exact this)
 have hQ:a[k]?.getD 0*2^s≤4294967296*2147483648:=Nat.mul_le_mul (by rw[Dg.B_eq]at hx;omega) hp
 have e1:X*2^T.toNat=((a[k]?.getD 0*2^s:Nat):Int):=by rw[hX,hT,Int.toNat_natCast,Int.natCast_mul,Int.natCast_pow];rfl
 rw[e1]
 generalize a[k]?.getD 0*2^s=q at *
 rw[Dg.B_eq]at h hor hlt
 refine⟨(q:Int),_,q / 4294967296,IntWalk.u64_in _ ⟨by omega,by omega⟩,by rw[← hor];rfl,by omega,?_,by rw[Dg.B_eq];omega,h.1,?_⟩
 ·rw[Dg.B_eq];exact h.2.2
 ·have:k+1<((o.set k (o[k]?.getD 0 ||| q%4294967296)).set (k+1) (q / 4294967296)).length:=by simp;omega
  rw[List.getElem?_eq_getElem this]
  simpa using hlt
set_option maxRecDepth 100000 in
set_option maxHeartbeats 1000000 in
theorem shifted_any (A : Option Addr) (n c : Nat) (s : Nat) (a : List Nat) (w : World) (ha : Dig w A n a) (hn : n ≤ LIM) (hs : s ≤ 31) :
  Calls Tryz.prog 182 #[.slice A n c,.int .u64 (s:Int)] w fun e w'=>∃ g o,e = .returned (.slice (some ⟨g,0,none⟩) (n+1) (n+1))/\OwnD w' w.heap.size g (n+1) o/\Dg.val o=Dg.val a*2^s/\Below w.heap.size w w':=by
 have HA:=Lib.hid ha
 clear ha
 obtain⟨i0,hi,hz0,hz1,hz2⟩:=info_parts info158
 unfold LIM at hn
 obtain⟨T,hT⟩:∃ T:Int,T=(s:Int):=⟨_,rfl⟩
 rw[← hT]
 have hT0:0≤T:=by omega
 have hT1:T≤31:=by omega
 have HT:=Lib.hid hT
 clear hT hs
 go_enter Tryz.func182,Tryz.ntmps182
 go_wp2_with (at_make;refine wpList_make_full _ rfl _ _ 34 rfl w.heap.size 119 i0 _ 1 Tryz.underlying34 hi hz0 hz1 .i64 .i64 _ _ (n+1) rfl rfl (by omega) (by omega) (by rw[hz2];omega) (by unfold maxLen;omega) (Nat.le_refl _) ?_;intro w1 hown hgr;have HO:=Lib.hid (OwnD.made hown);clear hown;have hb1:Below w.heap.size w w1:=(Below.refl _ _).grown hgr (Nat.le_refl _) (by simp);clear hgr)
 go_loopw [15] (fun v wr=>∃(k:Nat) (o:List Nat),k≤n/\v = .int .i64 k/\OwnD wr w.heap.size w.heap.size (n+1) o/\Hid (Dg.val (o.take (k+1))=Dg.val (a.take k)*2^s)/\Hid (o[k]?.getD 0<2^s)/\Below w.heap.size w wr) (fun v _=>n-(intOf v).toNat)
 case atStart=>exact⟨0,_,by omega,rfl,HO.out,by show _=_;simp[Dg.val,List.take_replicate],by show _<_;simp;exact Nat.pow_pos (by omega),hb1⟩
 case round =>
  obtain⟨k,o,hk,rfl,hO,HI,HL,hbw⟩:=hrel
  by_cases hlt:k<n
  ·have hoc:=hO.cell (i:=k) (by omega)
   have hof:=hO.frozen k
   have hoc':=hO.cell (i:=k+1) (by omega)
   have hof':=hO.frozen (k+1)
   have hOh:=Lib.hid hO
   clear hO
   obtain⟨b1,o1,rfl,hl1,hcell1⟩:=(HA.out.below hbw).at_ (by omega)
   have hc1:=hcell1 k (by omega)
   have hx1:(a[k]?.getD 0)<4294967296:=Dg.ok_getD HA.out.ok k
   clear hcell1
   obtain⟨X,hX⟩:∃ X:Int,X=(a[k]?.getD 0:Nat):=⟨_,rfl⟩
   rw[← hX]at hc1
   have hX0:0≤X:=by omega
   have hX1:X<4294967296:=by omega
   have HX:=Lib.hid hX
   clear hX hx1
   have hdk:decide (k<n)=true:=by simp;omega
   obtain⟨Q,d,e,hQ1,hQ2,hQ3,hd,he,hI2,hL2⟩:=shifted_round HX.out HT.out (by have:=HT.out;omega) HA.out.ok hOh.out.2.1 hOh.out.1 hlt HI.out HL.out
   have HS:=Lib.hid ((hOh.out.set_ k d hd).set_ (k+1) e he)
   have HI2:=Lib.hid hI2
   have HL2:=Lib.hid hL2
   have hbn:Below w.heap.size w ((wr.setCell ⟨w.heap.size,k,none⟩ (.int .u32 d)).setCell ⟨w.heap.size,k+1,none⟩ (.int .u32 e)):=(hbw.setCell (by simp) _).setCell (by simp) _
   clear hd he hI2 hL2
   go_wp2
   go_roundw
   case rel=>exact⟨k+1,_,by omega,by go_num,HS.out,HI2.out,HL2.out,hbn⟩
   case measure=>simp[intOf] <;> omega
  ·obtain rfl:k=n:=by omega
   have hdk:decide (k<k)=false:=by simp
   have HOh:=Lib.hid hO
   clear hO
   go_wp2
   go_ret
   refine⟨_,_,rfl,HOh.out,?_,hbw⟩
   have h1:=HI.out
   rwa [List.take_of_length_le (by have:=HOh.out.1;omega),List.take_of_length_le (by have:=HA.out.len;omega)]at h1
end Go.Proofs.YtkmbnldginonbaaGreat
/- The function unshifted of package bigint: digits moved to the right by less than 32 binary places. The length is at most 2^40. -/
namespace Go.Proofs.YtkmbnldginonbaaGreat
open Go.RowKit
theorem unshifted_round {a : List Nat} {k n s : Nat} {X Y T : Int} (hX : X = (a[k]?.getD 0 : Nat)) (hY : Y = (a[k + 1]?.getD 0 : Nat)) (hT : T = (s : Int)) (oa : Dg.ok a) (ha : a.length = n) (hk : k < n) :
  ∃(Q:Int) (d:Nat),bits BinOp.or IntKind.u64 X (Y*4294967296)=Q/\0≤Q/\Q≤18446744073709551615/\Q / 2^T.toNat%4294967296=d/\d<Dg.B/\(Dg.unsh s a)[k]? = some d/\Q=X+Y*4294967296:=by
 have hx:=Dg.ok_getD oa k
 have hy:=Dg.ok_getD oa (k+1)
 have h3:=Dg.or_high (x:=a[k]?.getD 0) (h:=a[k+1]?.getD 0) hx
 have hg:=Dg.unsh_get s a k (by omega)
 have hak:a[k]=a[k]?.getD 0:=by rw[List.getElem?_eq_getElem (by omega)];rfl
 rw[hak]at hg
 have hor:=u64_or_nat (a[k]?.getD 0) (a[k+1]?.getD 0*Dg.B) (by rw[Dg.B_eq]at *;omega) (by rw[Dg.B_eq]at *;omega)
 rw[h3]at hor
 have e1:Y*4294967296=((a[k+1]?.getD 0*Dg.B:Nat):Int):=by rw[hY,Dg.B_eq];omega
 have e2:(2:Int)^T.toNat=((2^s:Nat):Int):=by rw[hT,Int.toNat_natCast,Int.natCast_pow];rfl
 rw[e1,hX,hor,e2]
 rw[Dg.B_eq]at hx hy hg ⊢
 refine⟨_,_,rfl,by omega,by omega,?_,Nat.mod_lt _ (by omega),hg,by omega⟩
 rw[← Int.natCast_ediv]
 omega
theorem take_unsh_succ {s:Nat} {a o:List Nat} {k d:Nat} (hk:k<o.length) (h:o.take k=(Dg.unsh s a).take k) (hd:(Dg.unsh s a)[k]? = some d):(o.set k d).take (k+1)=(Dg.unsh s a).take (k+1):=by
 rw[Dg.take_set_succ hk,h,List.take_add_one,hd];rfl
set_option maxRecDepth 100000 in
set_option maxHeartbeats 1000000 in
theorem unshifted_any (A : Option Addr) (n c : Nat) (s : Nat) (a : List Nat) (w : World) (ha : Dig w A n a) (hn : n ≤ LIM) (hs : s ≤ 31) :
  Calls Tryz.prog 184 #[.slice A n c,.int .u64 (s:Int)] w fun e w'=>∃ g o,e = .returned (.slice (some ⟨g,0,none⟩) n n)/\Dig w' (some ⟨g,0,none⟩) n o/\Dg.val o=Dg.val a / 2^s/\Below w.heap.size w w':=by
 have HA:=Lib.hid ha
 clear ha
 have HVal:=Lib.hid (Dg.val_unsh hs HA.out.ok)
 have HUl:=Lib.hid (Dg.unsh_length s a)
 obtain⟨i0,hi,hz0,hz1,hz2⟩:=info_parts info158
 unfold LIM at hn
 obtain⟨T,hT⟩:∃ T:Int,T=(s:Int):=⟨_,rfl⟩
 rw[← hT]
 have hT0:0≤T:=by omega
 have hT1:T≤31:=by omega
 have HT:=Lib.hid hT
 clear hT hs
 go_enter Tryz.func184,Tryz.ntmps184
 go_wp2_with (at_make;refine wpList_make_full _ rfl _ _ 34 rfl w.heap.size 119 i0 _ 1 Tryz.underlying34 hi hz0 hz1 .i64 .i64 _ _ n rfl rfl (by omega) (by omega) (by rw[hz2];omega) (by unfold maxLen;omega) (Nat.le_refl _) ?_;intro w1 hown hgr;have HO:=Lib.hid (OwnD.made hown);clear hown;have hb1:Below w.heap.size w w1:=(Below.refl _ _).grown hgr (Nat.le_refl _) (by simp);clear hgr)
 go_loopw [13] (fun v wr=>∃(k:Nat) (o:List Nat),k≤n/\v = .int .i64 k/\OwnD wr w.heap.size w.heap.size n o/\Hid (o.take k=(Dg.unsh s a).take k)/\Below w.heap.size w wr) (fun v _=>n-(intOf v).toNat)
 case atStart=>exact⟨0,_,by omega,rfl,HO.out,by show _=_;simp,hb1⟩
 case round =>
  obtain⟨k,o,hk,rfl,hO,HI,hbw⟩:=hrel
  by_cases hlt:k<n
  ·have hoc:=hO.cell (i:=k) (by omega)
   have hof:=hO.frozen k
   have hOh:=Lib.hid hO
   clear hO
   obtain⟨b1,o1,rfl,hl1,hcell1⟩:=(HA.out.below hbw).at_ (by omega)
   have hc1:=hcell1 k (by omega)
   have hx1:(a[k]?.getD 0)<4294967296:=Dg.ok_getD HA.out.ok k
   obtain⟨X,hX⟩:∃ X:Int,X=(a[k]?.getD 0:Nat):=⟨_,rfl⟩
   rw[← hX]at hc1
   have hX0:0≤X:=by omega
   have hX1:X<4294967296:=by omega
   have HX:=Lib.hid hX
   clear hX hx1
   have hdk:decide (k<n)=true:=by simp;omega
   obtain⟨Y,hY⟩:∃ X:Int,X=(a[k+1]?.getD 0:Nat):=⟨_,rfl⟩
   have hx1:(a[k+1]?.getD 0)<4294967296:=Dg.ok_getD HA.out.ok (k+1)
   have hY0:0≤Y:=by omega
   have hY1:Y<4294967296:=by omega
   have HY:=Lib.hid hY
   obtain⟨Q,d,hQ1,hQ0,hQm,hQd,hd,hud,hQe⟩:=unshifted_round HX.out HY.out HT.out HA.out.ok HA.out.len.symm hlt
   have HS:=Lib.hid (hOh.out.set_ k d hd)
   have HI2:=Lib.hid (take_unsh_succ (by have:=hOh.out.1;omega) HI.out hud)
   have hbn:Below w.heap.size w (wr.setCell ⟨w.heap.size,k,none⟩ (.int .u32 d)):=hbw.setCell (by simp) _
   have HQe:=Lib.hid hQe
   clear hd hud hQe
   by_cases hlt2:k+1<n
   ·have hc2:=hcell1 (k+1) hlt2
    rw[← hY]at hc2
    have hdk2:decide ((k:Int)+1<(n:Int))=true:=by simp;omega
    clear hcell1 hY hx1
    go_wp2
    go_roundw
    case rel=>exact⟨k+1,_,by omega,by go_num,HS.out,HI2.out,hbn⟩
    case measure=>simp[intOf] <;> omega
   ·have hdk2:decide ((k:Int)+1<(n:Int))=false:=by simp;omega
    have hY2:Y=0:=by rw[hY,List.getElem?_eq_none (by have:=HA.out.len;omega)];rfl
    have hQX:Q=X:=by have:=HQe.out;omega
    subst hQX
    clear hcell1 hY hx1 hY2 hQ1
    go_wp2
    go_roundw
    case rel=>exact⟨k+1,_,by omega,by go_num,HS.out,HI2.out,hbn⟩
    case measure=>simp[intOf] <;> omega
  ·obtain rfl:k=n:=by omega
   have hdk:decide (k<k)=false:=by simp
   have HOh:=Lib.hid hO
   clear hO
   go_wp2
   go_ret
   refine⟨_,_,rfl,HOh.out.dig,?_,hbw⟩
   have h1:=HI.out
   rw[List.take_of_length_le (by have:=HOh.out.1;omega),List.take_of_length_le (by have:=HA.out.len;have:=HUl.out;omega)]at h1
   rw[h1];exact HVal.out
end Go.Proofs.YtkmbnldginonbaaGreat
/- The function digit of package bigint: one digit of a quotient; the rest stays in the row. The lengths are at most 2^40. -/
namespace Go.Proofs.YtkmbnldginonbaaGreat
open Go.RowKit
theorem Dig.grown {w w':World} {A:Option Addr} {n g:Nat} {ds:List Nat} (h:Dig w A n ds) (hg:w.grownBy w' (some g)) (hne:∀ b o,A=some ⟨b,o,none⟩->b≠g):Dig w' A n ds:=by
 refine⟨h.1,h.2.1,fun hn=>?_⟩
 obtain⟨b,o,hA,hlt,hc⟩:=h.2.2 hn
 refine⟨b,o,hA,Nat.lt_of_lt_of_le hlt hg.size,fun i hi=>?_⟩
 rw[← hc i hi]
 exact World.cell?_of_block (hg.block b hlt (by have:=hne b o hA;simpa using this))
theorem grownBy.trans {a b c:World} {row:Option Nat} (h:a.grownBy b row) (k:b.grownBy c row):a.grownBy c row :=
 ⟨k.os.trans h.os,k.tape.trans h.tape,k.output.trans h.output,Nat.le_trans h.size k.size,fun i hi hr=>(k.block i (Nat.lt_of_lt_of_le hi h.size) hr).trans (h.block i hi hr)⟩
theorem grownBy.of_below {a b:World} {row:Option Nat} (h:Below a.heap.size a b):a.grownBy b row:=⟨h.os,h.tape,h.output,h.size,fun i hi _=>h.block i hi⟩
def GuessI (U V top v1 v2:Nat) (G R:Int):Prop:=∃ g r:Nat,G=g/\R=r/\Dg.Guess U V top v1 v2 g r
def GuessedI (U V:Nat) (G:Int):Prop:=∃ g:Nat,G=g/\Dg.Guessed U V g
theorem guess_down_int {U V P top u0 v1 v2 u' v' : Nat} (e : Dg.Ends U V P top u0 v1 v2 u' v') (h : U < V * Dg.B) {G R U0 V0 V1 : Int} (hU0 : U0 = u0) (hV0 : V0 = v2) (hV1 : V1 = v1) (hg : GuessI U V top v1 v2 G R)
  (hc:4294967296≤G∨R*4294967296+U0<G*V0) :
  1≤G/\(4294967296≤R+V1->G-1<4294967296/\GuessedI U V (G-1))/\(R+V1<4294967296->GuessI U V top v1 v2 (G-1) (R+V1)):=by
 obtain⟨g,r,rfl,rfl,hG⟩:=hg
 obtain⟨h1,h2,h3,h4⟩:=Dg.guess_round e h hG (by
  rcases hc with hc | hc
  ·left;rw[Dg.B_eq];omega
  ·right
   rw[hU0,hV0]at hc
   have:((r*Dg.B+u0:Nat):Int)<((g*v2:Nat):Int):=by rw[Dg.B_eq];simpa using hc
   omega)
 rw[Dg.B_eq]at h4
 refine⟨by omega,fun hb=>?_,fun hb=>?_⟩
 ·have h5:=h4 (by omega)
  exact⟨by omega,g-1,by omega,Dg.guess_break e h2 h3 (by rw[Dg.B_eq];omega) (by rw[Dg.B_eq];omega)⟩
 ·exact⟨g-1,r+v1,by omega,by omega,h2,h3,by have:=hG.2.2.1;omega,by rw[Dg.B_eq];omega,hG.2.2.2.2⟩
theorem guess_exit_int {U V P top u0 v1 v2 u' v' : Nat} (e : Dg.Ends U V P top u0 v1 v2 u' v') {G R U0 V0 : Int} (hU0 : U0 = u0) (hV0 : V0 = v2) (hg : GuessI U V top v1 v2 G R)
  (hG:G<4294967296) (hc:G*V0≤R*4294967296+U0):GuessedI U V G:=by
 obtain⟨g,r,rfl,rfl,hgg⟩:=hg
 refine⟨g,rfl,Dg.guess_exit e hgg (by rw[Dg.B_eq];omega) ?_⟩
 rw[hU0,hV0]at hc
 have:((g*v2:Nat):Int)≤((r*Dg.B+u0:Nat):Int):=by rw[Dg.B_eq];simpa using hc
 omega
theorem drop_set_add (us:List Nat) (j k d:Nat):(us.set (j+k) d).drop j=(us.drop j).set k d:=by
 rw[List.drop_set,if_neg (by omega)];congr 1;omega
theorem take_set_add (us:List Nat) (j k d:Nat):(us.set (j+k) d).take j=us.take j:=by
 rw[List.take_set_of_le (by omega)]
theorem mulsub_round {O O0 v : List Nat} {k gq : Nat} {G X P C Bo Uk : Int} (hG : G = gq) (hX : X = (v[k]?.getD 0 : Nat)) (hP : P = G * X) (hU : Uk = (O0[k]?.getD 0 : Nat)) (hU1 : Uk < 4294967296) (hP0 : 0 ≤ P) (hP1 : P ≤ 18446744065119617025) (hC0 : 0 ≤ C) (hC1 : C < 4294967296) (hB0 : 0 ≤ Bo) (hB1 : Bo ≤ 1)
  (hk:k<O.length) (hI:Dg.val (O.take k)+gq*Dg.val (v.take k)=Dg.val (O0.take k)+Dg.B^k*(C+Bo).toNat) :
  ∃ d:Nat,(Uk-(P+C)%4294967296-Bo)%4294967296=d/\d<Dg.B/\0≤(P+C) / 4294967296/\(P+C) / 4294967296<4294967296 /\
   Dg.val ((O.set k d).take (k+1))+gq*Dg.val (v.take (k+1))=Dg.val (O0.take (k+1))+Dg.B^(k+1)*((P+C) / 4294967296+bor Uk ((P+C)%4294967296) Bo).toNat:=by
 obtain⟨c,rfl⟩:=Int.eq_ofNat_of_zero_le hC0
 obtain⟨b,rfl⟩:=Int.eq_ofNat_of_zero_le hB0
 obtain⟨d,hd⟩:=Int.eq_ofNat_of_zero_le (a:=(Uk-(P+c)%4294967296-b)%4294967296) (by omega)
 obtain⟨b',hb'⟩:=Int.eq_ofNat_of_zero_le (a:=bor Uk ((P+c)%4294967296) b) (by rcases bor_cases Uk ((P+c)%4294967296) b with h | h <;> omega)
 have e:P+c=((gq*v[k]?.getD 0+c:Nat):Int):=by rw[hP,hG,hX];simp
 refine⟨d,hd,by rw[Dg.B_eq];omega,by omega,by omega,?_⟩
 rw[hb']
 have hbc:=bor_cases Uk ((P+c)%4294967296) b
 rw[e]at hd hbc hb' ⊢
 generalize hq:gq*v[k]?.getD 0+c=t at *
 have hs := Dg.mulsub_step (u := O0) (v := v) (o := O) (g := gq) (k := k) (c := c) (c' := t / Dg.B) (b := b) (b' := b') (d := d) hk (by rw [show ((c : Int) + b).toNat = c + b from by omega] at hI; exact hI) (by rw [hq]; have := Nat.mod_add_div t Dg.B; omega)
  (by rw[hq,Dg.B_eq];rcases hbc with⟨h,e⟩ | ⟨h,e⟩ <;> omega)
 rw[hs]
 congr 2
theorem mulsub_last {O O0 v : List Nat} {k gq : Nat} {G C Bo Uk : Int} (hG : G = gq) (hU : Uk = (O0[k]?.getD 0 : Nat)) (hU1 : Uk < 4294967296) (hC0 : 0 ≤ C) (hC1 : C < 4294967296) (hB0 : 0 ≤ Bo) (hB1 : Bo ≤ 1)
  (hv:v.length=k) (hk:k<O.length) (hI:Dg.val (O.take k)+gq*Dg.val (v.take k)=Dg.val (O0.take k)+Dg.B^k*(C+Bo).toNat) :
  ∃ d:Nat,(Uk-C-Bo)%4294967296=d/\d<Dg.B/\Dg.val ((O.set k d).take (k+1))+gq*Dg.val v=Dg.val (O0.take (k+1))+Dg.B^(k+1)*(bor Uk C Bo).toNat:=by
 obtain⟨d,h1,h2,h3,h4,h5⟩:=mulsub_round (X:=0) (P:=0) hG (by rw[List.getElem?_eq_none (by omega)];rfl) (by omega) hU hU1 (by omega) (by omega) hC0 hC1 hB0 hB1 hk hI
 rw[Int.zero_add,Int.emod_eq_of_lt hC0 hC1]at h1
 rw[Int.zero_add,Int.emod_eq_of_lt hC0 hC1,Int.ediv_eq_zero_of_lt hC0 hC1,Int.zero_add,List.take_of_length_le (l:=v) (by omega)]at h5
 exact⟨d,h1,h2,h5⟩
theorem addback_round {a b o : List Nat} {k : Nat} {X Y C : Int} (hX : X = (a[k]?.getD 0 : Nat)) (hY : Y = (b[k]?.getD 0 : Nat)) (hC0 : 0 ≤ C) (hk : k < o.length)
  (hI:Dg.val (o.take k)+Dg.B^k*C.toNat=Dg.val (a.take k)+Dg.val (b.take k)) :
  ∃ d:Nat,(X+Y+C)%4294967296=d/\d<Dg.B/\Dg.val ((o.set k d).take (k+1))+Dg.B^(k+1)*((X+Y+C) / 4294967296).toNat=Dg.val (a.take (k+1))+Dg.val (b.take (k+1)):=by
 obtain⟨c,rfl⟩:=Int.eq_ofNat_of_zero_le hC0
 have h:=Dg.plus_step (a:=a) (b:=b) (o:=o) (k:=k) (c:=c) hk (by simpa using hI)
 refine⟨(a[k]?.getD 0+b[k]?.getD 0+c)%Dg.B,?_,Nat.mod_lt _ Dg.B_pos,?_⟩
 ·rw[hX,hY,Dg.B_eq];omega
 ·rw[← h]
  congr 2
  rw[hX,hY,Dg.B_eq];omega
theorem addback_end {x y M c:Nat} (h:x+M*c=y+M) (hx:x<M) (hy:y<M):x=y:=by
 rcases Nat.lt_or_ge c 1 with h1 | h1
 ·have:c=0:=by omega
  subst this;omega
 ·rcases Nat.lt_or_ge 1 c with h2 | h2
  ·have:=Nat.mul_le_mul_left M h2
   omega
  ·have:c=1:=by omega
   subst this;omega
set_option maxRecDepth 100000 in
set_option maxHeartbeats 2000000 in
theorem digit_any (base g j N cu : Nat) (A : Option Addr) (m c : Nat) (us v : List Nat) (w : World) (hu : OwnD w base g N us) (hv : Dig w A (m + 2) v) (hj : j + m + 3 ≤ N) (hN : N ≤ LIM) (hne : ∀ b o, A = some ⟨b, o, none⟩ → b ≠ g)
  (norm:Dg.B≤2*v[m+1]?.getD 0) (hUV:Dg.val ((us.drop j).take (m+3))<Dg.val v*Dg.B) :
  Calls Tryz.prog 183 #[.slice (some ⟨g,j,none⟩) (m+3) cu,.slice A (m+2) c] w fun e w'=>∃ us' q:_,e = .returned (.int .u32 (q:Nat))/\OwnD w' base g N us'/\us'.take j=us.take j/\us'.drop (j+m+3)=us.drop (j+m+3) /\
   q=Dg.val ((us.drop j).take (m+3)) / Dg.val v/\Dg.val ((us'.drop j).take (m+3))=Dg.val ((us.drop j).take (m+3))%Dg.val v/\w.grownBy w' (some g):=by
 have HU:=Lib.hid hu
 have HV:=Lib.hid hv
 have HNE:=Lib.hid hne
 have oO:Dg.ok (us.drop j):=Dg.ok_drop hu.2.1 j
 have E:=Lib.hid (Dg.ends_of hv.len.symm oO hv.ok norm)
 have HUV:=Lib.hid hUV
 have OO:=Lib.hid oO
 have hget:∀ i,(us.drop j)[i]?.getD 0=us[j+i]?.getD 0:=fun i=>by rw[List.getElem?_drop]
 obtain⟨bv,ov,rfl,hlv,hcellv⟩:=hv.at_ (by omega)
 have cu0:=hu.cell (i:=j+m) (by omega)
 have cu1:=hu.cell (i:=j+(m+1)) (by omega)
 have cu2:=hu.cell (i:=j+(m+2)) (by omega)
 have cv0:=hcellv m (by omega)
 have cv1:=hcellv (m+1) (by omega)
 rw[← hget]at cu0 cu1 cu2
 obtain⟨U0,hU0⟩:∃ X:Int,X=((us.drop j)[m]?.getD 0:Nat):=⟨_,rfl⟩
 obtain⟨U1,hU1⟩:∃ X:Int,X=((us.drop j)[m+1]?.getD 0:Nat):=⟨_,rfl⟩
 obtain⟨U2,hU2⟩:∃ X:Int,X=((us.drop j)[m+2]?.getD 0:Nat):=⟨_,rfl⟩
 obtain⟨V0,hV0⟩:∃ X:Int,X=(v[m]?.getD 0:Nat):=⟨_,rfl⟩
 obtain⟨V1,hV1⟩:∃ X:Int,X=(v[m+1]?.getD 0:Nat):=⟨_,rfl⟩
 have b0:((us.drop j)[m]?.getD 0)<4294967296:=Dg.ok_getD oO _
 have b1:((us.drop j)[m+1]?.getD 0)<4294967296:=Dg.ok_getD oO _
 have b2:((us.drop j)[m+2]?.getD 0)<4294967296:=Dg.ok_getD oO _
 have b3:(v[m]?.getD 0)<4294967296:=Dg.ok_getD hv.ok _
 have b4:(v[m+1]?.getD 0)<4294967296:=Dg.ok_getD hv.ok _
 rw[← hU0]at cu0
 rw[← hU1]at cu1
 rw[← hU2]at cu2
 rw[← hV0]at cv0
 rw[← hV1]at cv1
 have U00:0≤U0:=by omega
 have U01:U0<4294967296:=by omega
 have U10:0≤U1:=by omega
 have U11:U1<4294967296:=by omega
 have U20:0≤U2:=by omega
 have U21:U2<4294967296:=by omega
 have V00:0≤V0:=by omega
 have V01:V0<4294967296:=by omega
 have V10:1≤V1:=by rw[Dg.B_eq]at norm;omega
 have V11:V1<4294967296:=by omega
 -- the first two digits
 obtain⟨T,hT⟩:∃ T:Int,T=U2*4294967296+U1:=⟨_,rfl⟩
 have hT0:0≤T:=by omega
 have hor:bits BinOp.or IntKind.u64 (U2*4294967296) U1=T:=by
  have h3:=Dg.or_high (x:=(us.drop j)[m+1]?.getD 0) (h:=(us.drop j)[m+2]?.getD 0) b1
  rw[hT,hU1,hU2,show((((us.drop j)[m+2]?.getD 0:Nat):Int)*4294967296)=(((us.drop j)[m+2]?.getD 0*Dg.B:Nat):Int)from by rw[Dg.B_eq];omega,u64_or_nat _ _ (by rw[Dg.B_eq];omega) (by omega),Nat.or_comm,h3]
  omega
 have hinit:=Dg.guess_init E.out HUV.out
 have eT:T=(((us.drop j)[m+2]?.getD 0*Dg.B+(us.drop j)[m+1]?.getD 0:Nat):Int):=by rw[hT,hU2,hU1,Dg.B_eq];omega
 obtain⟨G0,hG0⟩:∃ G:Int,G=T / V1:=⟨_,rfl⟩
 obtain⟨R0,hR0⟩:∃ G:Int,T%V1=G:=⟨_,rfl⟩
 have hGI:GuessI (Dg.val ((us.drop j).take (m+3))) (Dg.val v) ((us.drop j)[m+2]?.getD 0*Dg.B+(us.drop j)[m+1]?.getD 0) (v[m+1]?.getD 0) (v[m]?.getD 0) G0 R0 :=
  ⟨_,_,by rw[hG0,eT,hV1,Int.natCast_ediv],by rw[← hR0,eT,hV1,Int.natCast_emod],hinit⟩
 have hq:IntKind.u64.wrap (T.tdiv V1)=G0:=by
  obtain⟨g',r',e1,e2,h1,h2,h3,h4⟩:=hGI
  rw[Int.tdiv_eq_ediv_of_nonneg hT0,← hG0]
  exact IntWalk.u64_in _ ⟨by omega,by rw[Dg.B_eq]at h3;omega⟩
 have HGI:=Lib.hid hGI
 have hNN:(N:Int)≤2^40:=by unfold LIM at hN;omega
 have hm0:(m:Int)+2<(m:Int)+3:=by omega
 have hmN:(m:Int)+3≤2^40:=by omega
 have HT:=Lib.hid hT
 have HU0:=Lib.hid hU0
 have HU1:=Lib.hid hU1
 have HU2:=Lib.hid hU2
 have HV0:=Lib.hid hV0
 have HV1:=Lib.hid hV1
 have HJ:=Lib.hid hj
 clear hG0 hT hU0 hU1 hU2 hV0 hV1 b0 b1 b2 b3 b4 hinit eT hGI hu hv hne oO norm hUV hcellv hN hget hNN
 go_enter Tryz.func183,Tryz.ntmps183
 go_wp2
 go_quiet (fail)
 go_wp2
 go_quiet (fail)
 go_upto_block 0 with(fail)
 go_cut [7] (fun s wx=>∃ G:Int,s = .int .u64 G/\0≤G/\G<4294967296/\Hid (GuessedI (Dg.val ((us.drop j).take (m+3))) (Dg.val v) G)/\Below w.heap.size w wx)
 case first =>
  have HRe:=Lib.hid hR0
  clear hor hq hR0
  go_wp2_with fail
  go_loopw [7,8] (fun x y wr=>∃ G R:Int,x = .int .u64 G/\y = .int .u64 R/\0≤G/\G≤4294967297/\0≤R/\R<4294967296/\Hid (GuessI (Dg.val ((us.drop j).take (m+3))) (Dg.val v) ((us.drop j)[m+2]?.getD 0*Dg.B+(us.drop j)[m+1]?.getD 0) (v[m+1]?.getD 0) (v[m]?.getD 0) G R)/\Below w.heap.size w wr) (fun x _ _=>(intOf x).toNat)
  case atStart =>
   obtain⟨g',r',e1,e2,h1,h2,h3,h4,h5⟩:=HGI.out
   rw[Dg.B_eq]at h3 h4
   exact⟨G0,R0,rfl,by rw[HRe.out],by omega,by omega,by omega,by omega,HGI,bel_drewN (bel_drewN (Below.refl _ _) _) _⟩
  case round =>
   clear cu1 cu2 HGI
   obtain⟨G,R,rfl,rfl,hG0,hG1,hR0,hR1,HG,hbw⟩:=hrel
   have cu0':=(hbw.cell (p:=⟨g,j+m,none⟩) (HU.out.base.2)).trans cu0
   have cv0':=(hbw.cell (p:=⟨bv,ov+m,none⟩) hlv).trans cv0
   have cv1':=(hbw.cell (p:=⟨bv,ov+(m+1),none⟩) hlv).trans cv1
   clear cu0 cv0 cv1
   have hor2:bits BinOp.or IntKind.u64 (R*4294967296) U0=R*4294967296+U0:=by
    obtain⟨r',hr'⟩:=Int.eq_ofNat_of_zero_le hR0
    obtain⟨u',hu'⟩:=Int.eq_ofNat_of_zero_le U00
    have h3:=Dg.or_high (x:=u') (h:=r') (by rw[Dg.B_eq];omega)
    rw[hr',hu',show((r':Int)*4294967296)=((r'*Dg.B:Nat):Int)from by rw[Dg.B_eq];omega,u64_or_nat _ _ (by rw[Dg.B_eq];omega) (by omega),Nat.or_comm,h3]
    rw[Dg.B_eq];omega
   by_cases hbig:4294967296≤G
   ·obtain⟨hg1,hbr,hnb⟩:=guess_down_int E.out HUV.out HU0.out HV0.out HV1.out HG.out (.inl hbig)
    have HBR:=Lib.hid hbr
    have HNB:=Lib.hid hnb
    clear hbr hnb
    have hdb:decide (4294967296≤G)=true:=by simp;omega
    by_cases hov:4294967296≤R+V1
    ·have hdo:decide (4294967296≤R+V1)=true:=by simp;omega
     go_wp2
     go_quiet (fail)
     go_wp2
     go_meet
     case rel=>exact⟨G-1,rfl,by omega,(HBR.out hov).1,(HBR.out hov).2,bel_drewN hbw _⟩
    ·have hdo:decide (4294967296≤R+V1)=false:=by simp;omega
     go_wp2
     go_quiet (fail)
     go_wp2
     go_roundw
     case rel=>(repeat apply Exists.intro);exact⟨⟨G-1,R+V1,rfl,rfl,by omega,by omega,by omega,by omega,HNB.out (by omega),bel_drewN hbw _⟩,rfl⟩
     case measure=>simp[intOf] <;> omega
   ·obtain⟨P,hP⟩:∃ P:Int,P=G*V0:=⟨_,rfl⟩
    have hPm:=mul_bound hG0 (by omega) V00 V01
    have hw:IntKind.u64.wrap (G*V0)=P:=by rw[IntWalk.u64_in _ ⟨hPm.1,by omega⟩,hP]
    have HP:=Lib.hid hP
    clear hPm hP
    have hdb:decide (4294967296≤G)=false:=by simp;omega
    by_cases hcmp:R*4294967296+U0<P
    ·obtain⟨hg1,hbr,hnb⟩:=guess_down_int E.out HUV.out HU0.out HV0.out HV1.out HG.out (.inr (by rw[← HP.out];exact hcmp))
     have HBR:=Lib.hid hbr
     have HNB:=Lib.hid hnb
     clear hbr hnb
     have hdc:decide (R*4294967296+U0<P)=true:=by simp;omega
     by_cases hov:4294967296≤R+V1
     ·have hdo:decide (4294967296≤R+V1)=true:=by simp;omega
      go_wp2
      go_quiet (fail)
      go_wp2
      go_meet
      case rel=>exact⟨G-1,rfl,by omega,(HBR.out hov).1,(HBR.out hov).2,bel_drewN hbw _⟩
     ·have hdo:decide (4294967296≤R+V1)=false:=by simp;omega
      go_wp2
      go_quiet (fail)
      go_wp2
      go_roundw
      case rel=>(repeat apply Exists.intro);exact⟨⟨G-1,R+V1,rfl,rfl,by omega,by omega,by omega,by omega,HNB.out (by omega),bel_drewN hbw _⟩,rfl⟩
      case measure=>simp[intOf] <;> omega
    ·have hdc:decide (R*4294967296+U0<P)=false:=by simp;omega
     have HX:=Lib.hid (guess_exit_int E.out HU0.out HV0.out HG.out (by omega) (by rw[← HP.out];omega))
     go_wp2
     go_quiet (fail)
     go_wp2
     go_meet
     case rel=>exact⟨G,rfl,hG0,by omega,HX.out,bel_drewN hbw _⟩
 case rest =>
  obtain⟨G,rfl,hG0,hG1,HG,hbx⟩:=hcut
  obtain⟨gq,hgq,hGd⟩:=HG.out
  have HGq:=Lib.hid hgq
  have HGd:=Lib.hid hGd
  clear hor hq hR0 hgq hGd HG HGI cu0 cu1 cu2 cv0 cv1 U00 U01 U10 U11 U20 U21 V00 V01 V10 V11 hT0
  go_wp2
  go_loopw [9,10,84] (fun x y z wr=>∃(k:Nat) (C Bo:Int) (us':List Nat),k≤m+2/\z = .int .i64 k/\x = .int .u64 C/\y = .int .u32 Bo/\0≤C/\C<4294967296/\0≤Bo/\Bo≤1/\OwnD wr base g N us'/\Hid (us'.take j=us.take j)/\Hid ((us'.drop j).drop k=(us.drop j).drop k) /\
   Hid (Dg.val ((us'.drop j).take k)+gq*Dg.val (v.take k)=Dg.val ((us.drop j).take k)+Dg.B^k*(C+Bo).toNat)/\w.grownBy wr (some g)) (fun _ _ z _=>m+2-(intOf z).toNat)
  case atStart=>exact⟨0,0,0,us,by omega,rfl,rfl,rfl,by omega,by omega,by omega,by omega,HU.out.below hbx,rfl,rfl,by show _=_;simp[Dg.val],grownBy.of_below hbx⟩
  case round =>
   clear hbx
   obtain⟨k,C,Bo,us',hk,rfl,rfl,rfl,hC0,hC1,hB0,hB1,hO,HT1,HT2,HI,hgr⟩:=hrel
   have hug:∀ i,k≤i->us'[j+i]?.getD 0=(us.drop j)[i]?.getD 0:=by
    intro i hi
    have:=congrArg (fun l:List Nat=>l[i-k]?.getD 0) HT2.out
    simp only[List.getElem?_drop]at this
    rw[List.getElem?_drop]
    rwa [show j+(k+(i-k))=j+i from by omega]at this
   by_cases hlt:k<m+2
   ·have hoc:=hO.cell (i:=j+k) (by have:=HJ.out;omega)
    have hof:=hO.frozen (j+k)
    rw[hug k (Nat.le_refl _)]at hoc
    have hOh:=Lib.hid hO
    obtain⟨b2,o2,hbe,hl2,hcell2⟩:=(HV.out.grown hgr HNE.out).at_ (by omega)
    injection hbe with hbe
    injection hbe with hb1 hb2
    subst hb1 hb2
    have hc2:=hcell2 k hlt
    have hx1:(v[k]?.getD 0)<4294967296:=Dg.ok_getD HV.out.ok k
    have hz1:((us.drop j)[k]?.getD 0)<4294967296:=Dg.ok_getD OO.out k
    obtain⟨X,hX⟩:∃ X:Int,X=(v[k]?.getD 0:Nat):=⟨_,rfl⟩
    obtain⟨Z,hZ⟩:∃ X:Int,X=((us.drop j)[k]?.getD 0:Nat):=⟨_,rfl⟩
    rw[← hX]at hc2
    rw[← hZ]at hoc
    have hX0:0≤X:=by omega
    have hX1:X<4294967296:=by omega
    have hZ0:0≤Z:=by omega
    have hZ1:Z<4294967296:=by omega
    have hm:=mul_bound hG0 hG1 hX0 hX1
    obtain⟨P,hP⟩:∃ P:Int,P=G*X:=⟨_,rfl⟩
    have hw:IntKind.u64.wrap (G*X)=P:=by rw[IntWalk.u64_in _ ⟨hm.1,by omega⟩,hP]
    have hP0:0≤P:=by omega
    have hP1:P≤18446744065119617025:=by omega
    obtain⟨d,hd1,hd2,hd3,hd4,hd5⟩:=mulsub_round (O:=us'.drop j) HGq.out hX hP hZ hZ1 hP0 hP1 hC0 hC1 hB0 hB1 (by rw[List.length_drop];have:=hO.1;have:=HJ.out;omega) HI.out
    have HS:=Lib.hid (hO.set_ (j+k) d hd2)
    have HD5:=Lib.hid hd5
    have hgn:w.grownBy (wr.setCell ⟨g,j+k,none⟩ (.int .u32 d)) (some g):=grownBy.trans hgr (hO.2.2.stored (j+k) _).2
    have hbo:=bor_cases Z ((P+C)%4294967296) Bo
    have hS:bor Z ((P+C)%4294967296) Bo≤1:=by rcases hbo with h | h <;> omega
    have hS0:0≤bor Z ((P+C)%4294967296) Bo:=by rcases hbo with h | h <;> omega
    have hdk:decide ((k:Int)<(m:Int)+2)=true:=by simp;omega
    have hki:(k:Int)<(m:Int)+2:=by omega
    have hki':(k:Int)<(m:Int)+3:=by omega
    have hm1:0≤(P+C)%4294967296:=by omega
    have hm2:(P+C)%4294967296<4294967296:=by omega
    have HT3:Hid (((us'.set (j+k) d).drop j).drop (k+1)=(us.drop j).drop (k+1)):=by
     show _=_
     rw[drop_set_add,List.drop_set_of_lt (by omega)]
     have e:∀ X:List Nat,X.drop (k+1)=(X.drop k).drop 1:=fun X=>by rw[List.drop_drop]
     rw[e,e,HT2.out]
    clear hd2 hd5 hO hX hZ hx1 hz1 hP hm hcell2 hug hbo
    go_wp2_with (go_at_call 179;refine(sub32_any _ _ _ _ hZ0 hZ1 hm1 hm2 hB0 hB1).mono ?_;rintro e w' ⟨rfl,rfl⟩)
    go_roundw
    case rel=>(repeat apply Exists.intro);exact⟨⟨k+1,_,_,_,by omega,by go_num,rfl,rfl,hd3,hd4,hS0,hS,HS.out,(by show _=_;rw[take_set_add];exact HT1.out),HT3,(by rw[drop_set_add];exact HD5.out),hgn⟩,rfl⟩
    case measure=>simp[intOf] <;> omega
   ·obtain rfl:k=m+2:=by omega
    have hoc:=hO.cell (i:=j+(m+2)) (by have:=HJ.out;omega)
    have hof:=hO.frozen (j+(m+2))
    rw[hug (m+2) (Nat.le_refl _)]at hoc
    have hz1:((us.drop j)[m+2]?.getD 0)<4294967296:=Dg.ok_getD OO.out _
    obtain⟨Z,hZ⟩:∃ X:Int,X=((us.drop j)[m+2]?.getD 0:Nat):=⟨_,rfl⟩
    rw[← hZ]at hoc
    have hZ0:0≤Z:=by omega
    have hZ1:Z<4294967296:=by omega
    obtain⟨d,hd1,hd2,hd3⟩:=mulsub_last (O:=us'.drop j) HGq.out hZ hZ1 hC0 hC1 hB0 hB1 HV.out.len.symm (by rw[List.length_drop];have:=hO.1;have:=HJ.out;omega) HI.out
    have hS:=hO.set_ (j+(m+2)) d hd2
    have hgn:w.grownBy (wr.setCell ⟨g,j+(m+2),none⟩ (.int .u32 d)) (some g):=grownBy.trans hgr (hO.2.2.stored (j+(m+2)) _).2
    have hdk:decide ((m:Int)+2<(m:Int)+2)=false:=by simp
    have ht1:(us'.set (j+(m+2)) d).take j=us.take j:=by rw[take_set_add];exact HT1.out
    have ht2:(us'.set (j+(m+2)) d).drop (j+m+3)=us.drop (j+m+3):=by
     rw[List.drop_set_of_lt (by omega)]
     have e:∀ X:List Nat,X.drop (j+m+3)=((X.drop j).drop (m+2)).drop 1:=fun X=>by rw[List.drop_drop,List.drop_drop];congr 1
     rw[e,e,HT2.out]
    rw[← drop_set_add]at hd3
    have hlen:Dg.val (((us'.set (j+(m+2)) d).drop j).take (m+3))<Dg.B^(m+3):=by
     have:=Dg.val_lt (Dg.ok_take (Dg.ok_drop hS.2.1 j) (m+3))
     refine Nat.lt_of_lt_of_le this (Nat.pow_le_pow_right Dg.B_pos ?_)
     rw[List.length_take];omega
    have HS:=Lib.hid hS
    have HT4:=Lib.hid ht1
    have HT5:=Lib.hid ht2
    have HLen:=Lib.hid hlen
    have HD3:=Lib.hid hd3
    clear hd2 hd3 hO hug hS ht1 ht2 hlen HT1 HT2 HI hZ hz1
    rcases bor_cases Z C Bo with⟨hbl,hb⟩ | ⟨hbl,hb⟩
    ·-- one too great
     have HR:=Lib.hid (Dg.sub_great HGd.out HD3.out HLen.out (by rw[hb];rfl))
     have hG1':1≤G:=by have:=HR.out.1;have:=HGq.out;omega
     have HB:=Lib.hid hb
     clear hbl
     go_wp2_with (go_at_call 179;refine(sub32_any _ _ _ _ hZ0 hZ1 hC0 hC1 hB0 hB1).mono ?_;rintro e w' ⟨rfl,rfl⟩)
     obtain⟨us1,hus1⟩:∃ l,l=us'.set (j+(m+2)) d:=⟨_,rfl⟩
     rw[← hus1]at HS HT4 HT5 HLen HR
     have HVlt:=Lib.hid (Dg.val_lt HV.out.ok)
     clear HD3 hus1 hgr
     go_loopw [14,132] (fun x z wr=>∃(k:Nat) (C:Int) (us2:List Nat),k≤m+2/\z = .int .i64 k/\x = .int .u32 C/\0≤C/\C≤1/\OwnD wr base g N us2/\Hid (us2.take j=us1.take j)/\Hid ((us2.drop j).drop k=(us1.drop j).drop k) /\
      Hid (Dg.val ((us2.drop j).take k)+Dg.B^k*C.toNat=Dg.val ((us1.drop j).take k)+Dg.val (v.take k))/\w.grownBy wr (some g)) (fun _ z _=>m+2-(intOf z).toNat)
     case atStart=>exact⟨0,0,us1,by omega,rfl,rfl,by omega,by omega,HS.out,rfl,rfl,by show _=_;simp[Dg.val],hgn⟩
     case round =>
      clear hgn hoc hof HS HGd hZ0 hZ1 hd1 hdk
      clear hC0 hC1 hB0 hB1
      obtain⟨k,C,us2,hk,rfl,rfl,hC0,hC1,hO,HT1,HT2,HI,hgr⟩:=hrel
      have hug:∀ i,k≤i->us2[j+i]?.getD 0=(us1.drop j)[i]?.getD 0:=by
       intro i hi
       have:=congrArg (fun l:List Nat=>l[i-k]?.getD 0) HT2.out
       simp only[List.getElem?_drop]at this
       rw[List.getElem?_drop]
       rwa [show j+(k+(i-k))=j+i from by omega]at this
      have hok1:∀ i,k≤i->(us1.drop j)[i]?.getD 0<4294967296:=fun i hi=>by rw[← hug i hi];exact Dg.ok_getD hO.2.1 _
      by_cases hlt:k<m+2
      ·have hoc:=hO.cell (i:=j+k) (by have:=HJ.out;omega)
       have hof:=hO.frozen (j+k)
       rw[hug k (Nat.le_refl _)]at hoc
       obtain⟨b2,o2,hbe,hl2,hcell2⟩:=(HV.out.grown hgr HNE.out).at_ (by omega)
       injection hbe with hbe
       injection hbe with hb1 hb2
       subst hb1 hb2
       have hc2:=hcell2 k hlt
       have hx1:(v[k]?.getD 0)<4294967296:=Dg.ok_getD HV.out.ok k
       have hz1:=hok1 k (Nat.le_refl _)
       obtain⟨X,hX⟩:∃ X:Int,X=(v[k]?.getD 0:Nat):=⟨_,rfl⟩
       obtain⟨Z,hZ⟩:∃ X:Int,X=((us1.drop j)[k]?.getD 0:Nat):=⟨_,rfl⟩
       rw[← hX]at hc2
       rw[← hZ]at hoc
       have hX0:0≤X:=by omega
       have hX1:X<4294967296:=by omega
       have hZ0:0≤Z:=by omega
       have hZ1:Z<4294967296:=by omega
       obtain⟨d,hd1,hd2,hd3⟩:=addback_round (o:=us2.drop j) hZ hX hC0 (by rw[List.length_drop];have:=hO.1;have:=HJ.out;omega) HI.out
       have HS:=Lib.hid (hO.set_ (j+k) d hd2)
       have HD3:=Lib.hid hd3
       have hgn:w.grownBy (wr.setCell ⟨g,j+k,none⟩ (.int .u32 d)) (some g):=grownBy.trans hgr (hO.2.2.stored (j+k) _).2
       have hS:(Z+X+C) / 4294967296≤1:=by omega
       have hS0:0≤(Z+X+C) / 4294967296:=by omega
       have hdk:decide ((k:Int)<(m:Int)+2)=true:=by simp;omega
       have hki:(k:Int)<(m:Int)+2:=by omega
       have hki':(k:Int)<(m:Int)+3:=by omega
       have HT3:Hid (((us2.set (j+k) d).drop j).drop (k+1)=(us1.drop j).drop (k+1)):=by
        show _=_
        rw[drop_set_add,List.drop_set_of_lt (by omega)]
        have e:∀ X:List Nat,X.drop (k+1)=(X.drop k).drop 1:=fun X=>by rw[List.drop_drop]
        rw[e,e,HT2.out]
       clear hd2 hd3 hO hX hZ hx1 hz1 hcell2 hug hok1
       go_wp2_with (go_at_call 177;refine(add32_any _ _ _ _ hZ0 hZ1 hX0 hX1 hC0 hC1).mono ?_;rintro e w' ⟨rfl,rfl⟩)
       go_roundw
       case rel=>exact⟨k+1,_,_,by omega,by go_num,rfl,hS0,hS,HS.out,(by show _=_;rw[take_set_add];exact HT1.out),HT3,(by rw[drop_set_add];exact HD3.out),hgn⟩
       case measure=>simp[intOf] <;> omega
      ·obtain rfl:k=m+2:=by omega
       have hoc:=hO.cell (i:=j+(m+2)) (by have:=HJ.out;omega)
       have hof:=hO.frozen (j+(m+2))
       rw[hug (m+2) (Nat.le_refl _)]at hoc
       have hz1:=hok1 (m+2) (Nat.le_refl _)
       obtain⟨Z,hZ⟩:∃ X:Int,X=((us1.drop j)[m+2]?.getD 0:Nat):=⟨_,rfl⟩
       rw[← hZ]at hoc
       have hZ0:0≤Z:=by omega
       have hZ1:Z<4294967296:=by omega
       obtain⟨d,hd1,hd2,hd3⟩:=addback_round (o:=us2.drop j) (Y:=0) hZ (by rw[List.getElem?_eq_none (by have:=HV.out.len;omega)];rfl) hC0 (by rw[List.length_drop];have:=hO.1;have:=HJ.out;omega) HI.out
       rw[Int.add_zero]at hd1 hd3
       have hS:=hO.set_ (j+(m+2)) d hd2
       have hgn:w.grownBy (wr.setCell ⟨g,j+(m+2),none⟩ (.int .u32 d)) (some g):=grownBy.trans hgr (hO.2.2.stored (j+(m+2)) _).2
       have hdk:decide ((m:Int)+2<(m:Int)+2)=false:=by simp
       have ht1:(us2.set (j+(m+2)) d).take j=us.take j:=by rw[take_set_add,HT1.out,HT4.out]
       have ht2:(us2.set (j+(m+2)) d).drop (j+m+3)=us.drop (j+m+3):=by
        rw[List.drop_set_of_lt (by omega),← HT5.out]
        have e:∀ X:List Nat,X.drop (j+m+3)=((X.drop j).drop (m+2)).drop 1:=fun X=>by rw[List.drop_drop,List.drop_drop];congr 1
        rw[e,e,HT2.out]
       have hend:Dg.val (((us2.set (j+(m+2)) d).drop j).take (m+3))=Dg.val ((us.drop j).take (m+3))%Dg.val v:=by
        have hV0:0<Dg.val v:=by
         rcases Nat.eq_zero_or_pos (Dg.val v)with h | h
         ·have:=HUV.out;rw[h]at this;omega
         ·exact h
        have hlen:Dg.val (((us2.set (j+(m+2)) d).drop j).take (m+3))<Dg.B^(m+3):=by
         have:=Dg.val_lt (Dg.ok_take (Dg.ok_drop hS.2.1 j) (m+3))
         refine Nat.lt_of_lt_of_le this (Nat.pow_le_pow_right Dg.B_pos ?_)
         rw[List.length_take];omega
        have hvl:Dg.val v<Dg.B^(m+3):=Nat.lt_of_lt_of_le HVlt.out (Nat.pow_le_pow_right Dg.B_pos (by have:=HV.out.len;omega))
        refine addback_end (M:=Dg.B^(m+3)) (c:=((Z+C) / 4294967296).toNat) ?_ hlen (Nat.lt_trans (Nat.mod_lt _ hV0) hvl)
        rw[drop_set_add,HR.out.2.2]
        rw[List.take_of_length_le (l:=v) (by have:=HV.out.len;omega)]at hd3
        exact hd3
       have HS:=Lib.hid hS
       have HE:=Lib.hid hend
       have HT6:=Lib.hid ht1
       have HT7:=Lib.hid ht2
       clear hd2 hd3 hO hug hok1 hS ht1 ht2 hend HI hZ hz1
       go_wp2
       go_ret
       exact⟨_,gq-1,ret_int (by have:=HGq.out;have:=HR.out.1;omega),HS.out,HT6.out,HT7.out,HR.out.2.1.symm,HE.out,hgn⟩
    ·have HR:=Lib.hid (Dg.sub_right HGd.out HD3.out (by rw[hb];rfl))
     clear hbl
     go_wp2_with (go_at_call 179;refine(sub32_any _ _ _ _ hZ0 hZ1 hC0 hC1 hB0 hB1).mono ?_;rintro e w' ⟨rfl,rfl⟩)
     go_ret
     exact⟨_,gq,ret_int HGq.out,HS.out,HT4.out,HT5.out,HR.out.1.symm,HR.out.2.symm,hgn⟩
end Go.Proofs.YtkmbnldginonbaaGreat
/- The functions Len32 and LeadingZeros32 of package math/bits, and slices.Clone at digits. -/
namespace Go.Proofs.YtkmbnldginonbaaGreat
open Go.RowKit
set_option maxRecDepth 100000
def lenTab:ByteArray:={ data:=#[0,1,2,2,3,3,3,3,4,4,4,4,4,4,4,4,5,5,5,5,5,5,5,5,5,5,5,5,5,5,5,5,6,6,6,6,6,6,6,6,6,6,6,6,6,6,6,6,6,6,6,6,6,6,6,6,6,6,6,6,6,6,6,6,7,7,7,7,7,7,7,7,7,7,7,7,7,7,7,7,7,7,7,7,7,7,7,7,7,7,7,7,7,7,7,7,7,7,7,7,7,7,7,7,7,7,7,7,7,7,7,7,7,7,7,7,7,7,7,7,7,7,7,7,7,7,7,7,8,8,8,8,8,8,8,8,8,8,8,8,8,8,8,8,8,8,8,8,8,8,8,8,8,8,8,8,8,8,8,8,8,8,8,8,8,8,8,8,8,8,8,8,8,8,8,8,8,8,8,8,8,8,8,8,8,8,8,8,8,8,8,8,8,8,8,8,8,8,8,8,8,8,8,8,8,8,8,8,8,8,8,8,8,8,8,8,8,8,8,8,8,8,8,8,8,8,8,8,8,8,8,8,8,8,8,8,8,8,8,8,8,8,8,8,8,8,8,8,8,8,8,8,8,8,8,8] }
theorem lenTab_size:lenTab.size=256:=by decide +kernel
theorem lenTab_all:∀ i:Fin 256,0<i.1->1≤(lenTab.data.toList[i.1]?.getD 0).toNat/\(lenTab.data.toList[i.1]?.getD 0).toNat≤8/\2^((lenTab.data.toList[i.1]?.getD 0).toNat-1)≤i.1/\i.1<2^(lenTab.data.toList[i.1]?.getD 0).toNat:=by decide +kernel
theorem lenTab_at (i:Nat) (h:i<lenTab.size) (h0:0<i):1≤lenTab[i].toNat/\lenTab[i].toNat≤8/\2^(lenTab[i].toNat-1)≤i/\i<2^lenTab[i].toNat:=by
 have h2:i<256:=h
 have:=lenTab_all ⟨i,h2⟩ h0
 have e:lenTab.data.toList[i]?.getD 0=lenTab[i]:=by
  rw[List.getElem?_eq_getElem (show i<lenTab.data.toList.length from h2)];rfl
 have h3:1≤(lenTab.data.toList[i]?.getD 0).toNat/\(lenTab.data.toList[i]?.getD 0).toNat≤8/\2^((lenTab.data.toList[i]?.getD 0).toNat-1)≤i/\i<2^(lenTab.data.toList[i]?.getD 0).toNat:=this
 rwa [e]at h3
theorem len_fin {x y k t:Nat} (hy:y=x / 2^k) (h1:1≤t) (h2:2^(t-1)≤y) (h3:y<2^t):2^(k+t-1)≤x/\x<2^(k+t):=by
 subst hy
 have hp:0<2^k:=Nat.pow_pos (by omega)
 constructor
 ·rw[show k+t-1=(t-1)+k from by omega,Nat.pow_add]
  exact(Nat.le_div_iff_mul_le hp).1 h2
 ·rw[Nat.add_comm k t,Nat.pow_add]
  exact(Nat.div_lt_iff_lt_mul hp).1 h3
def IsLen (X:Int) (n:Nat):Prop:=1≤n/\n≤32/\2^(n-1)≤X.toNat/\X.toNat<2^n
theorem isLen_of {X Y:Int} {k:Nat} (hk:k≤24) (hY:Y.toNat=X.toNat / 2^k) (h:Y.toNat<lenTab.size) (h0:0<Y.toNat):IsLen X (k+lenTab[Y.toNat].toNat):=by
 obtain⟨h1,h2,h3,h4⟩:=lenTab_at Y.toNat h h0
 have:=len_fin hY h1 h3 h4
 exact⟨by omega,by omega,this.1,this.2⟩
theorem len_sum (a:Int) (t:Nat) (h0:0≤a) (h1:a≤24) (ht:t≤8):wrap64 (a+wrap64 (t:Int))=((a.toNat+t:Nat):Int):=by
 rw[IntWalk.wrap64_in (t:Int) ⟨by omega,by omega⟩,IntWalk.wrap64_in _ ⟨by omega,by omega⟩];omega
def LenPost (X:Int) (w:World) (e:Ending) (w':World):Prop:=∃ n:Nat,e = .returned (.int .i64 n)/\IsLen X n/\w=w'
set_option maxRecDepth 100000 in
set_option maxHeartbeats 1000000 in
theorem len32_any (X : Int) (w : World) (h0 : 0 < X) (h1 : X < 4294967296) :
  Calls Tryz.prog 188 #[.int .u32 X] w (LenPost X w):=by
 by_cases c1:65536≤X
 ·have hd1:decide (65536≤X)=true:=by simp;omega
  by_cases c2:16777216≤X
  ·have hd2:decide (256≤X / 65536)=true:=by simp;omega
   have hl:(X / 65536 / 256).toNat<lenTab.size:=by rw[lenTab_size];omega
   have L:=Lib.hid (isLen_of (X:=X) (k:=24) (Y:=X / 65536 / 256) (by omega) (by simp only[show(2:Nat)^24=16777216 from rfl];omega) hl (by omega))
   have hT:=Lib.hid (lenTab_at _ hl (by omega))
   have hb1:0≤X / 65536 / 256:=by omega
   have hb2:X / 65536 / 256<256:=by omega
   go_enter Tryz.func188,Tryz.ntmps188
   go_wp2
   go_ret
   exact⟨_,ret_int (len_sum 24 _ (by omega) (by omega) hT.out.2.1),L.out,rfl⟩
  ·have hd2:decide (256≤X / 65536)=false:=by simp;omega
   have hl:(X / 65536).toNat<lenTab.size:=by rw[lenTab_size];omega
   have L:=Lib.hid (isLen_of (X:=X) (k:=16) (Y:=X / 65536) (by omega) (by simp only[show(2:Nat)^16=65536 from rfl];omega) hl (by omega))
   have hT:=Lib.hid (lenTab_at _ hl (by omega))
   have hb1:0≤X / 65536:=by omega
   have hb2:X / 65536<256:=by omega
   go_enter Tryz.func188,Tryz.ntmps188
   go_wp2
   go_ret
   exact⟨_,ret_int (len_sum 16 _ (by omega) (by omega) hT.out.2.1),L.out,rfl⟩
 ·have hd1:decide (65536≤X)=false:=by simp;omega
  by_cases c2:256≤X
  ·have hd2:decide (256≤X)=true:=by simp;omega
   have hl:(X / 256).toNat<lenTab.size:=by rw[lenTab_size];omega
   have L:=Lib.hid (isLen_of (X:=X) (k:=8) (Y:=X / 256) (by omega) (by simp only[show(2:Nat)^8=256 from rfl];omega) hl (by omega))
   have hT:=Lib.hid (lenTab_at _ hl (by omega))
   have hb1:0≤X / 256:=by omega
   have hb2:X / 256<256:=by omega
   go_enter Tryz.func188,Tryz.ntmps188
   go_wp2
   go_ret
   exact⟨_,ret_int (len_sum 8 _ (by omega) (by omega) hT.out.2.1),L.out,rfl⟩
  ·have hd2:decide (256≤X)=false:=by simp;omega
   have hl:X.toNat<lenTab.size:=by rw[lenTab_size];omega
   have L:=Lib.hid (isLen_of (X:=X) (k:=0) (Y:=X) (by omega) (by simp) hl (by omega))
   have hT:=Lib.hid (lenTab_at _ hl (by omega))
   have hb1:0≤X:=by omega
   have hb2:X<256:=by omega
   go_enter Tryz.func188,Tryz.ntmps188
   go_wp2
   go_ret
   exact⟨_,ret_int (by have:=len_sum 0 (lenTab[X.toNat]'hl).toNat (by omega) (by omega) hT.out.2.1;rw[Int.zero_add]at this;exact this),L.out,rfl⟩
def LzPost (X:Int) (w:World) (e:Ending) (w':World):Prop:=∃ s:Nat,e = .returned (.int .i64 s)/\s≤31/\Dg.B≤2*(X.toNat*2^s)/\X.toNat*2^s<Dg.B/\w=w'
theorem lz_of {x n:Nat} (h1:1≤n) (h2:n≤32) (h3:2^(n-1)≤x) (h4:x<2^n):Dg.B≤2*(x*2^(32-n))/\x*2^(32-n)<Dg.B:=by
 have hp:0<2^(32-n):=Nat.pow_pos (by omega)
 have e:Dg.B=2^n*2^(32-n):=by rw[← Nat.pow_add,show n+(32-n)=32 from by omega];rfl
 have e2:2^n=2*2^(n-1):=by rw[Nat.mul_comm,← Nat.pow_succ];congr 1;omega
 constructor
 ·rw[e,e2,Nat.mul_assoc]
  exact Nat.mul_le_mul_left 2 (Nat.mul_le_mul_right _ h3)
 ·rw[e];exact Nat.mul_lt_mul_of_pos_right h4 hp
theorem lz32_any (X : Int) (w : World) (h0 : 0 < X) (h1 : X < 4294967296) :
  Calls Tryz.prog 181 #[.int .u32 X] w (LzPost X w):=by
 go_enter Tryz.func181,Tryz.ntmps181
 go_wp2_with (go_at_call 188;refine(len32_any _ _ h0 h1).mono ?_;rintro e w' ⟨n,rfl,hL,rfl⟩;have HL:=Lib.hid hL;have hn1:=hL.1;have hn2:=hL.2.1;clear hL)
 go_ret
 have:=lz_of HL.out.1 HL.out.2.1 HL.out.2.2.1 HL.out.2.2.2
 exact⟨32-n,ret_int (by omega),by omega,this.1,this.2,rfl⟩
theorem isVal_of_own {w:World} {base n:Nat} {v:Value} {ds:List Nat} (h:w.ownsRow base 119 1 v n (u32s ds)) (ho:Dg.ok ds):∃ A c,v = .slice A n c/\Dig w A n ds/\n≤c:=by
 have hl:ds.length=n:=by have:=h.1;rw[u32s_length]at this;omega
 rcases h.2 with⟨rfl,rfl⟩ | ⟨g,cap,cur,rfl,_,hh,hnc,_,_,htk⟩
 ·obtain rfl:ds=[]:=List.length_eq_zero_iff.1 hl
  exact⟨none,0,rfl,Dig.nil w,by omega⟩
 ·refine⟨_,cap,rfl,⟨hl.symm,ho,fun _=>⟨g,0,rfl,?_,fun i hi=>?_⟩⟩,hnc⟩
  ·rcases Nat.lt_or_ge g w.heap.size with h1 | h1
   ·exact h1
   ·rw[Array.getElem?_eq_none h1]at hh;cases hh
  ·have e:cur.toList[i]? = (u32s ds)[i]? := by rw[← htk,List.getElem?_take,if_pos (by omega)]
   simp only[World.cell?,hh,Nat.zero_add,Option.isSome_none]
   rw[if_neg (by simp)]
   have e2:cur[i]? = cur.toList[i]? := by simp
   rw[e2,e,u32s_get ds i hi]
   simp[hi]
theorem u32s_one (ds:List Nat):∀ u∈u32s ds,u.oneCell'=true:=by
 intro u hu
 simp only[u32s,List.mem_map]at hu
 obtain⟨d,_,rfl⟩:=hu
 rfl
set_option maxHeartbeats 1000000 in
theorem clone_any (A : Option Addr) (n c : Nat) (ds : List Nat) (w : World) (hd : Dig w A n ds) (hn : n ≤ LIM) :
  Calls Tryz.prog 152 #[.slice A n c] w fun e w'=>∃ A' c',e = .returned (.slice A' n c')/\Dig w' A' n ds/\n≤c'/\Below w.heap.size w w':=by
 have H:=Lib.hid hd
 clear hd
 obtain⟨i0,hi,hz0,hz1,hz2⟩:=info_parts info158
 unfold LIM at hn
 have heq:=fun(W:World)=>Lib.run_eql_slice_nil (P:=Tryz.prog) W 34 119 A n c 0 0 Tryz.underlying34
 rcases A with _ | ad
 ·have h0:n=0:=by
   rcases Nat.eq_zero_or_pos n with h | h
   ·exact h
   ·obtain⟨b,o,hA,_⟩:=H.out.2.2 h;cases hA
  subst h0
  obtain rfl:ds=[]:=List.length_eq_zero_iff.1 H.out.len.symm
  go_enter Tryz.func152,Tryz.ntmps152
  go_wp2
  go_ret
  exact⟨none,0,rfl,Dig.nil _,by omega,Below.refl _ _⟩
 ·have hcells:∀ W,Below w.heap.size w W->∀ j u,(u32s ds)[j]? = some u->W.cell? (ad.add j)=some u:=by
   intro W hb j u hj
   have hjl:j<ds.length:=by
    rcases Nat.lt_or_ge j ds.length with h | h
    ·exact h
    ·rw[List.getElem?_eq_none (by rw[u32s_length];exact h)]at hj;cases hj
   obtain⟨b,o,hA,_,hc⟩:=(H.out.below hb).at_ (by have:=H.out.len;omega)
   injection hA with hA
   subst hA
   rw[u32s_get ds j hjl]at hj
   rw[← hj,← hc j (by have:=H.out.len;omega)]
   unfold Addr.add
   by_cases h0:j=0 <;> simp[h0]
  have HC:=Lib.hid hcells
  clear hcells
  go_enter Tryz.func152,Tryz.ntmps152
  go_wp2_with (at_builtin;refine wpList_append_own _ rfl _ _ 34 rfl w.heap.size 119 i0 _ 1 4 Tryz.underlying34 hi hz0 hz1 hz2 rfl (by decide) _ 0 [] rfl (World.ownsRow_lit w #[] 0 (Nat.le_refl _) (by decide) rfl) ad n c (u32s ds) rfl (by rw[u32s_length];have:=H.out.len;omega) (HC.out _ ((Below.refl w.heap.size w).alloc (Nat.le_refl _) _)) (u32s_one ds) (by unfold maxLen;omega) (by omega) (by simp) ?_;intro v' w1 hown hgr hnil)
  go_ret
  rw[Nat.zero_add,List.nil_append]at hown
  obtain⟨A',c',rfl,hd',hc'⟩:=isVal_of_own hown H.out.ok
  exact⟨_,_,rfl,hd',hc',((Below.refl w.heap.size w).alloc (Nat.le_refl _) _).grown hgr (by simp) (fun k hk=>by have h2:some w.heap.size=some k:=hk;injection h2 with h2;omega)⟩
end Go.Proofs.YtkmbnldginonbaaGreat
/- The function divide of package bigint: quotient and remainder of two numbers by their digits, which have no leading zeros; the second one is not 0. The lengths are at most 2^39. -/
namespace Go.Proofs.YtkmbnldginonbaaGreat
open Go.RowKit
theorem IsDig.tight {w:World} {v:Value} {x L M:Nat} (h:IsDig w v x L) (hx:x<Dg.B^M):IsDig w v x M:=by
 obtain⟨A,n,c,ds,h1,h2,h3,h4,h5,h6⟩:=h
 exact⟨A,n,c,ds,h1,h2,h3,by have:=Dg.length_le_of_val h5 (by rw[h6];exact hx);have:=h2.len;omega,h5,h6⟩
def DivPost (x y n m:Nat) (w:World) (e:Ending) (w':World):Prop:=∃ v1 v2,e = .returned (.tuple #[v1,v2])/\IsDig w' v1 (x / y) n/\IsDig w' v2 (x%y) m/\Below w.heap.size w w'
theorem divide_less (A A' : Option Addr) (n c n' c' : Nat) (a b : List Nat) (w : World) (ha : Dig w A n a) (hb : Dig w A' n' b) (ta : Dg.trimmed a) (tb : Dg.trimmed b) (hn : n ≤ LIM) (hn' : n' ≤ LIM) (hlt : Dg.val a < Dg.val b) :
  Calls Tryz.prog 173 #[.slice A n c,.slice A' n' c'] w (DivPost (Dg.val a) (Dg.val b) n n' w):=by
 have hm:n≤maxLen:=by unfold maxLen;unfold LIM at hn;omega
 have hm':n'≤maxLen:=by unfold maxLen;unfold LIM at hn';omega
 have HA:=Lib.hid ha
 have HB:=Lib.hid hb
 have TA:=Lib.hid ta
 have TB:=Lib.hid tb
 have HLT:=Lib.hid hlt
 have C:=fun W hW=>compare_any A A' n c n' c' a b W (HA.out.below (w':=W) hW) (HB.out.below hW) ta tb hm hm'
 rw[cmpN_lt hlt]at C
 have HC:=Lib.hid C
 have HN:=Lib.hid hn
 have hvb:=Dg.val_lt HB.out.ok
 rw[← HB.out.len]at hvb
 have HVB:=Lib.hid hvb
 clear ha hb ta tb hlt C hm hm' hn hn' hvb
 go_enter Tryz.func173,Tryz.ntmps173
 go_wp2_with (first
  |(go_at_call 170;refine(HC.out _ (Below.refl _ _)).mono ?_;rintro e w1 ⟨rfl,hb1⟩)
  |(go_at_call 152;refine(clone_any A n c a _ (HA.out.below hb1) HN.out).mono ?_;rintro e w2 ⟨A2,c2,rfl,hd2,hc2,hb2⟩;have HD2:=Lib.hid hd2;clear hd2))
 go_ret2
 refine⟨_,_,rfl,⟨none,0,0,[],rfl,Dig.nil _,by omega,by omega,by intro d h;simp at h,?_⟩,IsDig.tight ⟨A2,n,c2,a,rfl,HD2.out,hc2,Nat.le_refl _,TA.out,?_⟩ (Nat.lt_trans (Nat.mod_lt _ (by have:=HLT.out;omega)) HVB.out),bel_ext hb1 hb2⟩
 ·rw[Nat.div_eq_of_lt HLT.out];rfl
 ·rw[Nat.mod_eq_of_lt HLT.out]
theorem divide_word (A A' : Option Addr) (n c n' c' : Nat) (a b : List Nat) (w : World) (ha : Dig w A n a) (hb : Dig w A' n' b) (ta : Dg.trimmed a) (tb : Dg.trimmed b) (h2 : n ≤ 2) (hn' : n' ≤ LIM) (hlt : Dg.val b ≤ Dg.val a) (h0 : 0 < Dg.val b) :
  Calls Tryz.prog 173 #[.slice A n c,.slice A' n' c'] w (DivPost (Dg.val a) (Dg.val b) n n' w):=by
 have hm:n≤maxLen:=by unfold maxLen;omega
 have hm':n'≤maxLen:=by unfold maxLen;unfold LIM at hn';omega
 have hva:=Dg.val_lt ha.ok
 rw[← ha.len]at hva
 have hvb:=Dg.val_lt hb.ok
 rw[← hb.len]at hvb
 have hn2:n'≤2:=by
  have:Dg.val b<Dg.B^n:=by omega
  have:=Dg.length_le_of_val tb this
  rw[hb.len];omega
 have hva2:Dg.val a<Dg.B*Dg.B:=by
  have:Dg.B^n≤Dg.B^2:=Nat.pow_le_pow_right Dg.B_pos h2
  rw[Nat.pow_two]at this;omega
 have HA:=Lib.hid ha
 have HB:=Lib.hid hb
 obtain⟨K,hK⟩:∃ K:Int,K=cmpN (Dg.val a) (Dg.val b):=⟨_,rfl⟩
 have hK0:0≤K:=by
  rw[hK]
  rcases Nat.lt_or_ge (Dg.val b) (Dg.val a)with h | h
  ·rw[cmpN_gt h];omega
  ·have:Dg.val a=Dg.val b:=by omega
   rw[this,cmpN_self];omega
 have hdK:decide (K<0)=false:=by simp;omega
 have HC:=Lib.hid (fun W hW=>compare_any A A' n c n' c' a b W (HA.out.below (w':=W) hW) (HB.out.below hW) ta tb hm hm')
 rw[← hK]at HC
 have Wa:=fun W hW=>word_any A n c a W (HA.out.below (w':=W) hW) h2
 have Wb:=fun W hW=>word_any A' n' c' b W (HB.out.below (w':=W) hW) hn2
 have hxq:Dg.val a / Dg.val b≤Dg.val a:=Nat.div_le_self _ _
 have hxr:=Nat.mod_lt (Dg.val a) h0
 have W1:=fun W=>wide_any (Dg.val a / Dg.val b) W (by omega)
 have W2:=fun W=>wide_any (Dg.val a%Dg.val b) W (by omega)
 have HVA:=Lib.hid hva
 have HVB:=Lib.hid hvb
 have hQa:Dg.val a / Dg.val b<Dg.B^n:=by omega
 have hQr:Dg.val a%Dg.val b<Dg.B^n':=by omega
 have HQa:=Lib.hid hQa
 have HQr:=Lib.hid hQr
 have hB64:Dg.B*Dg.B=18446744073709551616:=rfl
 have hq1:IntKind.u64.wrap (((Dg.val a:Nat):Int).tdiv (Dg.val b:Nat))=((Dg.val a / Dg.val b:Nat):Int):=by
  rw[Int.tdiv_eq_ediv_of_nonneg (by omega),← Int.natCast_ediv]
  generalize Dg.val a / Dg.val b=q at *
  exact IntWalk.u64_in _ ⟨by omega,by omega⟩
 have hr1:IntKind.u64.wrap (((Dg.val a:Nat):Int).tmod (Dg.val b:Nat))=((Dg.val a%Dg.val b:Nat):Int):=by
  rw[Int.tmod_eq_emod_of_nonneg (by omega),← Int.natCast_emod]
  generalize Dg.val a%Dg.val b=q at *
  exact IntWalk.u64_in _ ⟨by omega,by omega⟩
 have HW1:=Lib.hid W1
 have HW2:=Lib.hid W2
 have HWa:=Lib.hid Wa
 have HWb:=Lib.hid Wb
 obtain⟨x,hx⟩:∃ x,x=Dg.val a:=⟨_,rfl⟩
 obtain⟨y,hy⟩:∃ x,x=Dg.val b:=⟨_,rfl⟩
 rw[← hx,← hy]at hq1 hr1 HW1 HW2 HQa HQr ⊢
 rw[← hx]at HWa
 rw[← hy]at HWb h0
 obtain⟨X,hX⟩:∃ X:Int,X=x:=⟨_,rfl⟩
 obtain⟨Y,hY⟩:∃ X:Int,X=y:=⟨_,rfl⟩
 have hX0:0≤X:=by omega
 have hY0:1≤Y:=by omega
 have hdn:decide ((n:Int)≤2)=true:=by simp;omega
 have hYb:(Y == 0)=false:=by simp;omega
 have hYn:¬ Y=0:=by omega
 rw[← hX,← hY]at hq1 hr1
 rw[← hX]at HWa
 rw[← hY]at HWb
 have hq2:X / Y=((x / y:Nat):Int):=by rw[hX,hY,Int.natCast_ediv]
 have hr2:X%Y=((x%y:Nat):Int):=by rw[hX,hY,Int.natCast_emod]
 obtain⟨q,hqq⟩:∃ q,q=x / y:=⟨_,rfl⟩
 obtain⟨r,hrr⟩:∃ q,q=x%y:=⟨_,rfl⟩
 rw[← hqq]at hq1 hq2 HW1 HQa
 rw[← hrr]at hr1 hr2 HW2 HQr
 have hr3:X.tmod Y=(r:Int):=by rw[Int.tmod_eq_emod_of_nonneg hX0];exact hr2
 have HQ:=Lib.hid hqq
 have HR:=Lib.hid hrr
 clear hqq hrr
 clear ha hb ta tb hlt hm hm' hn' hva hvb hva2 hK W1 W2 Wa Wb hxq hxr hQa hQr hB64 hx hy hX hY h0 HVA HVB h2 hn2
 go_enter Tryz.func173,Tryz.ntmps173
 go_wp2_with fail
 refine(HC.out _ (Below.refl _ _)).mono ?_
 rintro e w1 ⟨rfl,hb1⟩
 go_wp2_with fail
 refine(HWa.out _ hb1).mono ?_
 rintro e w2 ⟨rfl,hb2⟩
 have hb12:=bel_ext hb1 hb2
 clear hb1 hb2
 go_wp2_with fail
 refine(HWb.out _ hb12).mono ?_
 rintro e w3 ⟨rfl,hb3⟩
 have hb13:=bel_ext hb12 hb3
 clear hb12 hb3
 go_wp2_with fail
 go_region_held3 (fun _=>True) (trivial) (first | (go_at_call_of 135 (Value.int IntKind.u64 (q:Int));refine(HW1.out _).mono ?_;rintro e w4 ⟨v1,rfl,hv1,hb4⟩;have HV1:=Lib.hid hv1;clear hv1) | (go_at_call_of 135 (Value.int IntKind.u64 (r:Int));refine(HW2.out _).mono ?_;rintro e w5 ⟨v2,rfl,hv2,hb5⟩;have HV2:=Lib.hid hv2;clear hv2))
 go_wp2
 go_ret2
 have hbb:=bel_ext (bel_ext hb13.drew hb4) hb5
 exact⟨_,_,rfl,by rw[← HQ.out];exact(HV1.out.below hb5).tight HQa.out,by rw[← HR.out];exact HV2.out.tight HQr.out,hbb⟩
theorem divide_short (A A' : Option Addr) (n c c' : Nat) (a b : List Nat) (w : World) (ha : Dig w A n a) (hb : Dig w A' 1 b) (ta : Dg.trimmed a) (tb : Dg.trimmed b) (h2 : 2 < n) (hn : n ≤ LIM) (hlt : Dg.val b ≤ Dg.val a) (h0 : 0 < Dg.val b) :
  Calls Tryz.prog 173 #[.slice A n c,.slice A' 1 c'] w (DivPost (Dg.val a) (Dg.val b) n 1 w):=by
 have hm:n≤maxLen:=by unfold maxLen;unfold LIM at hn;omega
 have HA:=Lib.hid ha
 have HB:=Lib.hid hb
 obtain⟨d,rfl⟩:=List.length_eq_one_iff.1 hb.len.symm
 have hdv:Dg.val [d]=d:=by simp[Dg.val]
 rw[hdv]at hlt h0 ⊢
 have hdB:=(Dg.ok_cons.1 hb.ok).1
 obtain⟨K,hK⟩:∃ K:Int,K=cmpN (Dg.val a) (Dg.val [d]):=⟨_,rfl⟩
 have hK0:0≤K:=by
  rw[hK,hdv]
  rcases Nat.lt_or_ge d (Dg.val a)with h | h
  ·rw[cmpN_gt h];omega
  ·have:Dg.val a=d:=by omega
   rw[this,cmpN_self];omega
 have hdK:decide (K<0)=false:=by simp;omega
 have HC:=Lib.hid (fun W hW=>compare_any A A' n c 1 c' a [d] W (HA.out.below (w':=W) hW) (HB.out.below hW) ta tb hm (by unfold maxLen;omega))
 rw[← hK]at HC
 obtain⟨b1,o1,rfl,hl1,hcell1⟩:=hb.at_ (by omega)
 have hc0:=hcell1 0 (by omega)
 simp only[List.getElem?_cons_zero,Option.getD_some,Nat.add_zero]at hc0
 obtain⟨D,hD⟩:∃ D:Int,D=d:=⟨_,rfl⟩
 rw[← hD]at hc0
 have hD0:0<D:=by omega
 have hD1:D<4294967296:=by rw[Dg.B_eq]at hdB;omega
 have HS:=Lib.hid (fun W hW=>short_any A n c D a W (HA.out.below (w':=W) hW) hn hD0 hD1)
 have hdn:decide ((n:Int)≤2)=false:=by simp;omega
 have hva:=Dg.val_lt ha.ok
 rw[← ha.len]at hva
 have HVA:=Lib.hid hva
 have HDe:=Lib.hid hD
 have hdB':d<Dg.B^1:=by rw[Nat.pow_one];exact hdB
 have HDB:=Lib.hid hdB'
 have HL:=Lib.hid hm
 have H0:=Lib.hid h0
 clear hm ha hb ta tb hlt hdv hdB hdB' hK hcell1 hD hva h0 hn
 go_enter Tryz.func173,Tryz.ntmps173
 go_wp2_with fail
 refine(HC.out _ (Below.refl _ _)).mono ?_
 rintro e w1 ⟨rfl,hb1⟩
 have hc1:=(hb1.cell (p:=⟨b1,o1,none⟩) hl1).trans hc0
 clear hc0
 go_wp2_with fail
 refine(HS.out _ hb1).mono ?_
 rintro e w2 ⟨g,q,R,rfl,hq,hR0,hR1,hval,hb2⟩
 have HQ:=Lib.hid hq
 have HVal:=Lib.hid hval
 have hb12:=bel_ext hb1 hb2
 clear hq hval hc1 hb1 hb2
 go_wp2_with fail
 refine(trimmed_any _ _ _ q _ HQ.out HL.out (Nat.le_refl _)).mono ?_
 rintro e w3 ⟨rfl,rfl⟩
 obtain⟨r,rfl⟩:=Int.eq_ofNat_of_zero_le hR0
 have hr64:r<Dg.B*Dg.B:=by have h1:=HDB.out;rw[Nat.pow_one]at h1;have h2:=HDe.out;have:Dg.B*1≤Dg.B*Dg.B:=Nat.mul_le_mul_left _ Dg.B_pos;omega
 have HR:=Lib.hid hr64
 clear hr64
 go_wp2_with fail
 refine(wide_any _ _ HR.out).mono ?_
 rintro e w4 ⟨v,rfl,hv,hb3⟩
 have HV:=Lib.hid hv
 clear hv
 have hb14:=bel_ext hb12 hb3
 go_wp2
 go_ret2
 have hval:=HVal.out
 have hd:=HDe.out
 have hr:=Dg.guess_right (U:=Dg.val a) (V:=d) (W:=r) (g:=Dg.val q) (M:=0) (by rw[hval,hd];simp;omega) (by rw[hval,hd,Nat.add_mul,Nat.one_mul];simp;omega)
 refine⟨_,_,rfl,?_,?_,hb14⟩
 ·refine IsDig.tight ⟨_,_,_,Dg.trim q,rfl,HQ.out.trim.below hb3,?_,Nat.le_refl _,Dg.trim_trimmed q,?_⟩ (Nat.lt_of_le_of_lt (Nat.div_le_self _ _) HVA.out)
  ·have:=trim_length q;have:=HQ.out.len;omega
  ·rw[Dg.val_trim];exact hr.1.symm
 ·rw[hr.2]
  exact HV.out.tight (by have:=HDB.out;omega)
end Go.Proofs.YtkmbnldginonbaaGreat
/- The function divide of package bigint at divisors of two digits and more. The lengths are at most 2^39. -/
namespace Go.Proofs.YtkmbnldginonbaaGreat
open Go.RowKit
theorem OwnD.rebase {w:World} {base base' g n:Nat} {ds:List Nat} (h:OwnD w base g n ds) (hb:base'≤base):OwnD w base' g n ds:=by
 refine⟨h.1,h.2.1,h.2.2.1,?_⟩
 rcases h.2.2.2 with h1 | ⟨g',cap,cur,h1,h2,h3⟩
 ·exact .inl h1
 ·exact .inr ⟨g',cap,cur,h1,by omega,h3⟩
theorem OwnD.other {w w':World} {base g n k:Nat} {ds:List Nat} (h:OwnD w base g n ds) (hg:w.grownBy w' (some k)) (hne:g≠k):OwnD w' base g n ds :=
 ⟨h.1,h.2.1,h.2.2.kept hg (.inr (by simpa [Value.ownBlock] using hne))⟩
theorem OwnD.grown0 {w w':World} {base g n:Nat} {ds:List Nat} (h:OwnD w base g n ds) (hg:w.grownBy w' none):OwnD w' base g n ds :=
 ⟨h.1,h.2.1,h.2.2.kept hg (.inr (by simp[Value.ownBlock]))⟩
set_option maxRecDepth 100000 in
set_option maxHeartbeats 2000000 in
theorem divide_long (A A' : Option Addr) (p m c c' : Nat) (a b : List Nat) (w : World) (ha : Dig w A (p + m + 2) a) (hb : Dig w A' (m + 2) b) (ta : Dg.trimmed a) (tb : Dg.trimmed b) (h2 : 2 < p + m + 2) (hn : p + m + 3 ≤ LIM) (hlt : Dg.val b ≤ Dg.val a) (h0 : 0 < Dg.val b) :
  Calls Tryz.prog 173 #[.slice A (p+m+2) c,.slice A' (m+2) c'] w (DivPost (Dg.val a) (Dg.val b) (p+m+2) (m+2) w):=by
 have hm:p+m+2≤maxLen:=by unfold maxLen;unfold LIM at hn;omega
 have hm':m+3≤maxLen:=by unfold maxLen;unfold LIM at hn;omega
 have HA:=Lib.hid ha
 have HB:=Lib.hid hb
 obtain⟨i0,hi,hz0,hz1,hz2⟩:=info_parts info158
 obtain⟨K,hK⟩:∃ K:Int,K=cmpN (Dg.val a) (Dg.val b):=⟨_,rfl⟩
 have hK0:0≤K:=by
  rw[hK]
  rcases Nat.lt_or_ge (Dg.val b) (Dg.val a)with h | h
  ·rw[cmpN_gt h];omega
  ·have:Dg.val a=Dg.val b:=by omega
   rw[this,cmpN_self];omega
 have hdK:decide (K<0)=false:=by simp;omega
 have HC:=Lib.hid (fun W hW=>compare_any A A' (p+m+2) c (m+2) c' a b W (HA.out.below (w':=W) hW) (HB.out.below hW) ta tb hm (by unfold maxLen at *;omega))
 rw[← hK]at HC
 obtain⟨b1,o1,rfl,hl1,hcell1⟩:=hb.at_ (by omega)
 have hc0:=hcell1 (m+1) (by omega)
 have hdB:=Dg.ok_getD hb.ok (m+1)
 have hml:m+1<b.length:=by have:=hb.len;omega
 have hd0:0<b[m+1]?.getD 0:=by
  rcases Nat.eq_zero_or_pos (b[m+1]?.getD 0)with h | h
  ·exfalso
   have hl:b.getLast? = some b[m+1]:=by
    rw[List.getLast?_eq_getElem?,← hb.len]
    exact List.getElem?_eq_getElem hml
   rw[Dg.getD_eq hml]at h
   exact tb _ hl h
  ·exact h
 obtain⟨D,hD⟩:∃ D:Int,D=(b[m+1]?.getD 0:Nat):=⟨_,rfl⟩
 rw[← hD]at hc0
 have hD0:0<D:=by omega
 have hD1:D<4294967296:=by rw[Dg.B_eq]at hdB;omega
 have hpm:((p:Int)+m+2)≤2^40:=by unfold LIM at hn;omega
 have hdn:decide ((p:Int)+(m:Int)+2≤2)=false:=by simp;omega
 have hdb:(((m:Int)+2) == 1)=false:=by simp;omega
 have HDe:=Lib.hid hD
 have HL:=Lib.hid hm'
 have H0:=Lib.hid h0
 have HN:=Lib.hid hn
 have HTa:=Lib.hid ta
 clear hml hm hm' ha hb ta tb hlt hdB hK hcell1 hD h0 hn hd0
 go_enter Tryz.func173,Tryz.ntmps173
 go_wp2_with fail
 refine(HC.out _ (Below.refl _ _)).mono ?_
 rintro e w1 ⟨rfl,hb1⟩
 have hc1:=(hb1.cell (p:=⟨b1,o1+(m+1),none⟩) hl1).trans hc0
 clear hc0
 go_wp2_with fail
 refine(lz32_any _ _ hD0 hD1).mono ?_
 rintro e w2 ⟨s,rfl,hs1,hs2,hs3,rfl⟩
 have HS2:=Lib.hid hs2
 have HS3:=Lib.hid hs3
 clear hs2 hs3 hc1
 go_wp2_with fail
 refine(shifted_any A (p+m+2) c s a _ (HA.out.below hb1) (by have:=HN.out;omega) hs1).mono ?_
 rintro e w3 ⟨g1,us,rfl,hu,huv,hb2⟩
 have hb13:=bel_ext hb1 hb2
 have HU:=Lib.hid hu
 have HUV:=Lib.hid huv
 clear hu huv
 go_wp2_with fail
 refine(shifted_any _ (m+2) c' s b _ (HB.out.below hb13) (by have:=HN.out;omega) hs1).mono ?_
 rintro e w4 ⟨g2,vs,rfl,hv,hvv,hb3⟩
 have hDt:D.toNat=b[m+1]?.getD 0:=by rw[HDe.out];exact Int.toNat_natCast _
 have HM:=Lib.hid (Dg.moved HB.out.len.symm HB.out.ok (by rw[← hDt];exact HS2.out) (by rw[← hDt];exact HS3.out) hv.2.1 hvv)
 have HV:=Lib.hid hv
 have HVV:=Lib.hid hvv
 clear hv hvv hDt
 go_wp2_with fail
 refine(trimmed_any _ _ _ vs _ HV.out.dig HL.out (Nat.le_refl _)).mono ?_
 rintro e w5 ⟨rfl,rfl⟩
 rw[HM.out.1]
 have hb14:=bel_ext hb13 hb3
 go_wp2_with (at_make;refine wpList_make_full _ rfl _ _ 34 rfl w.heap.size 119 i0 _ 1 Tryz.underlying34 hi hz0 hz1 .i64 .i64 _ _ (p+1) rfl rfl (by omega) (by omega) (by rw[hz2];have:=HN.out;unfold LIM at this;omega) (by have:=HN.out;unfold LIM at this;unfold maxLen;omega) hb14.size ?_;intro w6 hown hgr)
 have hv4:=HV.out.base
 have hu3:=HU.out.base
 have hs14:=hb1.size
 have hU6:=((HU.out.below hb3).grown0 hgr).rebase (base':=w.heap.size) hs14
 have hQ6:=(OwnD.made hown)
 have hV6:=(HV.out.dig.trim).below (w':=w6) ⟨hgr.os,hgr.tape,hgr.output,hgr.size,fun k hk=>hgr.block k hk (by simp)⟩
 rw[HM.out.1]at hV6
 have hb16:Below w.heap.size w w6:=hb14.grown hgr hb14.size (by simp)
 have hgq:g1≠w4.heap.size:=by have:=hb3.size;omega
 have hgv:g2≠g1:=by omega
 have hgvq:g2≠w4.heap.size:=by omega
 have hwq:w.heap.size≤w4.heap.size:=hb14.size
 have hw1:w.heap.size≤g1:=by omega
 have hmade:Dg.Made (Dg.val a*2^s) (Dg.val vs) (p+1) (List.replicate (p+1) 0) us:=by
  have:=Dg.made_start (a:=a) (us:=us) (qs:=List.replicate (p+1) 0) (n:=p+m+2) (m:=m) (s:=s) (V:=Dg.val vs) HA.out.len.symm HA.out.ok (by omega) (by have:=HU.out.1;omega) HUV.out (by have:=HM.out.2.2.2;exact this) (by simp;omega)
  rwa [show p+m+2+1-(m+2)=p+1 from by omega]at this
 have HU6:=Lib.hid hU6
 have HQ6:=Lib.hid hQ6
 have HV6:=Lib.hid hV6
 have HMade:=Lib.hid hmade
 clear hv4 hu3 hs14 hU6 hQ6 hV6 hmade hb1 hb2 hb3 hb13 hown hgr HC hD0 hD1 HS2 HS3 HDe
 go_loopw [14] (fun z wr=>∃(k:Nat) (us' qs:List Nat),k≤p+1/\z = .int .i64 ((k:Int)-1)/\OwnD wr w.heap.size g1 (p+m+2+1) us'/\OwnD wr w.heap.size w4.heap.size (p+1) qs/\Dig wr (some ⟨g2,0,none⟩) (m+2) (Dg.trim vs)/\Hid (Dg.Made (Dg.val a*2^s) (Dg.val vs) k qs us')/\Below w.heap.size w wr) (fun z _=>(intOf z+1).toNat)
 case atStart=>exact⟨p+1,us,_,by omega,by go_num,HU6.out,HQ6.out,HV6.out,HMade.out,hb16⟩
 case round =>
  obtain⟨k,us',qs,hk,rfl,hO,hQ,hVd,hMd,hbw⟩:=hrel
  by_cases hkp:0<k
  ·obtain⟨j,rfl⟩:∃ j,k=j+1:=⟨k-1,by omega⟩
   have hpre:=Dg.made_pre (m:=m) (k:=j) (by have:=hO.1;omega) hO.2.1 hMd.out HM.out.2.2.1
   have HO:=Lib.hid hO
   have HQ:=Lib.hid hQ
   have HVd:=Lib.hid hVd
   have HPre:=Lib.hid hpre
   clear hO hQ hVd hpre
   have hj0:(0:Int)≤(j:Int):=by omega
   have hjp:(j:Int)≤(p:Int):=by omega
   go_wp2_with fail
   rw[show j+(m+2)+1-j=m+3 from by omega]
   refine(digit_any w.heap.size g1 j (p+m+2+1) _ (some ⟨g2,0,none⟩) m (m+2+1) us' (Dg.trim vs) wr HO.out HVd.out (by omega) HN.out (by intro b' o' hbo;injection hbo with hbo;injection hbo with hb1 hb2;omega) HM.out.2.1 (by rw[Dg.val_trim];exact HPre.out.1)).mono ?_
   rintro e w7 ⟨us2,qd,rfl,hu2,ht2,hd2,hq2,hr2,hg2⟩
   rw[Dg.val_trim]at hq2 hr2
   have hV0:0<Dg.val vs:=by
    rw[HVV.out];exact Nat.mul_pos H0.out (Nat.pow_pos (by omega))
   have hstep:=Dg.made_step (m:=m) (k:=j) (q:=qd) (qs:=qs) (by have:=HO.out.1;omega) (by have:=HQ.out.1;omega) (by have:=hu2.1;have:=HO.out.1;omega) hMd.out hV0 ht2 (by rw[show j+(m+3)=j+m+3 from by omega];exact hd2) HPre.out.2 hq2 hr2
   have hqB:qd<Dg.B:=by
    rw[hq2]
    exact Nat.div_lt_of_lt_mul HPre.out.1
   have HQ7:=HQ.out.other hg2 (Ne.symm hgq)
   have hoc:=HQ7.cell (i:=j) (by omega)
   have hof:=HQ7.frozen j
   have HQ8:=Lib.hid (HQ7.set_ j qd hqB)
   have hgst:=(HQ7.2.2.stored j (.int .u32 qd)).2
   have HU8:=Lib.hid (hu2.other (w':=w7.setCell ⟨w4.heap.size,j,none⟩ (.int .u32 qd)) hgst hgq)
   have HV8:=Lib.hid ((HVd.out.grown hg2 (by intro b' o' hbo;injection hbo with hbo;injection hbo with hb1 hb2;omega)).grown (w':=w7.setCell ⟨w4.heap.size,j,none⟩ (.int .u32 qd)) hgst (by intro b' o' hbo;injection hbo with hbo;injection hbo with hb1 hb2;omega))
   have hb7:Below w.heap.size w w7:=hbw.grown hg2 hbw.size (fun k hk=>by injection hk with hk;omega)
   have hb8:Below w.heap.size w (w7.setCell ⟨w4.heap.size,j,none⟩ (.int .u32 qd)):=hb7.setCell hwq _
   have HStep:=Lib.hid hstep
   clear hu2 ht2 hd2 hq2 hr2 hg2 hstep HQ7 hgst hqB hV0
   go_wp2_with fail
   go_roundw
   case rel=>exact⟨j,us2,_,by omega,by go_num,HU8.out,HQ8.out,HV8.out,HStep.out,hb8⟩
   case measure=>simp[intOf] <;> omega
  ·obtain rfl:k=0:=by omega
   have hend:=Dg.made_end HVV.out hMd.out
   have HEnd:=Lib.hid hend
   have HO:=Lib.hid hO
   have HQ:=Lib.hid hQ
   have hus:Dg.val (us'.take (m+2))=Dg.val us':=by
    apply Dg.val_take_of_lt
    have:=hMd.out.2
    rw[List.drop_zero]at this
    exact Nat.lt_trans this HM.out.2.2.1
   have HUs:=Lib.hid hus
   clear hO hQ hVd hus hend
   have hP1:p+1≤maxLen:=by have:=HN.out;unfold LIM at this;unfold maxLen;omega
   have hM2:m+2≤maxLen:=by have:=HL.out;omega
   have HP1:=Lib.hid hP1
   have HM2:=Lib.hid hM2
   have hM3:m+2≤LIM:=by have:=HN.out;omega
   have HM3:=Lib.hid hM3
   have HT:=Lib.hid (HO.out.dig.take (k:=m+2) (by omega))
   have hi0:(0:Int)≤(m:Int)+2:=by omega
   have hi1:(m:Int)+2≤(p:Int)+(m:Int)+2+1:=by omega
   clear hP1 hM2 hM3
   go_wp2_with fail
   go_region_held3 (fun _=>True) (trivial) (first | (go_at_call 140;refine(trimmed_any _ _ _ o3 _ HD3.out HM2.out (Nat.le_refl _)).mono ?_;rintro e w8 ⟨rfl,rfl⟩) | (go_at_call 140;refine(trimmed_any _ _ _ qs _ HQ.out.dig.drew HP1.out (Nat.le_refl _)).mono ?_;rintro e w8 ⟨rfl,rfl⟩) | (go_at_call 184;refine(unshifted_any _ _ _ s (us'.take (m+2)) _ HT.out.drew HM3.out hs1).mono ?_;rintro e w9 ⟨g3,o3,rfl,hd3,hv3,hb3⟩;have HD3:=Lib.hid hd3;have HV3:=Lib.hid hv3;clear hd3 hv3))
   go_wp2
   go_ret2
   have hbb:=bel_ext hbw.drew hb3
   refine⟨_,_,rfl,?_,?_,hbb⟩
   ·refine IsDig.tight (L:=p+1) ⟨_,_,_,Dg.trim qs,rfl,(HQ.out.dig.drew.trim).below hb3,?_,?_,Dg.trim_trimmed qs,by rw[Dg.val_trim];exact HEnd.out.1⟩ ?_
    ·have:=trim_length qs;have:=HQ.out.1;omega
    ·have:=trim_length qs;have:=HQ.out.1;omega
    ·refine Nat.lt_of_le_of_lt (Nat.div_le_self _ _) ?_
     have:=Dg.val_lt HA.out.ok
     rwa [← HA.out.len]at this
   ·refine⟨_,_,_,Dg.trim o3,rfl,HD3.out.trim,?_,?_,Dg.trim_trimmed o3,?_⟩
    ·have:=trim_length o3;have:=HD3.out.len;omega
    ·have:=trim_length o3;have:=HD3.out.len;omega
    ·rw[Dg.val_trim,HV3.out,HUs.out];exact HEnd.out.2
theorem divide_any (A A' : Option Addr) (n c n' c' : Nat) (a b : List Nat) (w : World) (ha : Dig w A n a) (hb : Dig w A' n' b) (ta : Dg.trimmed a) (tb : Dg.trimmed b) (hn : n + 1 ≤ LIM) (hn' : n' ≤ LIM) (h0 : 0 < Dg.val b) :
  Calls Tryz.prog 173 #[.slice A n c,.slice A' n' c'] w (DivPost (Dg.val a) (Dg.val b) n n' w):=by
 rcases Nat.lt_or_ge (Dg.val a) (Dg.val b)with hlt | hlt
 ·exact divide_less A A' n c n' c' a b w ha hb ta tb (by omega) hn' hlt
 ·rcases Nat.lt_or_ge 2 n with h2 | h2
  ·match n',hb with
   | 0,hb =>
    obtain rfl:b=[]:=List.length_eq_zero_iff.1 hb.len.symm
    exact absurd h0 (by simp[Dg.val])
   | 1,hb=>exact divide_short A A' n c c' a b w ha hb ta tb h2 (by omega) hlt h0
   | m+2,hb =>
    have hle:m+2≤n:=by
     have h1:=Dg.val_lt ha.ok
     rw[← ha.len]at h1
     have:=Dg.length_le_of_val tb (Nat.lt_of_le_of_lt hlt h1)
     rw[hb.len];exact this
    obtain⟨p,rfl⟩:∃ p,n=p+m+2:=⟨n-m-2,by omega⟩
    exact divide_long A A' p m c c' a b w ha hb ta tb h2 (by omega) hlt h0
  ·exact divide_word A A' n c n' c' a b w ha hb ta tb h2 hn' hlt h0
end Go.Proofs.YtkmbnldginonbaaGreat
