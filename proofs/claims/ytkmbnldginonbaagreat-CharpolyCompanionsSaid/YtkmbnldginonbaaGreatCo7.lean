/- The functions Len32 and LeadingZeros32 of package math/bits, and slices.Clone at digits. -/
import Derived.Test.YtkmbnldginonbaaGreatCo6
import Derived.Test.YtkmbnldginonbaaGreatCo4
import Derived.Deep.RegionHeld3
import Derived.Deep.LoopGhost
set_option maxHeartbeats 2000000
namespace Go.Proofs.YtkmbnldginonbaaGreat
open Go.RowKit
set_option maxRecDepth 100000
def lenTab:ByteArray:={ data:=#[0,1,2,2,3,3,3,3,4,4,4,4,4,4,4,4,5,5,5,5,5,5,5,5,5,5,5,5,5,5,5,5,6,6,6,6,6,6,6,6,6,6,6,6,6,6,6,6,6,6,6,6,6,6,6,6,6,6,6,6,6,6,6,6,7,7,7,7,7,7,7,7,7,7,7,7,7,7,7,7,7,7,7,7,7,7,7,7,7,7,7,7,7,7,7,7,7,7,7,7,7,7,7,7,7,7,7,7,7,7,7,7,7,7,7,7,7,7,7,7,7,7,7,7,7,7,7,7,8,8,8,8,8,8,8,8,8,8,8,8,8,8,8,8,8,8,8,8,8,8,8,8,8,8,8,8,8,8,8,8,8,8,8,8,8,8,8,8,8,8,8,8,8,8,8,8,8,8,8,8,8,8,8,8,8,8,8,8,8,8,8,8,8,8,8,8,8,8,8,8,8,8,8,8,8,8,8,8,8,8,8,8,8,8,8,8,8,8,8,8,8,8,8,8,8,8,8,8,8,8,8,8,8,8,8,8,8,8,8,8,8,8,8,8,8,8,8,8,8,8,8,8,8,8,8,8] }
theorem lenTab_size:lenTab.size=256:=by decide +kernel
theorem lenTab_all:∀ i:Fin 256,0<i.1->1≤(lenTab.data.toList[i.1]?.getD 0).toNat/\(lenTab.data.toList[i.1]?.getD 0).toNat≤8/\2^((lenTab.data.toList[i.1]?.getD 0).toNat-1)≤i.1/\i.1<2^(lenTab.data.toList[i.1]?.getD 0).toNat:=by decide +kernel
theorem lenTab_at (i:Nat) (h:i<lenTab.size) (h0:0<i):1≤lenTab[i].toNat/\lenTab[i].toNat≤8/\2^(lenTab[i].toNat-1)≤i/\i<2^lenTab[i].toNat:=by
 have h2:i<256:=h
 have:=lenTab_all ⟨i,h2⟩ h0
 have e:lenTab.data.toList[i]?.getD 0=lenTab[i]:=by
  rw[List.getElem?_eq_getElem (show i<lenTab.data.toList.length from h2)];rfl
 have h3:1≤(lenTab.data.toList[i]?.getD 0).toNat/\(lenTab.data.toList[i]?.getD 0).toNat≤8/\2^((lenTab.data.toList[i]?.getD 0).toNat-1)≤i/\i<2^(lenTab.data.toList[i]?.getD 0).toNat:=this
 rwa [e]at h3
theorem len_fin {x y k t:Nat} (hy:y=x / 2^k) (h1:1≤t) (h2:2^(t-1)≤y) (h3:y<2^t):2^(k+t-1)≤x/\x<2^(k+t):=by
 subst hy
 have hp:0<2^k:=Nat.pow_pos (by omega)
 constructor
 ·rw[show k+t-1=(t-1)+k from by omega,Nat.pow_add]
  exact(Nat.le_div_iff_mul_le hp).1 h2
 ·rw[Nat.add_comm k t,Nat.pow_add]
  exact(Nat.div_lt_iff_lt_mul hp).1 h3
def IsLen (X:Int) (n:Nat):Prop:=1≤n/\n≤32/\2^(n-1)≤X.toNat/\X.toNat<2^n
theorem isLen_of {X Y:Int} {k:Nat} (hk:k≤24) (hY:Y.toNat=X.toNat / 2^k) (h:Y.toNat<lenTab.size) (h0:0<Y.toNat):IsLen X (k+lenTab[Y.toNat].toNat):=by
 obtain⟨h1,h2,h3,h4⟩:=lenTab_at Y.toNat h h0
 have:=len_fin hY h1 h3 h4
 exact⟨by omega,by omega,this.1,this.2⟩
theorem len_sum (a:Int) (t:Nat) (h0:0≤a) (h1:a≤24) (ht:t≤8):wrap64 (a+wrap64 (t:Int))=((a.toNat+t:Nat):Int):=by
 rw[IntWalk.wrap64_in (t:Int) ⟨by omega,by omega⟩,IntWalk.wrap64_in _ ⟨by omega,by omega⟩];omega
def LenPost (X:Int) (w:World) (e:Ending) (w':World):Prop:=∃ n:Nat,e = .returned (.int .i64 n)/\IsLen X n/\w=w'
set_option maxRecDepth 100000 in
theorem len32_any (X : Int) (w : World) (h0 : 0 < X) (h1 : X < 4294967296) :
  Calls Tryz.prog 188 #[.int .u32 X] w (LenPost X w):=by
 by_cases c1:65536≤X
 ·have hd1:decide (65536≤X)=true:=by simp;omega
  by_cases c2:16777216≤X
  ·have hd2:decide (256≤X / 65536)=true:=by simp;omega
   have hl:(X / 65536 / 256).toNat<lenTab.size:=by rw[lenTab_size];omega
   have L:=Lib.hid (isLen_of (X:=X) (k:=24) (Y:=X / 65536 / 256) (by omega) (by simp only[show(2:Nat)^24=16777216 from rfl];omega) hl (by omega))
   have hT:=Lib.hid (lenTab_at _ hl (by omega))
   have hb1:0≤X / 65536 / 256:=by omega
   have hb2:X / 65536 / 256<256:=by omega
   go_enter Tryz.func188,Tryz.ntmps188
   go_wp2
   go_ret
   exact⟨_,ret_int (len_sum 24 _ (by omega) (by omega) hT.out.2.1),L.out,rfl⟩
  ·have hd2:decide (256≤X / 65536)=false:=by simp;omega
   have hl:(X / 65536).toNat<lenTab.size:=by rw[lenTab_size];omega
   have L:=Lib.hid (isLen_of (X:=X) (k:=16) (Y:=X / 65536) (by omega) (by simp only[show(2:Nat)^16=65536 from rfl];omega) hl (by omega))
   have hT:=Lib.hid (lenTab_at _ hl (by omega))
   have hb1:0≤X / 65536:=by omega
   have hb2:X / 65536<256:=by omega
   go_enter Tryz.func188,Tryz.ntmps188
   go_wp2
   go_ret
   exact⟨_,ret_int (len_sum 16 _ (by omega) (by omega) hT.out.2.1),L.out,rfl⟩
 ·have hd1:decide (65536≤X)=false:=by simp;omega
  by_cases c2:256≤X
  ·have hd2:decide (256≤X)=true:=by simp;omega
   have hl:(X / 256).toNat<lenTab.size:=by rw[lenTab_size];omega
   have L:=Lib.hid (isLen_of (X:=X) (k:=8) (Y:=X / 256) (by omega) (by simp only[show(2:Nat)^8=256 from rfl];omega) hl (by omega))
   have hT:=Lib.hid (lenTab_at _ hl (by omega))
   have hb1:0≤X / 256:=by omega
   have hb2:X / 256<256:=by omega
   go_enter Tryz.func188,Tryz.ntmps188
   go_wp2
   go_ret
   exact⟨_,ret_int (len_sum 8 _ (by omega) (by omega) hT.out.2.1),L.out,rfl⟩
  ·have hd2:decide (256≤X)=false:=by simp;omega
   have hl:X.toNat<lenTab.size:=by rw[lenTab_size];omega
   have L:=Lib.hid (isLen_of (X:=X) (k:=0) (Y:=X) (by omega) (by simp) hl (by omega))
   have hT:=Lib.hid (lenTab_at _ hl (by omega))
   have hb1:0≤X:=by omega
   have hb2:X<256:=by omega
   go_enter Tryz.func188,Tryz.ntmps188
   go_wp2
   go_ret
   exact⟨_,ret_int (by have:=len_sum 0 (lenTab[X.toNat]'hl).toNat (by omega) (by omega) hT.out.2.1;rw[Int.zero_add]at this;exact this),L.out,rfl⟩
def LzPost (X:Int) (w:World) (e:Ending) (w':World):Prop:=∃ s:Nat,e = .returned (.int .i64 s)/\s≤31/\Dg.B≤2*(X.toNat*2^s)/\X.toNat*2^s<Dg.B/\w=w'
theorem lz_of {x n:Nat} (h1:1≤n) (h2:n≤32) (h3:2^(n-1)≤x) (h4:x<2^n):Dg.B≤2*(x*2^(32-n))/\x*2^(32-n)<Dg.B:=by
 have hp:0<2^(32-n):=Nat.pow_pos (by omega)
 have e:Dg.B=2^n*2^(32-n):=by rw[← Nat.pow_add,show n+(32-n)=32 from by omega];rfl
 have e2:2^n=2*2^(n-1):=by rw[Nat.mul_comm,← Nat.pow_succ];congr 1;omega
 constructor
 ·rw[e,e2,Nat.mul_assoc]
  exact Nat.mul_le_mul_left 2 (Nat.mul_le_mul_right _ h3)
 ·rw[e];exact Nat.mul_lt_mul_of_pos_right h4 hp
theorem lz32_any (X : Int) (w : World) (h0 : 0 < X) (h1 : X < 4294967296) :
  Calls Tryz.prog 181 #[.int .u32 X] w (LzPost X w):=by
 go_enter Tryz.func181,Tryz.ntmps181
 go_wp2_with (go_at_call 188;refine(len32_any _ _ h0 h1).mono ?_;rintro e w' ⟨n,rfl,hL,rfl⟩;have HL:=Lib.hid hL;have hn1:=hL.1;have hn2:=hL.2.1;clear hL)
 go_ret
 have:=lz_of HL.out.1 HL.out.2.1 HL.out.2.2.1 HL.out.2.2.2
 exact⟨32-n,ret_int (by omega),by omega,this.1,this.2,rfl⟩
theorem isVal_of_own {w:World} {base n:Nat} {v:Value} {ds:List Nat} (h:w.ownsRow base 119 1 v n (u32s ds)) (ho:Dg.ok ds):∃ A c,v = .slice A n c/\Dig w A n ds/\n≤c:=by
 have hl:ds.length=n:=by have:=h.1;rw[u32s_length]at this;omega
 rcases h.2 with⟨rfl,rfl⟩ | ⟨g,cap,cur,rfl,_,hh,hnc,_,_,htk⟩
 ·obtain rfl:ds=[]:=List.length_eq_zero_iff.1 hl
  exact⟨none,0,rfl,Dig.nil w,by omega⟩
 ·refine⟨_,cap,rfl,⟨hl.symm,ho,fun _=>⟨g,0,rfl,?_,fun i hi=>?_⟩⟩,hnc⟩
  ·rcases Nat.lt_or_ge g w.heap.size with h1 | h1
   ·exact h1
   ·rw[Array.getElem?_eq_none h1]at hh;cases hh
  ·have e:cur.toList[i]? = (u32s ds)[i]? := by rw[← htk,List.getElem?_take,if_pos (by omega)]
   simp only[World.cell?,hh,Nat.zero_add,Option.isSome_none]
   rw[if_neg (by simp)]
   have e2:cur[i]? = cur.toList[i]? := by simp
   rw[e2,e,u32s_get ds i hi]
   simp[hi]
theorem u32s_one (ds:List Nat):∀ u∈u32s ds,u.oneCell'=true:=by
 intro u hu
 simp only[u32s,List.mem_map]at hu
 obtain⟨d,_,rfl⟩:=hu
 rfl
theorem clone_any (A : Option Addr) (n c : Nat) (ds : List Nat) (w : World) (hd : Dig w A n ds) (hn : n ≤ LIM) :
  Calls Tryz.prog 152 #[.slice A n c] w fun e w'=>∃ A' c',e = .returned (.slice A' n c')/\Dig w' A' n ds/\n≤c'/\Below w.heap.size w w':=by
 have H:=Lib.hid hd
 clear hd
 obtain⟨i0,hi,hz0,hz1,hz2⟩:=info_parts info158
 unfold LIM at hn
 have heq:=fun(W:World)=>Lib.run_eql_slice_nil (P:=Tryz.prog) W 34 119 A n c 0 0 Tryz.underlying34
 rcases A with _ | ad
 ·have h0:n=0:=by
   rcases Nat.eq_zero_or_pos n with h | h
   ·exact h
   ·obtain⟨b,o,hA,_⟩:=H.out.2.2 h;cases hA
  subst h0
  obtain rfl:ds=[]:=List.length_eq_zero_iff.1 H.out.len.symm
  go_enter Tryz.func152,Tryz.ntmps152
  go_wp2
  go_ret
  exact⟨none,0,rfl,Dig.nil _,by omega,Below.refl _ _⟩
 ·have hcells:∀ W,Below w.heap.size w W->∀ j u,(u32s ds)[j]? = some u->W.cell? (ad.add j)=some u:=by
   intro W hb j u hj
   have hjl:j<ds.length:=by
    rcases Nat.lt_or_ge j ds.length with h | h
    ·exact h
    ·rw[List.getElem?_eq_none (by rw[u32s_length];exact h)]at hj;cases hj
   obtain⟨b,o,hA,_,hc⟩:=(H.out.below hb).at_ (by have:=H.out.len;omega)
   injection hA with hA
   subst hA
   rw[u32s_get ds j hjl]at hj
   rw[← hj,← hc j (by have:=H.out.len;omega)]
   unfold Addr.add
   by_cases h0:j=0 <;> simp[h0]
  have HC:=Lib.hid hcells
  clear hcells
  go_enter Tryz.func152,Tryz.ntmps152
  go_wp2_with (at_builtin;refine wpList_append_own _ rfl _ _ 34 rfl w.heap.size 119 i0 _ 1 4 Tryz.underlying34 hi hz0 hz1 hz2 rfl (by decide) _ 0 [] rfl (World.ownsRow_lit w #[] 0 (Nat.le_refl _) (by decide) rfl) ad n c (u32s ds) rfl (by rw[u32s_length];have:=H.out.len;omega) (HC.out _ ((Below.refl w.heap.size w).alloc (Nat.le_refl _) _)) (u32s_one ds) (by unfold maxLen;omega) (by omega) (by simp) ?_;intro v' w1 hown hgr hnil)
  go_ret
  rw[Nat.zero_add,List.nil_append]at hown
  obtain⟨A',c',rfl,hd',hc'⟩:=isVal_of_own hown H.out.ok
  exact⟨_,_,rfl,hd',hc',((Below.refl w.heap.size w).alloc (Nat.le_refl _) _).grown hgr (by simp) (fun k hk=>by have h2:some w.heap.size=some k:=hk;injection h2 with h2;omega)⟩
end Go.Proofs.YtkmbnldginonbaaGreat
/- The function divide of package bigint: quotient and remainder of two numbers by their digits, which have no leading zeros; the second one is not 0. The lengths are at most 2^39. -/
namespace Go.Proofs.YtkmbnldginonbaaGreat
open Go.RowKit
theorem IsDig.tight {w:World} {v:Value} {x L M:Nat} (h:IsDig w v x L) (hx:x<Dg.B^M):IsDig w v x M:=by
 obtain⟨A,n,c,ds,h1,h2,h3,h4,h5,h6⟩:=h
 exact⟨A,n,c,ds,h1,h2,h3,by have:=Dg.length_le_of_val h5 (by rw[h6];exact hx);have:=h2.len;omega,h5,h6⟩
def DivPost (x y n m:Nat) (w:World) (e:Ending) (w':World):Prop:=∃ v1 v2,e = .returned (.tuple #[v1,v2])/\IsDig w' v1 (x / y) n/\IsDig w' v2 (x%y) m/\Below w.heap.size w w'
theorem divide_less (A A' : Option Addr) (n c n' c' : Nat) (a b : List Nat) (w : World) (ha : Dig w A n a) (hb : Dig w A' n' b) (ta : Dg.trimmed a) (tb : Dg.trimmed b) (hn : n ≤ LIM) (hn' : n' ≤ LIM) (hlt : Dg.val a < Dg.val b) :
  Calls Tryz.prog 173 #[.slice A n c,.slice A' n' c'] w (DivPost (Dg.val a) (Dg.val b) n n' w):=by
 have hm:n≤maxLen:=by unfold maxLen;unfold LIM at hn;omega
 have hm':n'≤maxLen:=by unfold maxLen;unfold LIM at hn';omega
 have HA:=Lib.hid ha
 have HB:=Lib.hid hb
 have TA:=Lib.hid ta
 have TB:=Lib.hid tb
 have HLT:=Lib.hid hlt
 have C:=fun W hW=>compare_any A A' n c n' c' a b W (HA.out.below (w':=W) hW) (HB.out.below hW) ta tb hm hm'
 rw[cmpN_lt hlt]at C
 have HC:=Lib.hid C
 have HN:=Lib.hid hn
 have hvb:=Dg.val_lt HB.out.ok
 rw[← HB.out.len]at hvb
 have HVB:=Lib.hid hvb
 clear ha hb ta tb hlt C hm hm' hn hn' hvb
 go_enter Tryz.func173,Tryz.ntmps173
 go_wp2_with (first
  |(go_at_call 170;refine(HC.out _ (Below.refl _ _)).mono ?_;rintro e w1 ⟨rfl,hb1⟩)
  |(go_at_call 152;refine(clone_any A n c a _ (HA.out.below hb1) HN.out).mono ?_;rintro e w2 ⟨A2,c2,rfl,hd2,hc2,hb2⟩;have HD2:=Lib.hid hd2;clear hd2))
 go_ret2
 refine⟨_,_,rfl,⟨none,0,0,[],rfl,Dig.nil _,by omega,by omega,by intro d h;simp at h,?_⟩,IsDig.tight ⟨A2,n,c2,a,rfl,HD2.out,hc2,Nat.le_refl _,TA.out,?_⟩ (Nat.lt_trans (Nat.mod_lt _ (by have:=HLT.out;omega)) HVB.out),bel_ext hb1 hb2⟩
 ·rw[Nat.div_eq_of_lt HLT.out];rfl
 ·rw[Nat.mod_eq_of_lt HLT.out]
theorem divide_word (A A' : Option Addr) (n c n' c' : Nat) (a b : List Nat) (w : World) (ha : Dig w A n a) (hb : Dig w A' n' b) (ta : Dg.trimmed a) (tb : Dg.trimmed b) (h2 : n ≤ 2) (hn' : n' ≤ LIM) (hlt : Dg.val b ≤ Dg.val a) (h0 : 0 < Dg.val b) :
  Calls Tryz.prog 173 #[.slice A n c,.slice A' n' c'] w (DivPost (Dg.val a) (Dg.val b) n n' w):=by
 have hm:n≤maxLen:=by unfold maxLen;omega
 have hm':n'≤maxLen:=by unfold maxLen;unfold LIM at hn';omega
 have hva:=Dg.val_lt ha.ok
 rw[← ha.len]at hva
 have hvb:=Dg.val_lt hb.ok
 rw[← hb.len]at hvb
 have hn2:n'≤2:=by
  have:Dg.val b<Dg.B^n:=by omega
  have:=Dg.length_le_of_val tb this
  rw[hb.len];omega
 have hva2:Dg.val a<Dg.B*Dg.B:=by
  have:Dg.B^n≤Dg.B^2:=Nat.pow_le_pow_right Dg.B_pos h2
  rw[Nat.pow_two]at this;omega
 have HA:=Lib.hid ha
 have HB:=Lib.hid hb
 obtain⟨K,hK⟩:∃ K:Int,K=cmpN (Dg.val a) (Dg.val b):=⟨_,rfl⟩
 have hK0:0≤K:=by
  rw[hK]
  rcases Nat.lt_or_ge (Dg.val b) (Dg.val a)with h | h
  ·rw[cmpN_gt h];omega
  ·have:Dg.val a=Dg.val b:=by omega
   rw[this,cmpN_self];omega
 have hdK:decide (K<0)=false:=by simp;omega
 have HC:=Lib.hid (fun W hW=>compare_any A A' n c n' c' a b W (HA.out.below (w':=W) hW) (HB.out.below hW) ta tb hm hm')
 rw[← hK]at HC
 have Wa:=fun W hW=>word_any A n c a W (HA.out.below (w':=W) hW) h2
 have Wb:=fun W hW=>word_any A' n' c' b W (HB.out.below (w':=W) hW) hn2
 have hxq:Dg.val a / Dg.val b≤Dg.val a:=Nat.div_le_self _ _
 have hxr:=Nat.mod_lt (Dg.val a) h0
 have W1:=fun W=>wide_any (Dg.val a / Dg.val b) W (by omega)
 have W2:=fun W=>wide_any (Dg.val a%Dg.val b) W (by omega)
 have HVA:=Lib.hid hva
 have HVB:=Lib.hid hvb
 have hQa:Dg.val a / Dg.val b<Dg.B^n:=by omega
 have hQr:Dg.val a%Dg.val b<Dg.B^n':=by omega
 have HQa:=Lib.hid hQa
 have HQr:=Lib.hid hQr
 have hB64:Dg.B*Dg.B=18446744073709551616:=rfl
 have hq1:IntKind.u64.wrap (((Dg.val a:Nat):Int).tdiv (Dg.val b:Nat))=((Dg.val a / Dg.val b:Nat):Int):=by
  rw[Int.tdiv_eq_ediv_of_nonneg (by omega),← Int.natCast_ediv]
  generalize Dg.val a / Dg.val b=q at *
  exact IntWalk.u64_in _ ⟨by omega,by omega⟩
 have hr1:IntKind.u64.wrap (((Dg.val a:Nat):Int).tmod (Dg.val b:Nat))=((Dg.val a%Dg.val b:Nat):Int):=by
  rw[Int.tmod_eq_emod_of_nonneg (by omega),← Int.natCast_emod]
  generalize Dg.val a%Dg.val b=q at *
  exact IntWalk.u64_in _ ⟨by omega,by omega⟩
 have HW1:=Lib.hid W1
 have HW2:=Lib.hid W2
 have HWa:=Lib.hid Wa
 have HWb:=Lib.hid Wb
 obtain⟨x,hx⟩:∃ x,x=Dg.val a:=⟨_,rfl⟩
 obtain⟨y,hy⟩:∃ x,x=Dg.val b:=⟨_,rfl⟩
 rw[← hx,← hy]at hq1 hr1 HW1 HW2 HQa HQr ⊢
 rw[← hx]at HWa
 rw[← hy]at HWb h0
 obtain⟨X,hX⟩:∃ X:Int,X=x:=⟨_,rfl⟩
 obtain⟨Y,hY⟩:∃ X:Int,X=y:=⟨_,rfl⟩
 have hX0:0≤X:=by omega
 have hY0:1≤Y:=by omega
 have hdn:decide ((n:Int)≤2)=true:=by simp;omega
 have hYb:(Y == 0)=false:=by simp;omega
 have hYn:¬ Y=0:=by omega
 rw[← hX,← hY]at hq1 hr1
 rw[← hX]at HWa
 rw[← hY]at HWb
 have hq2:X / Y=((x / y:Nat):Int):=by rw[hX,hY,Int.natCast_ediv]
 have hr2:X%Y=((x%y:Nat):Int):=by rw[hX,hY,Int.natCast_emod]
 obtain⟨q,hqq⟩:∃ q,q=x / y:=⟨_,rfl⟩
 obtain⟨r,hrr⟩:∃ q,q=x%y:=⟨_,rfl⟩
 rw[← hqq]at hq1 hq2 HW1 HQa
 rw[← hrr]at hr1 hr2 HW2 HQr
 have hr3:X.tmod Y=(r:Int):=by rw[Int.tmod_eq_emod_of_nonneg hX0];exact hr2
 have HQ:=Lib.hid hqq
 have HR:=Lib.hid hrr
 clear hqq hrr
 clear ha hb ta tb hlt hm hm' hn' hva hvb hva2 hK W1 W2 Wa Wb hxq hxr hQa hQr hB64 hx hy hX hY h0 HVA HVB h2 hn2
 go_enter Tryz.func173,Tryz.ntmps173
 go_wp2_with fail
 refine(HC.out _ (Below.refl _ _)).mono ?_
 rintro e w1 ⟨rfl,hb1⟩
 go_wp2_with fail
 refine(HWa.out _ hb1).mono ?_
 rintro e w2 ⟨rfl,hb2⟩
 have hb12:=bel_ext hb1 hb2
 clear hb1 hb2
 go_wp2_with fail
 refine(HWb.out _ hb12).mono ?_
 rintro e w3 ⟨rfl,hb3⟩
 have hb13:=bel_ext hb12 hb3
 clear hb12 hb3
 go_wp2_with fail
 go_region_held3 (fun _=>True) (trivial) (first | (go_at_call_of 135 (Value.int IntKind.u64 (q:Int));refine(HW1.out _).mono ?_;rintro e w4 ⟨v1,rfl,hv1,hb4⟩;have HV1:=Lib.hid hv1;clear hv1) | (go_at_call_of 135 (Value.int IntKind.u64 (r:Int));refine(HW2.out _).mono ?_;rintro e w5 ⟨v2,rfl,hv2,hb5⟩;have HV2:=Lib.hid hv2;clear hv2))
 go_wp2
 go_ret2
 have hbb:=bel_ext (bel_ext hb13.drew hb4) hb5
 exact⟨_,_,rfl,by rw[← HQ.out];exact(HV1.out.below hb5).tight HQa.out,by rw[← HR.out];exact HV2.out.tight HQr.out,hbb⟩
theorem divide_short (A A' : Option Addr) (n c c' : Nat) (a b : List Nat) (w : World) (ha : Dig w A n a) (hb : Dig w A' 1 b) (ta : Dg.trimmed a) (tb : Dg.trimmed b) (h2 : 2 < n) (hn : n ≤ LIM) (hlt : Dg.val b ≤ Dg.val a) (h0 : 0 < Dg.val b) :
  Calls Tryz.prog 173 #[.slice A n c,.slice A' 1 c'] w (DivPost (Dg.val a) (Dg.val b) n 1 w):=by
 have hm:n≤maxLen:=by unfold maxLen;unfold LIM at hn;omega
 have HA:=Lib.hid ha
 have HB:=Lib.hid hb
 obtain⟨d,rfl⟩:=List.length_eq_one_iff.1 hb.len.symm
 have hdv:Dg.val [d]=d:=by simp[Dg.val]
 rw[hdv]at hlt h0 ⊢
 have hdB:=(Dg.ok_cons.1 hb.ok).1
 obtain⟨K,hK⟩:∃ K:Int,K=cmpN (Dg.val a) (Dg.val [d]):=⟨_,rfl⟩
 have hK0:0≤K:=by
  rw[hK,hdv]
  rcases Nat.lt_or_ge d (Dg.val a)with h | h
  ·rw[cmpN_gt h];omega
  ·have:Dg.val a=d:=by omega
   rw[this,cmpN_self];omega
 have hdK:decide (K<0)=false:=by simp;omega
 have HC:=Lib.hid (fun W hW=>compare_any A A' n c 1 c' a [d] W (HA.out.below (w':=W) hW) (HB.out.below hW) ta tb hm (by unfold maxLen;omega))
 rw[← hK]at HC
 obtain⟨b1,o1,rfl,hl1,hcell1⟩:=hb.at_ (by omega)
 have hc0:=hcell1 0 (by omega)
 simp only[List.getElem?_cons_zero,Option.getD_some,Nat.add_zero]at hc0
 obtain⟨D,hD⟩:∃ D:Int,D=d:=⟨_,rfl⟩
 rw[← hD]at hc0
 have hD0:0<D:=by omega
 have hD1:D<4294967296:=by rw[Dg.B_eq]at hdB;omega
 have HS:=Lib.hid (fun W hW=>short_any A n c D a W (HA.out.below (w':=W) hW) hn hD0 hD1)
 have hdn:decide ((n:Int)≤2)=false:=by simp;omega
 have hva:=Dg.val_lt ha.ok
 rw[← ha.len]at hva
 have HVA:=Lib.hid hva
 have HDe:=Lib.hid hD
 have hdB':d<Dg.B^1:=by rw[Nat.pow_one];exact hdB
 have HDB:=Lib.hid hdB'
 have HL:=Lib.hid hm
 have H0:=Lib.hid h0
 clear hm ha hb ta tb hlt hdv hdB hdB' hK hcell1 hD hva h0 hn
 go_enter Tryz.func173,Tryz.ntmps173
 go_wp2_with fail
 refine(HC.out _ (Below.refl _ _)).mono ?_
 rintro e w1 ⟨rfl,hb1⟩
 have hc1:=(hb1.cell (p:=⟨b1,o1,none⟩) hl1).trans hc0
 clear hc0
 go_wp2_with fail
 refine(HS.out _ hb1).mono ?_
 rintro e w2 ⟨g,q,R,rfl,hq,hR0,hR1,hval,hb2⟩
 have HQ:=Lib.hid hq
 have HVal:=Lib.hid hval
 have hb12:=bel_ext hb1 hb2
 clear hq hval hc1 hb1 hb2
 go_wp2_with fail
 refine(trimmed_any _ _ _ q _ HQ.out HL.out (Nat.le_refl _)).mono ?_
 rintro e w3 ⟨rfl,rfl⟩
 obtain⟨r,rfl⟩:=Int.eq_ofNat_of_zero_le hR0
 have hr64:r<Dg.B*Dg.B:=by have h1:=HDB.out;rw[Nat.pow_one]at h1;have h2:=HDe.out;have:Dg.B*1≤Dg.B*Dg.B:=Nat.mul_le_mul_left _ Dg.B_pos;omega
 have HR:=Lib.hid hr64
 clear hr64
 go_wp2_with fail
 refine(wide_any _ _ HR.out).mono ?_
 rintro e w4 ⟨v,rfl,hv,hb3⟩
 have HV:=Lib.hid hv
 clear hv
 have hb14:=bel_ext hb12 hb3
 go_wp2
 go_ret2
 have hval:=HVal.out
 have hd:=HDe.out
 have hr:=Dg.guess_right (U:=Dg.val a) (V:=d) (W:=r) (g:=Dg.val q) (M:=0) (by rw[hval,hd];simp;omega) (by rw[hval,hd,Nat.add_mul,Nat.one_mul];simp;omega)
 refine⟨_,_,rfl,?_,?_,hb14⟩
 ·refine IsDig.tight ⟨_,_,_,Dg.trim q,rfl,HQ.out.trim.below hb3,?_,Nat.le_refl _,Dg.trim_trimmed q,?_⟩ (Nat.lt_of_le_of_lt (Nat.div_le_self _ _) HVA.out)
  ·have:=trim_length q;have:=HQ.out.len;omega
  ·rw[Dg.val_trim];exact hr.1.symm
 ·rw[hr.2]
  exact HV.out.tight (by have:=HDB.out;omega)
end Go.Proofs.YtkmbnldginonbaaGreat
/- The function divide of package bigint at divisors of two digits and more. The lengths are at most 2^39. -/
namespace Go.Proofs.YtkmbnldginonbaaGreat
open Go.RowKit
theorem OwnD.rebase {w:World} {base base' g n:Nat} {ds:List Nat} (h:OwnD w base g n ds) (hb:base'≤base):OwnD w base' g n ds:=by
 refine⟨h.1,h.2.1,h.2.2.1,?_⟩
 rcases h.2.2.2 with h1 | ⟨g',cap,cur,h1,h2,h3⟩
 ·exact .inl h1
 ·exact .inr ⟨g',cap,cur,h1,by omega,h3⟩
theorem OwnD.other {w w':World} {base g n k:Nat} {ds:List Nat} (h:OwnD w base g n ds) (hg:w.grownBy w' (some k)) (hne:g≠k):OwnD w' base g n ds :=
 ⟨h.1,h.2.1,h.2.2.kept hg (.inr (by simpa [Value.ownBlock] using hne))⟩
theorem OwnD.grown0 {w w':World} {base g n:Nat} {ds:List Nat} (h:OwnD w base g n ds) (hg:w.grownBy w' none):OwnD w' base g n ds :=
 ⟨h.1,h.2.1,h.2.2.kept hg (.inr (by simp[Value.ownBlock]))⟩
set_option maxRecDepth 100000 in
theorem divide_long (A A' : Option Addr) (p m c c' : Nat) (a b : List Nat) (w : World) (ha : Dig w A (p + m + 2) a) (hb : Dig w A' (m + 2) b) (ta : Dg.trimmed a) (tb : Dg.trimmed b) (h2 : 2 < p + m + 2) (hn : p + m + 3 ≤ LIM) (hlt : Dg.val b ≤ Dg.val a) (h0 : 0 < Dg.val b) :
  Calls Tryz.prog 173 #[.slice A (p+m+2) c,.slice A' (m+2) c'] w (DivPost (Dg.val a) (Dg.val b) (p+m+2) (m+2) w):=by
 have hm:p+m+2≤maxLen:=by unfold maxLen;unfold LIM at hn;omega
 have hm':m+3≤maxLen:=by unfold maxLen;unfold LIM at hn;omega
 have HA:=Lib.hid ha
 have HB:=Lib.hid hb
 obtain⟨i0,hi,hz0,hz1,hz2⟩:=info_parts info158
 obtain⟨K,hK⟩:∃ K:Int,K=cmpN (Dg.val a) (Dg.val b):=⟨_,rfl⟩
 have hK0:0≤K:=by
  rw[hK]
  rcases Nat.lt_or_ge (Dg.val b) (Dg.val a)with h | h
  ·rw[cmpN_gt h];omega
  ·have:Dg.val a=Dg.val b:=by omega
   rw[this,cmpN_self];omega
 have hdK:decide (K<0)=false:=by simp;omega
 have HC:=Lib.hid (fun W hW=>compare_any A A' (p+m+2) c (m+2) c' a b W (HA.out.below (w':=W) hW) (HB.out.below hW) ta tb hm (by unfold maxLen at *;omega))
 rw[← hK]at HC
 obtain⟨b1,o1,rfl,hl1,hcell1⟩:=hb.at_ (by omega)
 have hc0:=hcell1 (m+1) (by omega)
 have hdB:=Dg.ok_getD hb.ok (m+1)
 have hml:m+1<b.length:=by have:=hb.len;omega
 have hd0:0<b[m+1]?.getD 0:=by
  rcases Nat.eq_zero_or_pos (b[m+1]?.getD 0)with h | h
  ·exfalso
   have hl:b.getLast? = some b[m+1]:=by
    rw[List.getLast?_eq_getElem?,← hb.len]
    exact List.getElem?_eq_getElem hml
   rw[Dg.getD_eq hml]at h
   exact tb _ hl h
  ·exact h
 obtain⟨D,hD⟩:∃ D:Int,D=(b[m+1]?.getD 0:Nat):=⟨_,rfl⟩
 rw[← hD]at hc0
 have hD0:0<D:=by omega
 have hD1:D<4294967296:=by rw[Dg.B_eq]at hdB;omega
 have hpm:((p:Int)+m+2)≤2^40:=by unfold LIM at hn;omega
 have hdn:decide ((p:Int)+(m:Int)+2≤2)=false:=by simp;omega
 have hdb:(((m:Int)+2) == 1)=false:=by simp;omega
 have HDe:=Lib.hid hD
 have HL:=Lib.hid hm'
 have H0:=Lib.hid h0
 have HN:=Lib.hid hn
 have HTa:=Lib.hid ta
 clear hml hm hm' ha hb ta tb hlt hdB hK hcell1 hD h0 hn hd0
 go_enter Tryz.func173,Tryz.ntmps173
 go_wp2_with fail
 refine(HC.out _ (Below.refl _ _)).mono ?_
 rintro e w1 ⟨rfl,hb1⟩
 have hc1:=(hb1.cell (p:=⟨b1,o1+(m+1),none⟩) hl1).trans hc0
 clear hc0
 go_wp2_with fail
 refine(lz32_any _ _ hD0 hD1).mono ?_
 rintro e w2 ⟨s,rfl,hs1,hs2,hs3,rfl⟩
 have HS2:=Lib.hid hs2
 have HS3:=Lib.hid hs3
 clear hs2 hs3 hc1
 go_wp2_with fail
 refine(shifted_any A (p+m+2) c s a _ (HA.out.below hb1) (by have:=HN.out;omega) hs1).mono ?_
 rintro e w3 ⟨g1,us,rfl,hu,huv,hb2⟩
 have hb13:=bel_ext hb1 hb2
 have HU:=Lib.hid hu
 have HUV:=Lib.hid huv
 clear hu huv
 go_wp2_with fail
 refine(shifted_any _ (m+2) c' s b _ (HB.out.below hb13) (by have:=HN.out;omega) hs1).mono ?_
 rintro e w4 ⟨g2,vs,rfl,hv,hvv,hb3⟩
 have hDt:D.toNat=b[m+1]?.getD 0:=by rw[HDe.out];exact Int.toNat_natCast _
 have HM:=Lib.hid (Dg.moved HB.out.len.symm HB.out.ok (by rw[← hDt];exact HS2.out) (by rw[← hDt];exact HS3.out) hv.2.1 hvv)
 have HV:=Lib.hid hv
 have HVV:=Lib.hid hvv
 clear hv hvv hDt
 go_wp2_with fail
 refine(trimmed_any _ _ _ vs _ HV.out.dig HL.out (Nat.le_refl _)).mono ?_
 rintro e w5 ⟨rfl,rfl⟩
 rw[HM.out.1]
 have hb14:=bel_ext hb13 hb3
 go_wp2_with (at_make;refine wpList_make_full _ rfl _ _ 34 rfl w.heap.size 119 i0 _ 1 Tryz.underlying34 hi hz0 hz1 .i64 .i64 _ _ (p+1) rfl rfl (by omega) (by omega) (by rw[hz2];have:=HN.out;unfold LIM at this;omega) (by have:=HN.out;unfold LIM at this;unfold maxLen;omega) hb14.size ?_;intro w6 hown hgr)
 have hv4:=HV.out.base
 have hu3:=HU.out.base
 have hs14:=hb1.size
 have hU6:=((HU.out.below hb3).grown0 hgr).rebase (base':=w.heap.size) hs14
 have hQ6:=(OwnD.made hown)
 have hV6:=(HV.out.dig.trim).below (w':=w6) ⟨hgr.os,hgr.tape,hgr.output,hgr.size,fun k hk=>hgr.block k hk (by simp)⟩
 rw[HM.out.1]at hV6
 have hb16:Below w.heap.size w w6:=hb14.grown hgr hb14.size (by simp)
 have hgq:g1≠w4.heap.size:=by have:=hb3.size;omega
 have hgv:g2≠g1:=by omega
 have hgvq:g2≠w4.heap.size:=by omega
 have hwq:w.heap.size≤w4.heap.size:=hb14.size
 have hw1:w.heap.size≤g1:=by omega
 have hmade:Dg.Made (Dg.val a*2^s) (Dg.val vs) (p+1) (List.replicate (p+1) 0) us:=by
  have:=Dg.made_start (a:=a) (us:=us) (qs:=List.replicate (p+1) 0) (n:=p+m+2) (m:=m) (s:=s) (V:=Dg.val vs) HA.out.len.symm HA.out.ok (by omega) (by have:=HU.out.1;omega) HUV.out (by have:=HM.out.2.2.2;exact this) (by simp;omega)
  rwa [show p+m+2+1-(m+2)=p+1 from by omega]at this
 have HU6:=Lib.hid hU6
 have HQ6:=Lib.hid hQ6
 have HV6:=Lib.hid hV6
 have HMade:=Lib.hid hmade
 clear hv4 hu3 hs14 hU6 hQ6 hV6 hmade hb1 hb2 hb3 hb13 hown hgr HC hD0 hD1 HS2 HS3 HDe
 go_loopw [14] (fun z wr=>∃(k:Nat) (us' qs:List Nat),k≤p+1/\z = .int .i64 ((k:Int)-1)/\OwnD wr w.heap.size g1 (p+m+2+1) us'/\OwnD wr w.heap.size w4.heap.size (p+1) qs/\Dig wr (some ⟨g2,0,none⟩) (m+2) (Dg.trim vs)/\Hid (Dg.Made (Dg.val a*2^s) (Dg.val vs) k qs us')/\Below w.heap.size w wr) (fun z _=>(intOf z+1).toNat)
 case atStart=>exact⟨p+1,us,_,by omega,by go_num,HU6.out,HQ6.out,HV6.out,HMade.out,hb16⟩
 case round =>
  obtain⟨k,us',qs,hk,rfl,hO,hQ,hVd,hMd,hbw⟩:=hrel
  by_cases hkp:0<k
  ·obtain⟨j,rfl⟩:∃ j,k=j+1:=⟨k-1,by omega⟩
   have hpre:=Dg.made_pre (m:=m) (k:=j) (by have:=hO.1;omega) hO.2.1 hMd.out HM.out.2.2.1
   have HO:=Lib.hid hO
   have HQ:=Lib.hid hQ
   have HVd:=Lib.hid hVd
   have HPre:=Lib.hid hpre
   clear hO hQ hVd hpre
   have hj0:(0:Int)≤(j:Int):=by omega
   have hjp:(j:Int)≤(p:Int):=by omega
   go_wp2_with fail
   rw[show j+(m+2)+1-j=m+3 from by omega]
   refine(digit_any w.heap.size g1 j (p+m+2+1) _ (some ⟨g2,0,none⟩) m (m+2+1) us' (Dg.trim vs) wr HO.out HVd.out (by omega) HN.out (by intro b' o' hbo;injection hbo with hbo;injection hbo with hb1 hb2;omega) HM.out.2.1 (by rw[Dg.val_trim];exact HPre.out.1)).mono ?_
   rintro e w7 ⟨us2,qd,rfl,hu2,ht2,hd2,hq2,hr2,hg2⟩
   rw[Dg.val_trim]at hq2 hr2
   have hV0:0<Dg.val vs:=by
    rw[HVV.out];exact Nat.mul_pos H0.out (Nat.pow_pos (by omega))
   have hstep:=Dg.made_step (m:=m) (k:=j) (q:=qd) (qs:=qs) (by have:=HO.out.1;omega) (by have:=HQ.out.1;omega) (by have:=hu2.1;have:=HO.out.1;omega) hMd.out hV0 ht2 (by rw[show j+(m+3)=j+m+3 from by omega];exact hd2) HPre.out.2 hq2 hr2
   have hqB:qd<Dg.B:=by
    rw[hq2]
    exact Nat.div_lt_of_lt_mul HPre.out.1
   have HQ7:=HQ.out.other hg2 (Ne.symm hgq)
   have hoc:=HQ7.cell (i:=j) (by omega)
   have hof:=HQ7.frozen j
   have HQ8:=Lib.hid (HQ7.set_ j qd hqB)
   have hgst:=(HQ7.2.2.stored j (.int .u32 qd)).2
   have HU8:=Lib.hid (hu2.other (w':=w7.setCell ⟨w4.heap.size,j,none⟩ (.int .u32 qd)) hgst hgq)
   have HV8:=Lib.hid ((HVd.out.grown hg2 (by intro b' o' hbo;injection hbo with hbo;injection hbo with hb1 hb2;omega)).grown (w':=w7.setCell ⟨w4.heap.size,j,none⟩ (.int .u32 qd)) hgst (by intro b' o' hbo;injection hbo with hbo;injection hbo with hb1 hb2;omega))
   have hb7:Below w.heap.size w w7:=hbw.grown hg2 hbw.size (fun k hk=>by injection hk with hk;omega)
   have hb8:Below w.heap.size w (w7.setCell ⟨w4.heap.size,j,none⟩ (.int .u32 qd)):=hb7.setCell hwq _
   have HStep:=Lib.hid hstep
   clear hu2 ht2 hd2 hq2 hr2 hg2 hstep HQ7 hgst hqB hV0
   go_wp2_with fail
   go_roundw
   case rel=>exact⟨j,us2,_,by omega,by go_num,HU8.out,HQ8.out,HV8.out,HStep.out,hb8⟩
   case measure=>simp[intOf] <;> omega
  ·obtain rfl:k=0:=by omega
   have hend:=Dg.made_end HVV.out hMd.out
   have HEnd:=Lib.hid hend
   have HO:=Lib.hid hO
   have HQ:=Lib.hid hQ
   have hus:Dg.val (us'.take (m+2))=Dg.val us':=by
    apply Dg.val_take_of_lt
    have:=hMd.out.2
    rw[List.drop_zero]at this
    exact Nat.lt_trans this HM.out.2.2.1
   have HUs:=Lib.hid hus
   clear hO hQ hVd hus hend
   have hP1:p+1≤maxLen:=by have:=HN.out;unfold LIM at this;unfold maxLen;omega
   have hM2:m+2≤maxLen:=by have:=HL.out;omega
   have HP1:=Lib.hid hP1
   have HM2:=Lib.hid hM2
   have hM3:m+2≤LIM:=by have:=HN.out;omega
   have HM3:=Lib.hid hM3
   have HT:=Lib.hid (HO.out.dig.take (k:=m+2) (by omega))
   have hi0:(0:Int)≤(m:Int)+2:=by omega
   have hi1:(m:Int)+2≤(p:Int)+(m:Int)+2+1:=by omega
   clear hP1 hM2 hM3
   go_wp2_with fail
   go_region_held3 (fun _=>True) (trivial) (first | (go_at_call 140;refine(trimmed_any _ _ _ o3 _ HD3.out HM2.out (Nat.le_refl _)).mono ?_;rintro e w8 ⟨rfl,rfl⟩) | (go_at_call 140;refine(trimmed_any _ _ _ qs _ HQ.out.dig.drew HP1.out (Nat.le_refl _)).mono ?_;rintro e w8 ⟨rfl,rfl⟩) | (go_at_call 184;refine(unshifted_any _ _ _ s (us'.take (m+2)) _ HT.out.drew HM3.out hs1).mono ?_;rintro e w9 ⟨g3,o3,rfl,hd3,hv3,hb3⟩;have HD3:=Lib.hid hd3;have HV3:=Lib.hid hv3;clear hd3 hv3))
   go_wp2
   go_ret2
   have hbb:=bel_ext hbw.drew hb3
   refine⟨_,_,rfl,?_,?_,hbb⟩
   ·refine IsDig.tight (L:=p+1) ⟨_,_,_,Dg.trim qs,rfl,(HQ.out.dig.drew.trim).below hb3,?_,?_,Dg.trim_trimmed qs,by rw[Dg.val_trim];exact HEnd.out.1⟩ ?_
    ·have:=trim_length qs;have:=HQ.out.1;omega
    ·have:=trim_length qs;have:=HQ.out.1;omega
    ·refine Nat.lt_of_le_of_lt (Nat.div_le_self _ _) ?_
     have:=Dg.val_lt HA.out.ok
     rwa [← HA.out.len]at this
   ·refine⟨_,_,_,Dg.trim o3,rfl,HD3.out.trim,?_,?_,Dg.trim_trimmed o3,?_⟩
    ·have:=trim_length o3;have:=HD3.out.len;omega
    ·have:=trim_length o3;have:=HD3.out.len;omega
    ·rw[Dg.val_trim,HV3.out,HUs.out];exact HEnd.out.2
theorem divide_any (A A' : Option Addr) (n c n' c' : Nat) (a b : List Nat) (w : World) (ha : Dig w A n a) (hb : Dig w A' n' b) (ta : Dg.trimmed a) (tb : Dg.trimmed b) (hn : n + 1 ≤ LIM) (hn' : n' ≤ LIM) (h0 : 0 < Dg.val b) :
  Calls Tryz.prog 173 #[.slice A n c,.slice A' n' c'] w (DivPost (Dg.val a) (Dg.val b) n n' w):=by
 rcases Nat.lt_or_ge (Dg.val a) (Dg.val b)with hlt | hlt
 ·exact divide_less A A' n c n' c' a b w ha hb ta tb (by omega) hn' hlt
 ·rcases Nat.lt_or_ge 2 n with h2 | h2
  ·match n',hb with
   | 0,hb =>
    obtain rfl:b=[]:=List.length_eq_zero_iff.1 hb.len.symm
    exact absurd h0 (by simp[Dg.val])
   | 1,hb=>exact divide_short A A' n c c' a b w ha hb ta tb h2 (by omega) hlt h0
   | m+2,hb =>
    have hle:m+2≤n:=by
     have h1:=Dg.val_lt ha.ok
     rw[← ha.len]at h1
     have:=Dg.length_le_of_val tb (Nat.lt_of_le_of_lt hlt h1)
     rw[hb.len];exact this
    obtain⟨p,rfl⟩:∃ p,n=p+m+2:=⟨n-m-2,by omega⟩
    exact divide_long A A' p m c c' a b w ha hb ta tb h2 (by omega) hlt h0
  ·exact divide_word A A' n c n' c' a b w ha hb ta tb h2 hn' hlt h0
end Go.Proofs.YtkmbnldginonbaaGreat
/- The functions Sign, Of, Normal, Neg, Abs of package bigint: what each computes. The lengths are at most 2^40. -/
set_option maxHeartbeats 2000000
namespace Go.Proofs.YtkmbnldginonbaaGreat
open Go.RowKit
theorem trim_pos (ds:List Nat):0<(Dg.trim ds).length↔0<Dg.val ds:=by
 rw[← Dg.val_trim ds]
 have h:=Dg.val_eq_zero (Dg.trim_trimmed ds)
 constructor
 ·intro h1
  rcases Nat.eq_zero_or_pos (Dg.val (Dg.trim ds))with h2 | h2
  ·rw[h.1 h2]at h1;simp at h1
  ·exact h2
 ·intro h1
  rcases Nat.eq_zero_or_pos (Dg.trim ds).length with h2 | h2
  ·rw[List.length_eq_zero_iff.1 h2]at h1;simp[Dg.val]at h1
  ·exact h2
theorem Dig.store {w:World} {A:Option Addr} {n:Nat} {ds:List Nat} (h:Dig w A n ds) (p:Addr) (u:Value) (hp:∀ d:Int,w.cell? p≠some (.int .u32 d)):Dig (w.setCell p u) A n ds:=by
 refine⟨h.1,h.2.1,fun hn=>?_⟩
 obtain⟨b,o,hA,hlt,hc⟩:=h.2.2 hn
 refine⟨b,o,hA,by simpa using hlt,fun i hi=>?_⟩
 rw[World.cell?_setCell_other w p ⟨b,o+i,none⟩ u (fun e=>hp _ (by rw[e];exact hc i hi))]
 exact hc i hi
theorem NInt.store {w:World} {v:Value} {x:Int} {L:Nat} (h:NInt w v x L) (p:Addr) (u:Value) (hp:∀ d:Int,w.cell? p≠some (.int .u32 d)):NInt (w.setCell p u) v x L:=by
 obtain⟨neg,A,n,c,ds,h1,h2,h3⟩:=h
 exact⟨neg,A,n,c,ds,h1,h2.store p u hp,h3⟩
theorem NInt.ret {w : World} {v u0 u1 : Value} {x : Int} {L R n0 c0 : Nat} {b0 : Bool} {A0 : Option Addr} (h : NInt w v x L) (r0 : w.cell? ⟨R, 0, none⟩ = some (.bool b0)) (r1 : w.cell? ⟨R, 1, none⟩ = some (.slice A0 n0 c0)) :
  NInt ((w.setCell ⟨R,0,none⟩ u0).setCell ⟨R,1,none⟩ u1) v x L:=by
 refine(h.store _ u0 (by rw[r0];simp)).store _ u1 ?_
 rw[World.cell?_setCell_other w ⟨R,0,none⟩ ⟨R,1,none⟩ u0 (by simp),r1]
 simp
theorem cell_ret {w:World} {R B i:Nat} {u0 u1 a:Value} (h:w.cell? ⟨B,i,none⟩=some a) (hne:B≠R):((w.setCell ⟨R,0,none⟩ u0).setCell ⟨R,1,none⟩ u1).cell? ⟨B,i,none⟩=some a:=by
 rw[World.cell?_setCell_other _ ⟨R,1,none⟩ ⟨B,i,none⟩ u1 (by intro e;injection e with e1;omega),World.cell?_setCell_other _ ⟨R,0,none⟩ ⟨B,i,none⟩ u0 (by intro e;injection e with e1;omega)]
 exact h
theorem bel_ret {w w2:World} {R:Nat} {u0 u1:Value} (h:Below w.heap.size w w2) (hR:w.heap.size≤R):Below w.heap.size w ((w2.setCell ⟨R,0,none⟩ u0).setCell ⟨R,1,none⟩ u1):=(h.setCell (p:=⟨R,0,none⟩) hR u0).setCell (p:=⟨R,1,none⟩) hR u1
theorem int_sign_any (v : Value) (x : Int) (L : Nat) (w : World) (hv : RInt w v x L) (hL : L ≤ LIM) :
  Calls Tryz.prog 131 #[v] w fun e w'=>e = .returned (.int .i64 x.sign)/\Below w.heap.size w w':=by
 obtain⟨neg,A,n,c,ds,rfl,hd,hc,hn,hx⟩:=hv
 have hm:n≤maxLen:=by unfold maxLen;unfold LIM at hL;omega
 have T:=fun W hW=>trimmed_any A n c ds W (hd.below (w':=W) hW) hm hc
 have hp:=trim_pos ds
 have hle:(Dg.trim ds).length≤n:=by have:=trim_length ds;have:=hd.len;omega
 obtain⟨t,ht⟩:∃ t,t=(Dg.trim ds).length:=⟨_,rfl⟩
 rw[← ht]at T hp hle
 have T':=Lib.hid T
 have hmx:(t:Int)≤2^40:=by unfold LIM at hL;omega
 by_cases h0:0<t
 ·have hpos:=hp.1 h0
  have hb0:((t:Int) == 0)=false:=by simp;omega
  cases neg
  ·have hs:x.sign=1:=by rw[hx];exact Int.sign_eq_one_of_pos (by simp[sgn];omega)
   rw[hs]
   clear hx hd T hp hle hm hL hn ht hc hs hpos
   go_enter Tryz.func131,Tryz.ntmps131
   go_wp2_with (go_at_call 140;refine(T'.out _ (by go_grown)).mono ?_;rintro e w' ⟨rfl,rfl⟩)
   go_ret
   exact⟨rfl,by go_grown⟩
  ·have hs:x.sign = -1:=by rw[hx];exact Int.sign_eq_neg_one_of_neg (by simp[sgn];omega)
   rw[hs]
   clear hx hd T hp hle hm hL hn ht hc hs hpos
   go_enter Tryz.func131,Tryz.ntmps131
   go_wp2_with (go_at_call 140;refine(T'.out _ (by go_grown)).mono ?_;rintro e w' ⟨rfl,rfl⟩)
   go_ret
   exact⟨rfl,by go_grown⟩
 ·have hz:Dg.val ds=0:=by omega
  have hs:x.sign=0:=by rw[hx,hz];cases neg <;> rfl
  obtain rfl:t=0:=by omega
  rw[hs]
  clear hx hd T hp hle hm hL hn ht hc hs hz
  go_enter Tryz.func131,Tryz.ntmps131
  go_wp2_with (go_at_call 140;refine(T'.out _ (by go_grown)).mono ?_;rintro e w' ⟨rfl,rfl⟩)
  go_ret
  exact⟨rfl,by go_grown⟩
theorem int_of_any (x : Int) (w : World) (h0 : -9223372036854775808 ≤ x) (h1 : x ≤ 9223372036854775807) :
  Calls Tryz.prog 96 #[.int .i64 x] w fun e w'=>∃ v,e = .returned v/\NInt w' v x 2/\Below w.heap.size w w':=by
 by_cases hx:x<0
 ·have hd:decide (x<0)=true:=by simp;omega
  obtain⟨q,hq⟩:∃ q:Nat,-x=q:=Int.eq_ofNat_of_zero_le (by omega)
  have hw:IntKind.u64.wrap (-(IntKind.u64.wrap x))=(q:Int):=by
   simp[IntKind.wrap,IntKind.bits,IntKind.signed];omega
  have hqB:q<Dg.B*Dg.B:=by rw[Dg.B_eq];omega
  have HQ:=Lib.hid hqB
  have HX:=Lib.hid hq
  clear hq hqB h0 h1 hx
  go_enter Tryz.func96,Tryz.ntmps96
  go_wp2_with fail
  refine(wide_any q _ HQ.out).mono ?_
  rintro e w1 ⟨v,rfl,⟨A,n,c,ds,rfl,hd1,hc1,hn1,ht1,hv1⟩,hb1⟩
  have HD:=Lib.hid hd1
  have HV:=Lib.hid hv1
  clear hd1 hv1 ht1
  go_wp2_with fail
  refine(signed_any true A n c ds _ HD.out (by unfold maxLen;omega) hc1).mono ?_
  rintro e w2 ⟨v,rfl,⟨neg,A2,n2,c2,ds2,rfl,hd2⟩,hb2⟩
  have HD2:=Lib.hid hd2
  have hb12:=bel_ext hb1 hb2
  have r0:=hb12.cell (p:=⟨w.heap.size,0,none⟩) (by simp)
  have r1:=hb12.cell (p:=⟨w.heap.size,1,none⟩) (by simp)
  have f0:=hb12.frozen (p:=⟨w.heap.size,0,none⟩) (by simp)
  have f1:=hb12.frozen (p:=⟨w.heap.size,1,none⟩) (by simp)
  simp at r0 r1 f0 f1
  clear hd2 hw hd
  have hbw:Below w.heap.size w w2:=((Below.refl _ _).alloc (Nat.le_refl _) _).trans (hb12.mono (by simp))
  go_wp2
  refine bodyPost_ret (v := .agg #[.bool neg,.slice A2 n2 c2]) (by simp[results,Tryz.results96,go_sem,r0,r1]) rfl ⟨_,rfl,?_,bel_ret hbw (Nat.le_refl _)⟩
  have hN:NInt w2 (.agg #[.bool neg,.slice A2 n2 c2]) (sgn true (Dg.val ds)) n:=⟨neg,A2,n2,c2,ds2,rfl,HD2.out⟩
  have e:sgn true (Dg.val ds)=x:=by rw[HV.out];have:=HX.out;simp[sgn];omega
  rw[e]at hN
  exact(hN.mono hn1).ret r0 r1
 ·have hd:decide (x<0)=false:=by simp;omega
  obtain⟨q,hq⟩:∃ q:Nat,x=q:=Int.eq_ofNat_of_zero_le (by omega)
  have hw:IntKind.u64.wrap x=(q:Int):=by
   simp[IntKind.wrap,IntKind.bits,IntKind.signed];omega
  have hqB:q<Dg.B*Dg.B:=by rw[Dg.B_eq];omega
  have HQ:=Lib.hid hqB
  have HX:=Lib.hid hq
  clear hq hqB h0 h1 hx
  go_enter Tryz.func96,Tryz.ntmps96
  go_wp2_with fail
  refine(wide_any q _ HQ.out).mono ?_
  rintro e w1 ⟨v,rfl,⟨A,n,c,ds,rfl,hd1,hc1,hn1,ht1,hv1⟩,hb1⟩
  have HD:=Lib.hid hd1
  have HV:=Lib.hid hv1
  clear hd1 hv1 ht1
  go_wp2_with fail
  refine(signed_any false A n c ds _ HD.out (by unfold maxLen;omega) hc1).mono ?_
  rintro e w2 ⟨v,rfl,⟨neg,A2,n2,c2,ds2,rfl,hd2⟩,hb2⟩
  have HD2:=Lib.hid hd2
  have hb12:=bel_ext hb1 hb2
  have r0:=hb12.cell (p:=⟨w.heap.size,0,none⟩) (by simp)
  have r1:=hb12.cell (p:=⟨w.heap.size,1,none⟩) (by simp)
  have f0:=hb12.frozen (p:=⟨w.heap.size,0,none⟩) (by simp)
  have f1:=hb12.frozen (p:=⟨w.heap.size,1,none⟩) (by simp)
  simp at r0 r1 f0 f1
  clear hd2 hw hd
  have hbw:Below w.heap.size w w2:=((Below.refl _ _).alloc (Nat.le_refl _) _).trans (hb12.mono (by simp))
  go_wp2
  refine bodyPost_ret (v := .agg #[.bool neg,.slice A2 n2 c2]) (by simp[results,Tryz.results96,go_sem,r0,r1]) rfl ⟨_,rfl,?_,bel_ret hbw (Nat.le_refl _)⟩
  have hN:NInt w2 (.agg #[.bool neg,.slice A2 n2 c2]) (sgn false (Dg.val ds)) n:=⟨neg,A2,n2,c2,ds2,rfl,HD2.out⟩
  have e:sgn false (Dg.val ds)=x:=by rw[HV.out];have:=HX.out;simp[sgn];omega
  rw[e]at hN
  exact(hN.mono hn1).ret r0 r1
theorem int_normal_any (v : Value) (x : Int) (L : Nat) (w : World) (hv : RInt w v x L) (hL : L ≤ LIM) :
  Calls Tryz.prog 136 #[v] w fun e w'=>∃ v',e = .returned v'/\NInt w' v' x L/\Below w.heap.size w w':=by
 obtain⟨neg,A,n,c,ds,rfl,hd,hc,hn,hx⟩:=hv
 have hm:n≤maxLen:=by unfold maxLen;unfold LIM at hL;omega
 have hle:(Dg.trim ds).length≤n:=by have:=trim_length ds;have:=hd.len;omega
 have H:=Lib.hid hd
 have HX:=Lib.hid hx
 have HM:=Lib.hid hm
 have HL:=Lib.hid (show n≤LIM by omega)
 have HT:=Lib.hid hle
 clear hd hx hm hL hle
 go_enter Tryz.func136,Tryz.ntmps136
 go_wp2_with fail
 generalize hW:(w.alloc (.cells #[.bool neg,.slice A n c] 36)).alloc (.cells #[.bool false,.slice none 0 0] 36)=W0
 have hb0:Below w.heap.size w W0:=by rw[← hW];exact((Below.refl _ _).alloc (Nat.le_refl _) _).alloc (by simp) _
 have hsz:w.heap.size+1<W0.heap.size:=by rw[← hW];simp
 have hsz0:w.heap.size<W0.heap.size:=by omega
 have c0:W0.cell? ⟨w.heap.size,0,none⟩=some (.bool neg):=by rw[← hW];simp
 have c1:W0.cell? ⟨w.heap.size,1,none⟩=some (.slice A n c):=by rw[← hW];simp
 have q0:W0.cell? ⟨w.heap.size+1,0,none⟩=some (.bool false):=by rw[← hW];simp
 have q1:W0.cell? ⟨w.heap.size+1,1,none⟩=some (.slice none 0 0):=by rw[← hW];simp
 have f0:W0.frozen? ⟨w.heap.size+1,0,none⟩=false:=by rw[← hW];simp
 have f1:W0.frozen? ⟨w.heap.size+1,1,none⟩=false:=by rw[← hW];simp
 clear hW
 have T:=Lib.hid (fun W hW=>trimmed_any A n c ds W (H.out.below (w':=W) hW) HM.out hc)
 have HB0:=Lib.hid hb0
 have S0:=Lib.hid (And.intro c0 c1)
 have Q0:=Lib.hid (And.intro q0 (And.intro q1 (And.intro f0 f1)))
 clear hb0 c0 c1 q0 q1 f0 f1
 go_region_held3 (fun w' => w'.cell? ⟨w.heap.size, 0, none⟩ = some (.bool neg) ∧ w'.cell? ⟨w.heap.size, 1, none⟩ = some (.slice A n c)) (first | exact S2.out | exact ⟨cell_ret S2.out.1 (by omega), cell_ret S2.out.2 (by omega)⟩ | exact S1.out | exact S0.out) (first
  |(go_at_call 140;refine(T.out _ HB0.out.drew).mono ?_;rintro e w8 ⟨rfl,rfl⟩)
  |(go_at_call 152;refine(clone_any A _ c (Dg.trim ds) _ (H.out.trim.below HB0.out.drew) (Nat.le_trans HT.out HL.out)).mono ?_;rintro e w1 ⟨A1,c1,rfl,hd1,hc1,hb1⟩;have HD1:=Lib.hid hd1;have HB1:=Lib.hid hb1;have S1:=Lib.hid (And.intro ((hb1.cell (p:=⟨w.heap.size,0,none⟩) hsz0).trans S0.out.1) ((hb1.cell (p:=⟨w.heap.size,1,none⟩) hsz0).trans S0.out.2));clear hd1 hb1)
  |(go_at_call 134;refine(signed_any neg A1 _ c1 (Dg.trim ds) _ HD1.out (Nat.le_trans HT.out HM.out) hc1).mono ?_;rintro e w2 ⟨v,rfl,⟨neg2,A2,n2,c2,ds2,rfl,hd2⟩,hb2⟩;have HD2:=Lib.hid hd2;have hb12:=bel_ext HB1.out hb2;have S2:=Lib.hid (And.intro ((hb12.cell (p:=⟨w.heap.size,0,none⟩) hsz0).trans S0.out.1) ((hb12.cell (p:=⟨w.heap.size,1,none⟩) hsz0).trans S0.out.2));have r0:=(hb12.cell (p:=⟨w.heap.size+1,0,none⟩) hsz).trans Q0.out.1;have r1:=(hb12.cell (p:=⟨w.heap.size+1,1,none⟩) hsz).trans Q0.out.2.1;have g0:=(hb12.frozen (p:=⟨w.heap.size+1,0,none⟩) hsz).trans Q0.out.2.2.1;have g1:=(hb12.frozen (p:=⟨w.heap.size+1,1,none⟩) hsz).trans Q0.out.2.2.2;have HB2:=Lib.hid hb12;clear hd2 hb2 hb12))
 go_wp2
 have hbw:Below w.heap.size w w2:=(HB0.out.drew).trans (HB2.out.mono HB0.out.size)
 refine bodyPost_ret (v := .agg #[.bool neg2,.slice A2 n2 c2]) (by simp[results,Tryz.results136,go_sem,r0,r1]) rfl ⟨_,rfl,?_,bel_ret hbw (by omega)⟩
 have hN:NInt w2 (.agg #[.bool neg2,.slice A2 n2 c2]) (sgn neg (Dg.val (Dg.trim ds))) (Dg.trim ds).length:=⟨neg2,A2,n2,c2,ds2,rfl,HD2.out⟩
 rw[Dg.val_trim,← HX.out]at hN
 exact(hN.mono (Nat.le_trans HT.out hn)).ret r0 r1
end Go.Proofs.YtkmbnldginonbaaGreat
/- The functions Neg and Abs of package bigint: what each computes. The lengths are at most 2^40. -/
namespace Go.Proofs.YtkmbnldginonbaaGreat
open Go.RowKit
theorem int_neg_any (v : Value) (x : Int) (L : Nat) (w : World) (hv : RInt w v x L) (hL : L ≤ LIM) :
  Calls Tryz.prog 110 #[v] w fun e w'=>∃ v',e = .returned v'/\NInt w' v' (-x) L/\Below w.heap.size w w':=by
 obtain⟨neg,A,n,c,ds,rfl,hd,hc,hn,hx⟩:=hv
 have hm:n≤maxLen:=by unfold maxLen;unfold LIM at hL;omega
 have hle:(Dg.trim ds).length≤n:=by have:=trim_length ds;have:=hd.len;omega
 have H:=Lib.hid hd
 have HX:=Lib.hid hx
 have HM:=Lib.hid hm
 have HL:=Lib.hid (show n≤LIM by omega)
 have HT:=Lib.hid hle
 clear hd hx hm hL hle
 go_enter Tryz.func110,Tryz.ntmps110
 go_wp2_with fail
 generalize hW:(w.alloc (.cells #[.bool neg,.slice A n c] 36)).alloc (.cells #[.bool false,.slice none 0 0] 36)=W0
 have hb0:Below w.heap.size w W0:=by rw[← hW];exact((Below.refl _ _).alloc (Nat.le_refl _) _).alloc (by simp) _
 have hsz:w.heap.size+1<W0.heap.size:=by rw[← hW];simp
 have hsz0:w.heap.size<W0.heap.size:=by omega
 have c0:W0.cell? ⟨w.heap.size,0,none⟩=some (.bool neg):=by rw[← hW];simp
 have c1:W0.cell? ⟨w.heap.size,1,none⟩=some (.slice A n c):=by rw[← hW];simp
 have q0:W0.cell? ⟨w.heap.size+1,0,none⟩=some (.bool false):=by rw[← hW];simp
 have q1:W0.cell? ⟨w.heap.size+1,1,none⟩=some (.slice none 0 0):=by rw[← hW];simp
 have f0:W0.frozen? ⟨w.heap.size+1,0,none⟩=false:=by rw[← hW];simp
 have f1:W0.frozen? ⟨w.heap.size+1,1,none⟩=false:=by rw[← hW];simp
 clear hW
 have T:=Lib.hid (fun W hW=>trimmed_any A n c ds W (H.out.below (w':=W) hW) HM.out hc)
 have HB0:=Lib.hid hb0
 have S0:=Lib.hid (And.intro c0 c1)
 have Q0:=Lib.hid (And.intro q0 (And.intro q1 (And.intro f0 f1)))
 clear hb0 c0 c1 q0 q1 f0 f1
 go_region_held3 (fun w' => w'.cell? ⟨w.heap.size, 0, none⟩ = some (.bool neg) ∧ w'.cell? ⟨w.heap.size, 1, none⟩ = some (.slice A n c)) (first | exact S2.out | exact ⟨cell_ret S2.out.1 (by omega), cell_ret S2.out.2 (by omega)⟩ | exact S1.out | exact S0.out) (first
  |(go_at_call 140;refine(T.out _ HB0.out.drew).mono ?_;rintro e w8 ⟨rfl,rfl⟩)
  |(go_at_call 152;refine(clone_any A _ c (Dg.trim ds) _ (H.out.trim.below HB0.out.drew) (Nat.le_trans HT.out HL.out)).mono ?_;rintro e w1 ⟨A1,c1,rfl,hd1,hc1,hb1⟩;have HD1:=Lib.hid hd1;have HB1:=Lib.hid hb1;have S1:=Lib.hid (And.intro ((hb1.cell (p:=⟨w.heap.size,0,none⟩) hsz0).trans S0.out.1) ((hb1.cell (p:=⟨w.heap.size,1,none⟩) hsz0).trans S0.out.2));clear hd1 hb1)
  |(go_at_call 134;refine(signed_any (!neg) A1 _ c1 (Dg.trim ds) _ HD1.out (Nat.le_trans HT.out HM.out) hc1).mono ?_;rintro e w2 ⟨v,rfl,⟨neg2,A2,n2,c2,ds2,rfl,hd2⟩,hb2⟩;have HD2:=Lib.hid hd2;have hb12:=bel_ext HB1.out hb2;have S2:=Lib.hid (And.intro ((hb12.cell (p:=⟨w.heap.size,0,none⟩) hsz0).trans S0.out.1) ((hb12.cell (p:=⟨w.heap.size,1,none⟩) hsz0).trans S0.out.2));have r0:=(hb12.cell (p:=⟨w.heap.size+1,0,none⟩) hsz).trans Q0.out.1;have r1:=(hb12.cell (p:=⟨w.heap.size+1,1,none⟩) hsz).trans Q0.out.2.1;have g0:=(hb12.frozen (p:=⟨w.heap.size+1,0,none⟩) hsz).trans Q0.out.2.2.1;have g1:=(hb12.frozen (p:=⟨w.heap.size+1,1,none⟩) hsz).trans Q0.out.2.2.2;have HB2:=Lib.hid hb12;clear hd2 hb2 hb12))
 go_wp2
 have hbw:Below w.heap.size w w2:=(HB0.out.drew).trans (HB2.out.mono HB0.out.size)
 refine bodyPost_ret (v := .agg #[.bool neg2,.slice A2 n2 c2]) (by simp[results,Tryz.results110,go_sem,r0,r1]) rfl ⟨_,rfl,?_,bel_ret hbw (by omega)⟩
 have hN:NInt w2 (.agg #[.bool neg2,.slice A2 n2 c2]) (sgn (!neg) (Dg.val (Dg.trim ds))) (Dg.trim ds).length:=⟨neg2,A2,n2,c2,ds2,rfl,HD2.out⟩
 rw[Dg.val_trim,show sgn (!neg) (Dg.val ds) = -x from by rw[HX.out];cases neg <;> simp[sgn]]at hN
 exact(hN.mono (Nat.le_trans HT.out hn)).ret r0 r1
end Go.Proofs.YtkmbnldginonbaaGreat
/- The function Mul of package bigint: the product. The lengths are together at most 2^40. -/
namespace Go.Proofs.YtkmbnldginonbaaGreat
open Go.RowKit
theorem sgn_mul (p q:Bool) (a b:Nat):sgn (!(p == q)) (a*b)=sgn p a*sgn q b:=by
 cases p <;> cases q <;> simp[sgn,Int.neg_mul,Int.mul_neg]
theorem bel_undrew {w w':World} (h:Below w.drew.heap.size w.drew w'):Below w.heap.size w w':=⟨h.os,h.tape,h.output,h.size,h.block⟩
structure Boxes (w W : World) (a b c d e f : Value) : Prop where
 below:Below w.heap.size w W
 size:w.heap.size+1+1<W.heap.size
 a0:W.cell? ⟨w.heap.size,0,none⟩=some a
 a1:W.cell? ⟨w.heap.size,1,none⟩=some b
 b0:W.cell? ⟨w.heap.size+1,0,none⟩=some c
 b1:W.cell? ⟨w.heap.size+1,1,none⟩=some d
 c0:W.cell? ⟨w.heap.size+1+1,0,none⟩=some e
 c1:W.cell? ⟨w.heap.size+1+1,1,none⟩=some f
 f0:W.frozen? ⟨w.heap.size+1+1,0,none⟩=false
 f1:W.frozen? ⟨w.heap.size+1+1,1,none⟩=false
theorem boxes (w:World) (a b c d e f:Value) (t1 t2 t3:TypeId):Boxes w (((w.alloc (.cells #[a,b] t1)).alloc (.cells #[c,d] t2)).alloc (.cells #[e,f] t3)) a b c d e f:=by
 have h0:((w.alloc (.cells #[a,b] t1)).alloc (.cells #[c,d] t2)).heap.size=w.heap.size+1+1:=by simp
 have h1:(w.alloc (.cells #[a,b] t1)).heap.size=w.heap.size+1:=by simp
 have k1:(((w.alloc (.cells #[a,b] t1)).alloc (.cells #[c,d] t2)).alloc (.cells #[e,f] t3)).heap[w.heap.size]? = some (.cells #[a,b] t1 (0,0)):=by
  rw[Below.heap_alloc _ _ _ (by omega),Below.heap_alloc _ _ _ (by omega)];exact heap_alloc_new w _
 have k2:(((w.alloc (.cells #[a,b] t1)).alloc (.cells #[c,d] t2)).alloc (.cells #[e,f] t3)).heap[w.heap.size+1]? = some (.cells #[c,d] t2 (0,0)):=by
  rw[Below.heap_alloc _ _ _ (by omega),← h1];exact heap_alloc_new _ _
 have k3:(((w.alloc (.cells #[a,b] t1)).alloc (.cells #[c,d] t2)).alloc (.cells #[e,f] t3)).heap[w.heap.size+1+1]? = some (.cells #[e,f] t3 (0,0)):=by
  rw[← h0];exact heap_alloc_new _ _
 refine⟨(((Below.refl _ _).alloc (Nat.le_refl _) _).alloc (by omega) _).alloc (by omega) _,by simp,?_,?_,?_,?_,?_,?_,?_,?_⟩
 ·simp only[World.cell?,k1];rfl
 ·simp only[World.cell?,k1];rfl
 ·simp only[World.cell?,k2];rfl
 ·simp only[World.cell?,k2];rfl
 ·simp only[World.cell?,k3];rfl
 ·simp only[World.cell?,k3];rfl
 ·simp only[World.frozen?,k3];rfl
 ·simp only[World.frozen?,k3];rfl
theorem int_mul_any (v1 v2 : Value) (x y : Int) (L1 L2 : Nat) (w : World) (hv1 : RInt w v1 x L1) (hv2 : RInt w v2 y L2) (hL : L1 + L2 ≤ LIM) :
  Calls Tryz.prog 98 #[v1,v2] w fun e w'=>∃ v',e = .returned v'/\NInt w' v' (x*y) (L1+L2)/\Below w.heap.size w w':=by
 obtain⟨ng,A,n,c,ds,rfl,hd,hc,hn,hx⟩:=hv1
 obtain⟨nh,A',n',c',es,rfl,he,hc',hn',hy⟩:=hv2
 have hm:n≤maxLen:=by unfold maxLen;unfold LIM at hL;omega
 have hm':n'≤maxLen:=by unfold maxLen;unfold LIM at hL;omega
 have hle:(Dg.trim ds).length≤n:=by have:=trim_length ds;have:=hd.len;omega
 have hle':(Dg.trim es).length≤n':=by have:=trim_length es;have:=he.len;omega
 have H:=Lib.hid hd
 have K:=Lib.hid he
 have HX:=Lib.hid hx
 have HY:=Lib.hid hy
 have HL:=Lib.hid (show(Dg.trim ds).length+(Dg.trim es).length≤LIM by omega)
 have HT:=Lib.hid (show(Dg.trim ds).length+(Dg.trim es).length≤L1+L2 by omega)
 have HLL:=Lib.hid hL
 have T1:=Lib.hid (fun W hW=>trimmed_any A n c ds W (H.out.below (w':=W) hW) hm hc)
 have T2:=Lib.hid (fun W hW=>trimmed_any A' n' c' es W (K.out.below (w':=W) hW) hm' hc')
 clear hd he hx hy hm hm' hL hle hle'
 go_enter Tryz.func98,Tryz.ntmps98
 go_wp2_with fail
 have hbx:=boxes w (.bool ng) (.slice A n c) (.bool nh) (.slice A' n' c') (.bool false) (.slice none 0 0) 36 36 36
 generalize ((w.alloc (.cells #[.bool ng,.slice A n c] 36)).alloc (.cells #[.bool nh,.slice A' n' c'] 36)).alloc (.cells #[.bool false,.slice none 0 0] 36)=W0 at hbx ⊢
 obtain⟨hb0,hsz,c0,c1,c2,c3,q0,q1,f0,f1⟩:=hbx
 have hsz0:w.heap.size<W0.heap.size:=by omega
 have hsz1:w.heap.size+1<W0.heap.size:=by omega
 have HB0:=Lib.hid hb0
 have S0:=Lib.hid (And.intro c0 (And.intro c1 (And.intro c2 c3)))
 have Q0:=Lib.hid (And.intro q0 (And.intro q1 (And.intro f0 f1)))
 have SK:∀ w1:World,Below W0.heap.size W0 w1->w1.cell? ⟨w.heap.size,0,none⟩=some (.bool ng)/\w1.cell? ⟨w.heap.size,1,none⟩=some (.slice A n c)/\w1.cell? ⟨w.heap.size+1,0,none⟩=some (.bool nh)/\w1.cell? ⟨w.heap.size+1,1,none⟩=some (.slice A' n' c') :=
  fun w1 hb=>⟨(hb.cell (p:=⟨w.heap.size,0,none⟩) hsz0).trans c0,(hb.cell (p:=⟨w.heap.size,1,none⟩) hsz0).trans c1,(hb.cell (p:=⟨w.heap.size+1,0,none⟩) hsz1).trans c2,(hb.cell (p:=⟨w.heap.size+1,1,none⟩) hsz1).trans c3⟩
 have HSK:=Lib.hid SK
 clear hb0 c0 c1 c2 c3 q0 q1 f0 f1 SK
 go_region_held3 (fun w' => w'.cell? ⟨w.heap.size, 0, none⟩ = some (.bool ng) ∧ w'.cell? ⟨w.heap.size, 1, none⟩ = some (.slice A n c) ∧ w'.cell? ⟨w.heap.size + 1, 0, none⟩ = some (.bool nh) ∧ w'.cell? ⟨w.heap.size + 1, 1, none⟩ = some (.slice A' n' c')) (first | exact S2.out | exact ⟨cell_ret S2.out.1 (by omega), cell_ret S2.out.2.1 (by omega), cell_ret S2.out.2.2.1 (by omega), cell_ret S2.out.2.2.2 (by omega)⟩ | exact S1.out | exact S0.out) (first
  |(go_at_call 139;refine(times_any A A' _ c _ c' (Dg.trim ds) (Dg.trim es) _ (H.out.trim.below HB0.out.drew) (K.out.trim.below HB0.out.drew) HL.out).mono ?_;rintro e w1 ⟨v,rfl,⟨A1,n1,c1,fs,rfl,hd1,hc1,hn1,hv1⟩,hb1⟩;have HD1:=Lib.hid hd1;have HV1:=Lib.hid hv1;have hb1':=bel_undrew hb1;have HB1:=Lib.hid hb1';have S1:=Lib.hid (HSK.out w1 hb1');clear hd1 hb1 hb1' hv1)
  |(go_at_call 134;refine(signed_any (!(ng == nh)) A1 n1 c1 fs _ HD1.out (by have:=HLL.out;have:=HT.out;unfold LIM at *;unfold maxLen;omega) hc1).mono ?_;rintro e w2 ⟨v,rfl,⟨neg2,A2,n2,c2,ds2,rfl,hd2⟩,hb2⟩;have HD2:=Lib.hid hd2;have hb12:=bel_ext HB1.out hb2;have S2:=Lib.hid (HSK.out w2 hb12);have r0:=(hb12.cell (p:=⟨w.heap.size+1+1,0,none⟩) hsz).trans Q0.out.1;have r1:=(hb12.cell (p:=⟨w.heap.size+1+1,1,none⟩) hsz).trans Q0.out.2.1;have g0:=(hb12.frozen (p:=⟨w.heap.size+1+1,0,none⟩) hsz).trans Q0.out.2.2.1;have g1:=(hb12.frozen (p:=⟨w.heap.size+1+1,1,none⟩) hsz).trans Q0.out.2.2.2;have HB2:=Lib.hid hb12;clear hd2 hb2 hb12)
  |(go_at_call_of 140 (Value.slice A n c);refine(T1.out _ HB0.out.drew).mono ?_;rintro e w8 ⟨rfl,rfl⟩)
  |(go_at_call 140;refine(T2.out _ HB0.out.drew).mono ?_;rintro e w8 ⟨rfl,rfl⟩))
 go_wp2
 have hbw:Below w.heap.size w w2:=HB0.out.trans (HB2.out.mono HB0.out.size)
 refine bodyPost_ret (v := .agg #[.bool neg2,.slice A2 n2 c2]) (by simp[results,Tryz.results98,go_sem,r0,r1]) rfl ⟨_,rfl,?_,bel_ret hbw (by omega)⟩
 have hN:NInt w2 (.agg #[.bool neg2,.slice A2 n2 c2]) (sgn (!(ng == nh)) (Dg.val fs)) n1:=⟨neg2,A2,n2,c2,ds2,rfl,HD2.out⟩
 rw[HV1.out,Dg.val_trim,Dg.val_trim,sgn_mul,← HX.out,← HY.out]at hN
 exact(hN.mono (Nat.le_trans hn1 HT.out)).ret r0 r1
end Go.Proofs.YtkmbnldginonbaaGreat
/- The function add of package bigint: the sum of an integer and of another one that is given by its sign and digits. The lengths are at most 2^39. -/
namespace Go.Proofs.YtkmbnldginonbaaGreat
open Go.RowKit
theorem sgn_add (p:Bool) (a b:Nat):sgn p (a+b)=sgn p a+sgn p b:=by cases p <;> simp[sgn] <;> omega
theorem sgn_sub {p q:Bool} (h:p≠q) {a b o:Nat} (ho:o+b=a):sgn p o=sgn p a+sgn q b:=by
 subst ho
 cases p <;> cases q <;> simp[sgn]at h ⊢ <;> omega
structure Boxes2 (w W : World) (a b e f : Value) : Prop where
 below:Below w.heap.size w W
 size:w.heap.size+1<W.heap.size
 a0:W.cell? ⟨w.heap.size,0,none⟩=some a
 a1:W.cell? ⟨w.heap.size,1,none⟩=some b
 c0:W.cell? ⟨w.heap.size+1,0,none⟩=some e
 c1:W.cell? ⟨w.heap.size+1,1,none⟩=some f
 f0:W.frozen? ⟨w.heap.size+1,0,none⟩=false
 f1:W.frozen? ⟨w.heap.size+1,1,none⟩=false
theorem boxes2 (w:World) (a b e f:Value) (t1 t3:TypeId):Boxes2 w ((w.alloc (.cells #[a,b] t1)).alloc (.cells #[e,f] t3)) a b e f:=by
 have h1:(w.alloc (.cells #[a,b] t1)).heap.size=w.heap.size+1:=by simp
 have k1:((w.alloc (.cells #[a,b] t1)).alloc (.cells #[e,f] t3)).heap[w.heap.size]? = some (.cells #[a,b] t1 (0,0)):=by
  rw[Below.heap_alloc _ _ _ (by omega)];exact heap_alloc_new w _
 have k3:((w.alloc (.cells #[a,b] t1)).alloc (.cells #[e,f] t3)).heap[w.heap.size+1]? = some (.cells #[e,f] t3 (0,0)):=by
  rw[← h1];exact heap_alloc_new _ _
 refine⟨((Below.refl _ _).alloc (Nat.le_refl _) _).alloc (by omega) _,by simp,?_,?_,?_,?_,?_,?_⟩
 ·simp only[World.cell?,k1];rfl
 ·simp only[World.cell?,k1];rfl
 ·simp only[World.cell?,k3];rfl
 ·simp only[World.cell?,k3];rfl
 ·simp only[World.frozen?,k3];rfl
 ·simp only[World.frozen?,k3];rfl
theorem add_any (v1 : Value) (x : Int) (L1 : Nat) (ng2 : Bool) (A' : Option Addr) (n' c' : Nat) (es : List Nat) (w : World) (hv1 : RInt w v1 x L1) (he : Dig w A' n' es) (te : Dg.trimmed es) (hL1 : L1 ≤ LIM) (hL2 : n' ≤ LIM) :
  Calls Tryz.prog 160 #[v1,.bool ng2,.slice A' n' c'] w fun e w'=>∃ v',e = .returned v'/\NInt w' v' (x+sgn ng2 (Dg.val es)) (max L1 n'+1)/\Below w.heap.size w w':=by
 obtain⟨ng,A,n,c,ds,rfl,hd,hc,hn,hx⟩:=hv1
 have hm:n≤maxLen:=by unfold maxLen;unfold LIM at hL1;omega
 have hm':n'≤maxLen:=by unfold maxLen;unfold LIM at hL2;omega
 have hle:(Dg.trim ds).length≤n:=by have:=trim_length ds;have:=hd.len;omega
 have H:=Lib.hid hd
 have K:=Lib.hid he
 have HX:=Lib.hid hx
 have T1:=Lib.hid (fun W hW=>trimmed_any A n c ds W (H.out.below (w':=W) hW) hm hc)
 have HT:=Lib.hid hle
 have HN:=Lib.hid (Nat.le_trans hle hn)
 have HL1:=Lib.hid hL1
 have HL2:=Lib.hid hL2
 have HTE:=Lib.hid te
 have HM:=Lib.hid hm
 have HM':=Lib.hid hm'
 have hbx:=boxes2 w (.bool ng) (.slice A n c) (.bool false) (.slice none 0 0) 36 36
 by_cases hs:ng=ng2
 ·subst hs
  clear hd he hx hm hm' hle hn hL1 hL2 te
  go_enter Tryz.func160,Tryz.ntmps160
  go_wp2_with fail
  generalize (w.alloc (.cells #[.bool ng,.slice A n c] 36)).alloc (.cells #[.bool false,.slice none 0 0] 36)=W0 at hbx ⊢
  obtain⟨hb0,hsz,c0,c1,q0,q1,f0,f1⟩:=hbx
  have HB0:=Lib.hid hb0
  have Q0:=Lib.hid (And.intro q0 (And.intro q1 (And.intro f0 f1)))
  clear hb0 q0 q1 f0 f1
  refine(T1.out _ HB0.out).mono ?_
  rintro e w8 ⟨rfl,rfl⟩
  go_wp2_with fail
  refine(plus_any _ _ _ _ _ _ (Dg.trim ds) es _ (H.out.trim.below HB0.out) (K.out.below HB0.out) (Nat.le_trans HN.out HL1.out) HL2.out).mono ?_
  rintro e w1 ⟨g,m,o,rfl,hm1,hd1,hv1,hb1⟩
  have HD1:=Lib.hid hd1
  have HV1:=Lib.hid hv1
  have HM1:=Lib.hid hm1
  clear hd1 hv1 hm1
  go_wp2_with fail
  refine(signed_any ng _ _ _ o _ HD1.out (by have:=HM1.out;have:=HN.out;have:=HL1.out;have:=HL2.out;unfold LIM at *;unfold maxLen;omega) (Nat.le_refl _)).mono ?_
  rintro e w2 ⟨v,rfl,⟨neg2,A2,n2,c2,ds2,rfl,hd2⟩,hb2⟩
  have HD2:=Lib.hid hd2
  have hb12:=bel_ext hb1 hb2
  have r0:=(hb12.cell (p:=⟨w.heap.size+1,0,none⟩) hsz).trans Q0.out.1
  have r1:=(hb12.cell (p:=⟨w.heap.size+1,1,none⟩) hsz).trans Q0.out.2.1
  have g0:=(hb12.frozen (p:=⟨w.heap.size+1,0,none⟩) hsz).trans Q0.out.2.2.1
  have g1:=(hb12.frozen (p:=⟨w.heap.size+1,1,none⟩) hsz).trans Q0.out.2.2.2
  have HB2:=Lib.hid hb12
  clear hd2 hb2 hb12 hb1 c0 c1
  go_wp2
  have hbw:Below w.heap.size w w2:=HB0.out.trans (HB2.out.mono HB0.out.size)
  refine bodyPost_ret (v := .agg #[.bool neg2,.slice A2 n2 c2]) (by simp[results,Tryz.results160,go_sem,r0,r1]) rfl ⟨_,rfl,?_,bel_ret hbw (by omega)⟩
  have hN:NInt w2 (.agg #[.bool neg2,.slice A2 n2 c2]) (sgn ng (Dg.val o)) m:=⟨neg2,A2,n2,c2,ds2,rfl,HD2.out⟩
  rw[HV1.out,Dg.val_trim,sgn_add,← HX.out]at hN
  exact(hN.mono (by have:=HM1.out;have:=HN.out;omega)).ret r0 r1
 ·have hsb:(ng == ng2)=false:=by simpa using hs
  have HS:=Lib.hid hs
  have hva:Dg.val (Dg.trim ds)=Dg.val ds:=Dg.val_trim ds
  have hlen1:=Dg.val_lt (Dg.ok_trim hd.ok)
  have hlen2:=Dg.val_lt he.ok
  rw[← he.len]at hlen2
  obtain⟨C,hC⟩:∃ C:Int,C=cmpN (Dg.val (Dg.trim ds)) (Dg.val es):=⟨_,rfl⟩
  have HC:=Lib.hid (fun W hW=>compare_any A A' _ c n' c' (Dg.trim ds) es W (H.out.trim.below (w':=W) hW) (K.out.below hW) (Dg.trim_trimmed ds) te (Nat.le_trans hle hm) hm')
  rw[← hC]at HC
  rcases Nat.lt_or_ge (Dg.val (Dg.trim ds)) (Dg.val es)with hlt | hge
  ·have hll:(Dg.trim ds).length≤n':=by
    refine Dg.length_le_of_val (Dg.trim_trimmed ds) (Nat.lt_trans hlt hlen2)
   have hC1:C = -1:=by rw[hC];exact cmpN_lt hlt
   subst hC1
   have HLT:=Lib.hid hlt
   have HLL:=Lib.hid hll
   clear hd he hx hm hm' hle hn hL1 hL2 te hs hva hlen1 hlen2 hC hlt hll
   go_enter Tryz.func160,Tryz.ntmps160
   go_wp2_with fail
   generalize (w.alloc (.cells #[.bool ng,.slice A n c] 36)).alloc (.cells #[.bool false,.slice none 0 0] 36)=W0 at hbx ⊢
   obtain⟨hb0,hsz,c0,c1,q0,q1,f0,f1⟩:=hbx
   have HB0:=Lib.hid hb0
   have Q0:=Lib.hid (And.intro q0 (And.intro q1 (And.intro f0 f1)))
   clear hb0 q0 q1 f0 f1
   refine(T1.out _ HB0.out).mono ?_
   rintro e w8 ⟨rfl,rfl⟩
   go_wp2_with fail
   refine(HC.out _ HB0.out).mono ?_
   rintro e w3 ⟨rfl,hb3⟩
   have hb03:=bel_ext HB0.out hb3
   go_wp2_with fail
   refine(less_any _ _ _ _ _ _ es (Dg.trim ds) _ (K.out.below hb03) (H.out.trim.below hb03) HL2.out HLL.out (Nat.le_of_lt HLT.out)).mono ?_
   rintro e w1 ⟨g,o,rfl,hd1,hv1,hb1⟩
   have HD1:=Lib.hid hd1
   have HV1:=Lib.hid hv1
   clear hd1 hv1
   go_wp2_with fail
   refine(signed_any ng2 _ _ _ o _ HD1.out HM'.out (Nat.le_refl _)).mono ?_
   rintro e w2 ⟨v,rfl,⟨neg2,A2,n2,c2,ds2,rfl,hd2⟩,hb2⟩
   have HD2:=Lib.hid hd2
   have hb12:=bel_ext hb3 (bel_ext hb1 hb2)
   have r0:=(hb12.cell (p:=⟨w.heap.size+1,0,none⟩) hsz).trans Q0.out.1
   have r1:=(hb12.cell (p:=⟨w.heap.size+1,1,none⟩) hsz).trans Q0.out.2.1
   have g0:=(hb12.frozen (p:=⟨w.heap.size+1,0,none⟩) hsz).trans Q0.out.2.2.1
   have g1:=(hb12.frozen (p:=⟨w.heap.size+1,1,none⟩) hsz).trans Q0.out.2.2.2
   have HB2:=Lib.hid hb12
   clear hd2 hb2 hb12 hb1 c0 c1 hb3 hb03
   go_wp2
   have hbw:Below w.heap.size w w2:=HB0.out.trans (HB2.out.mono HB0.out.size)
   refine bodyPost_ret (v := .agg #[.bool neg2,.slice A2 n2 c2]) (by simp[results,Tryz.results160,go_sem,r0,r1]) rfl ⟨_,rfl,?_,bel_ret hbw (by omega)⟩
   have hN:NInt w2 (.agg #[.bool neg2,.slice A2 n2 c2]) (sgn ng2 (Dg.val o)) n':=⟨neg2,A2,n2,c2,ds2,rfl,HD2.out⟩
   rw[sgn_sub (Ne.symm HS.out) HV1.out,Dg.val_trim,← HX.out,Int.add_comm]at hN
   exact(hN.mono (by omega)).ret r0 r1
  ·have hll:n'≤(Dg.trim ds).length:=by
    have:=Dg.length_le_of_val te (Nat.lt_of_le_of_lt hge hlen1)
    rw[he.len];exact this
   have hC1:0≤C:=by
    rw[hC]
    rcases Nat.lt_or_ge (Dg.val es) (Dg.val (Dg.trim ds))with h | h
    ·rw[cmpN_gt h];omega
    ·have:Dg.val (Dg.trim ds)=Dg.val es:=by omega
     rw[this,cmpN_self];omega
   have hdC:decide (0≤C)=true:=by simp;omega
   have HGE:=Lib.hid hge
   have HLL:=Lib.hid hll
   clear hd he hx hm hm' hle hn hL1 hL2 te hs hva hlen1 hlen2 hC hge hll
   go_enter Tryz.func160,Tryz.ntmps160
   go_wp2_with fail
   generalize (w.alloc (.cells #[.bool ng,.slice A n c] 36)).alloc (.cells #[.bool false,.slice none 0 0] 36)=W0 at hbx ⊢
   obtain⟨hb0,hsz,c0,c1,q0,q1,f0,f1⟩:=hbx
   have HB0:=Lib.hid hb0
   have Q0:=Lib.hid (And.intro q0 (And.intro q1 (And.intro f0 f1)))
   clear hb0 q0 q1 f0 f1 c1
   refine(T1.out _ HB0.out).mono ?_
   rintro e w8 ⟨rfl,rfl⟩
   go_wp2_with fail
   refine(HC.out _ HB0.out).mono ?_
   rintro e w3 ⟨rfl,hb3⟩
   have hb03:=bel_ext HB0.out hb3
   have hsz0:w.heap.size<W0.heap.size:=by omega
   have HSK:=Lib.hid (fun(W:World) (hb:Below W0.heap.size W0 W)=>(hb.cell (p:=⟨w.heap.size,0,none⟩) hsz0).trans c0)
   have HB03:=Lib.hid hb03
   have HB3:=Lib.hid hb3
   have S0:=Lib.hid (HSK.out w3 hb3)
   have c0':=S0.out
   clear hb03 hb3 c0
   go_wp2_with fail
   have c0':=S0.out
   go_region_held3 (fun w' => w'.cell? ⟨w.heap.size, 0, none⟩ = some (.bool ng)) (first | exact S2.out | exact cell_ret S2.out (by omega) | exact S1.out | exact S0.out) (first
    |(go_at_call 171;refine(less_any _ _ _ _ _ _ (Dg.trim ds) es _ (H.out.trim.below HB03.out.drew) (K.out.below HB03.out.drew) (Nat.le_trans HN.out HL1.out) HLL.out HGE.out).mono ?_;rintro e w1 ⟨g,o,rfl,hd1,hv1,hb1⟩;have hb1':=bel_ext HB3.out (bel_undrew hb1);have HD1:=Lib.hid hd1;have HV1:=Lib.hid hv1;have HB1:=Lib.hid hb1';have S1:=Lib.hid (HSK.out w1 hb1');clear hd1 hb1 hb1' hv1)
    |(go_at_call 134;refine(signed_any ng _ _ _ o _ HD1.out (Nat.le_trans HT.out HM.out) (Nat.le_refl _)).mono ?_;rintro e w2 ⟨v,rfl,⟨neg2,A2,n2,c2,ds2,rfl,hd2⟩,hb2⟩;have HD2:=Lib.hid hd2;have hb12:=bel_ext HB1.out hb2;have S2:=Lib.hid (HSK.out w2 hb12);have r0:=(hb12.cell (p:=⟨w.heap.size+1,0,none⟩) hsz).trans Q0.out.1;have r1:=(hb12.cell (p:=⟨w.heap.size+1,1,none⟩) hsz).trans Q0.out.2.1;have g0:=(hb12.frozen (p:=⟨w.heap.size+1,0,none⟩) hsz).trans Q0.out.2.2.1;have g1:=(hb12.frozen (p:=⟨w.heap.size+1,1,none⟩) hsz).trans Q0.out.2.2.2;have HB2:=Lib.hid hb12;clear hd2 hb2 hb12))
   go_wp2
   have hbw:Below w.heap.size w w2:=HB0.out.trans (HB2.out.mono HB0.out.size)
   refine bodyPost_ret (v := .agg #[.bool neg2,.slice A2 n2 c2]) (by simp[results,Tryz.results160,go_sem,r0,r1]) rfl ⟨_,rfl,?_,bel_ret hbw (by omega)⟩
   have hN:NInt w2 (.agg #[.bool neg2,.slice A2 n2 c2]) (sgn ng (Dg.val o)) (Dg.trim ds).length:=⟨neg2,A2,n2,c2,ds2,rfl,HD2.out⟩
   rw[sgn_sub HS.out HV1.out,Dg.val_trim,← HX.out]at hN
   exact(hN.mono (by have:=HN.out;omega)).ret r0 r1
end Go.Proofs.YtkmbnldginonbaaGreat
/- The functions Add and Sub of package bigint: the sum and the difference. The lengths are at most 2^40. -/
namespace Go.Proofs.YtkmbnldginonbaaGreat
open Go.RowKit
theorem int_add_any (v1 v2 : Value) (x y : Int) (L1 L2 : Nat) (w : World) (hv1 : RInt w v1 x L1) (hv2 : RInt w v2 y L2) (hL1 : L1 ≤ LIM) (hL2 : L2 ≤ LIM) :
  Calls Tryz.prog 133 #[v1,v2] w fun e w'=>∃ v',e = .returned v'/\NInt w' v' (x+y) (max L1 L2+1)/\Below w.heap.size w w':=by
 have hr1:=hv1
 obtain⟨ng,A,n,c,ds,rfl,hd,hc,hn,hx⟩:=hv1
 obtain⟨nh,A',n',c',es,rfl,he,hc',hn',hy⟩:=hv2
 have hm':n'≤maxLen:=by unfold maxLen;unfold LIM at hL2;omega
 have hle':(Dg.trim es).length≤n':=by have:=trim_length es;have:=he.len;omega
 have R1:=Lib.hid hr1
 have K:=Lib.hid he
 have HY:=Lib.hid hy
 have HT:=Lib.hid (show(Dg.trim es).length≤L2 by omega)
 have HL1:=Lib.hid hL1
 have HL2:=Lib.hid (show(Dg.trim es).length≤LIM by omega)
 have T2:=Lib.hid (fun W hW=>trimmed_any A' n' c' es W (K.out.below (w':=W) hW) hm' hc')
 clear hd he hx hy hm' hle' hL1 hL2 hr1
 have hbx:=boxes w (.bool ng) (.slice A n c) (.bool nh) (.slice A' n' c') (.bool false) (.slice none 0 0) 36 36 36
 go_enter Tryz.func133,Tryz.ntmps133
 go_wp2_with fail
 generalize ((w.alloc (.cells #[.bool ng,.slice A n c] 36)).alloc (.cells #[.bool nh,.slice A' n' c'] 36)).alloc (.cells #[.bool false,.slice none 0 0] 36)=W0 at hbx ⊢
 obtain⟨hb0,hsz,c0,c1,c2,c3,q0,q1,f0,f1⟩:=hbx
 have hsz0:w.heap.size<W0.heap.size:=by omega
 have hsz1:w.heap.size+1<W0.heap.size:=by omega
 have HB0:=Lib.hid hb0
 have S0:=Lib.hid (And.intro c0 (And.intro c1 (And.intro c2 c3)))
 have Q0:=Lib.hid (And.intro q0 (And.intro q1 (And.intro f0 f1)))
 have SK:∀ w1:World,Below W0.heap.size W0 w1->w1.cell? ⟨w.heap.size,0,none⟩=some (.bool ng)/\w1.cell? ⟨w.heap.size,1,none⟩=some (.slice A n c)/\w1.cell? ⟨w.heap.size+1,0,none⟩=some (.bool nh)/\w1.cell? ⟨w.heap.size+1,1,none⟩=some (.slice A' n' c') :=
  fun w1 hb=>⟨(hb.cell (p:=⟨w.heap.size,0,none⟩) hsz0).trans c0,(hb.cell (p:=⟨w.heap.size,1,none⟩) hsz0).trans c1,(hb.cell (p:=⟨w.heap.size+1,0,none⟩) hsz1).trans c2,(hb.cell (p:=⟨w.heap.size+1,1,none⟩) hsz1).trans c3⟩
 have HSK:=Lib.hid SK
 clear hb0 c0 c1 c2 c3 q0 q1 f0 f1 SK
 go_region_held3 (fun w' => w'.cell? ⟨w.heap.size, 0, none⟩ = some (.bool ng) ∧ w'.cell? ⟨w.heap.size, 1, none⟩ = some (.slice A n c) ∧ w'.cell? ⟨w.heap.size + 1, 0, none⟩ = some (.bool nh) ∧ w'.cell? ⟨w.heap.size + 1, 1, none⟩ = some (.slice A' n' c')) (first | exact S2.out | exact ⟨cell_ret S2.out.1 (by omega), cell_ret S2.out.2.1 (by omega), cell_ret S2.out.2.2.1 (by omega), cell_ret S2.out.2.2.2 (by omega)⟩ | exact S0.out) (first
  |(go_at_call 160;refine(add_any _ x L1 nh A' _ c' (Dg.trim es) _ (R1.out.below HB0.out.drew) (K.out.trim.below HB0.out.drew) (Dg.trim_trimmed es) HL1.out HL2.out).mono ?_;rintro e w2 ⟨v,rfl,⟨neg2,A2,n2,c2,ds2,rfl,hd2⟩,hb2⟩;have HD2:=Lib.hid hd2;have hb12:=bel_undrew hb2;have S2:=Lib.hid (HSK.out w2 hb12);have r0:=(hb12.cell (p:=⟨w.heap.size+1+1,0,none⟩) hsz).trans Q0.out.1;have r1:=(hb12.cell (p:=⟨w.heap.size+1+1,1,none⟩) hsz).trans Q0.out.2.1;have g0:=(hb12.frozen (p:=⟨w.heap.size+1+1,0,none⟩) hsz).trans Q0.out.2.2.1;have g1:=(hb12.frozen (p:=⟨w.heap.size+1+1,1,none⟩) hsz).trans Q0.out.2.2.2;have HB2:=Lib.hid hb12;clear hd2 hb2 hb12)
  |(go_at_call 140;refine(T2.out _ HB0.out.drew).mono ?_;rintro e w8 ⟨rfl,rfl⟩))
 go_wp2
 have hbw:Below w.heap.size w w2:=HB0.out.trans (HB2.out.mono HB0.out.size)
 refine bodyPost_ret (v := .agg #[.bool neg2,.slice A2 n2 c2]) (by simp[results,Tryz.results133,go_sem,r0,r1]) rfl ⟨_,rfl,?_,bel_ret hbw (by omega)⟩
 have hN:NInt w2 (.agg #[.bool neg2,.slice A2 n2 c2]) (x+sgn nh (Dg.val (Dg.trim es))) (max L1 (Dg.trim es).length+1):=⟨neg2,A2,n2,c2,ds2,rfl,HD2.out⟩
 rw[Dg.val_trim,← HY.out]at hN
 exact(hN.mono (by have:=HT.out;omega)).ret r0 r1
end Go.Proofs.YtkmbnldginonbaaGreat
/- The function common of package bigint: the greatest common divisor by digits. The lengths are below 2^40. -/
namespace Go.Proofs.YtkmbnldginonbaaGreat
open Go.RowKit
set_option maxRecDepth 100000 in
theorem common_any (A A' : Option Addr) (n c n' c' L : Nat) (a b : List Nat) (w : World) (ha : Dig w A n a) (hb : Dig w A' n' b) (ta : Dg.trimmed a) (tb : Dg.trimmed b) (hn : n ≤ L) (hn' : n' ≤ L) (hL : L + 1 ≤ LIM) :
  Calls Tryz.prog 161 #[.slice A n c,.slice A' n' c'] w fun e w'=>∃ v,e = .returned v/\IsDig w' v (Nat.gcd (Dg.val a) (Dg.val b)) L/\Below w.heap.size w w':=by
 have HA:=Lib.hid ha
 have HB:=Lib.hid hb
 have TA:=Lib.hid ta
 have TB:=Lib.hid tb
 have HLL:=Lib.hid hL
 have hLi:(L:Int)≤2^40:=by unfold LIM at hL;omega
 clear ha hb ta tb hL
 go_enter Tryz.func161,Tryz.ntmps161
 go_wp2
 go_loopg [0,1] (Dg.val b) (fun k x y wr=>∃(A1 A2:Option Addr) (n1 c1 n2 c2:Nat) (a1 b1:List Nat),x = .slice A1 n1 c1/\y = .slice A2 n2 c2/\Dig wr A1 n1 a1/\Dig wr A2 n2 b1/\Dg.trimmed a1/\Dg.trimmed b1/\n1≤L/\n2≤L/\Hid (k=Dg.val b1)/\Hid (Nat.gcd (Dg.val a1) (Dg.val b1)=Nat.gcd (Dg.val a) (Dg.val b))/\Below w.heap.size w wr)
 case atStart=>exact⟨A,A',n,c,n',c',a,b,rfl,rfl,HA.out,HB.out,TA.out,TB.out,hn,hn',rfl,rfl,Below.refl _ _⟩
 case round =>
  obtain⟨A1,A2,n1,c1,n2,c2,a1,b1,rfl,rfl,hd1,hd2,t1,t2,hn1,hn2,HK,HG,hbw⟩:=hrel
  have H1:=Lib.hid hd1
  have H2:=Lib.hid hd2
  have T1:=Lib.hid t1
  have T2:=Lib.hid t2
  clear hd1 hd2 t1 t2
  by_cases h0:n2=0
  ·subst h0
   have hb1:b1=[]:=List.length_eq_zero_iff.1 H2.out.len.symm
   have HBe:=Lib.hid hb1
   clear hb1
   go_wp2_with (go_at_call 152;refine(clone_any A1 n1 c1 a1 _ H1.out (by have:=HLL.out;omega)).mono ?_;rintro e w1 ⟨A3,c3,rfl,hd3,hc3,hb3⟩;have H3:=Lib.hid hd3;clear hd3)
   go_ret
   refine⟨_,rfl,⟨A3,n1,c3,a1,rfl,H3.out,hc3,hn1,T1.out,?_⟩,bel_ext hbw hb3⟩
   have:=HG.out
   rw[HBe.out]at this
   rw[← this];simp[Dg.val]
  ·have hpos:0<Dg.val b1:=by
    rcases Nat.eq_zero_or_pos (Dg.val b1)with h | h
    ·have:=(Dg.val_eq_zero T2.out).1 h
     have h5:=H2.out.len
     rw[this]at h5;exact absurd h5 h0
    ·exact h
   have HP:=Lib.hid hpos
   have hdp:decide (0<(n2:Int))=true:=by simp;omega
   have hdp':decide (0<n2)=true:=by simp;omega
   clear hpos
   by_cases hw:n1≤2/\n2≤2
   ·obtain⟨hw1,hw2⟩:=hw
    have hd1':decide ((n1:Int)≤2)=true:=by simp;omega
    have hd2':decide ((n2:Int)≤2)=true:=by simp;omega
    have hv1:Dg.val a1<Dg.B*Dg.B:=by
     have h1:=Dg.val_lt H1.out.ok
     rw[← H1.out.len]at h1
     have h2:Dg.B^n1≤Dg.B^2:=Nat.pow_le_pow_right Dg.B_pos hw1
     rw[Nat.pow_two]at h2;omega
    have hv2:Dg.val b1<Dg.B*Dg.B:=by
     have h1:=Dg.val_lt H2.out.ok
     rw[← H2.out.len]at h1
     have h2:Dg.B^n2≤Dg.B^2:=Nat.pow_le_pow_right Dg.B_pos hw2
     rw[Nat.pow_two]at h2;omega
    have hgL:Nat.gcd (Dg.val a) (Dg.val b)<Dg.B^L:=by
     have h1:=Dg.val_lt H2.out.ok
     rw[← H2.out.len]at h1
     have h2:Dg.B^n2≤Dg.B^L:=Nat.pow_le_pow_right Dg.B_pos hn2
     have h3:=Nat.gcd_le_right (Dg.val a1) HP.out
     rw[HG.out]at h3;omega
    have HV1:=Lib.hid hv1
    have HV2:=Lib.hid hv2
    have HGL:=Lib.hid hgL
    clear hv1 hv2 hgL
    go_wp2_with fail
    refine(word_any A1 n1 c1 a1 _ H1.out hw1).mono ?_
    rintro e w1 ⟨rfl,hb1⟩
    go_wp2_with fail
    refine(word_any A2 n2 c2 b1 _ (H2.out.below hb1) hw2).mono ?_
    rintro e w2 ⟨rfl,hb2⟩
    have hbw2:=bel_ext hbw (bel_ext hb1 hb2)
    clear hbw hb1 hb2 hd1' hd2' hw1 hw2
    go_wp2_with fail
    go_loopg [5,6] (Dg.val b1) (fun k x y wr=>∃ X Y:Nat,x = .int .u64 X/\y = .int .u64 Y/\Hid (k=Y)/\Hid (X<Dg.B*Dg.B/\Y<Dg.B*Dg.B)/\Hid (Nat.gcd X Y=Nat.gcd (Dg.val a) (Dg.val b))/\Below w.heap.size w wr)
    case atStart=>exact⟨_,_,rfl,rfl,rfl,⟨HV1.out,HV2.out⟩,HG.out,hbw2⟩
    case round =>
     clear hbw2
     obtain⟨X,Y,rfl,rfl,HKi,HXY,HGi,hbi⟩:=hrel
     by_cases hy:Y=0
     ·subst hy
      go_wp2_with (go_at_call 135;refine(wide_any X _ HXY.out.1).mono ?_;rintro e w3 ⟨v,rfl,hv,hb3⟩;have HV:=Lib.hid hv;clear hv)
      go_ret
      have hg:=HGi.out
      rw[Nat.gcd_zero_right]at hg
      exact⟨_,rfl,by rw[← hg];exact HV.out.tight (by rw[hg];exact HGL.out),bel_ext hbi hb3⟩
     ·obtain⟨XI,hXI⟩:∃ x:Int,x=X:=⟨_,rfl⟩
      obtain⟨YI,hYI⟩:∃ x:Int,x=Y:=⟨_,rfl⟩
      obtain⟨r,hr⟩:∃ r,r=X%Y:=⟨_,rfl⟩
      have hX0:0≤XI:=by omega
      have hY0:1≤YI:=by omega
      have hr2:XI%YI=(r:Int):=by rw[hXI,hYI,hr,Int.natCast_emod]
      have hr3:XI.tmod YI=(r:Int):=by rw[Int.tmod_eq_emod_of_nonneg hX0];exact hr2
      have hyb:(YI != 0)=true:=by rw[bne_iff_ne];omega
      rw[← hXI,← hYI]
      have HXI:=Lib.hid hXI
      have HYI:=Lib.hid hYI
      have HR:=Lib.hid hr
      have HYn:=Lib.hid (Nat.pos_of_ne_zero hy)
      clear hXI hYI hr hy
      go_wp2
      go_quiet (fail)
      go_wp2
      go_roundg r
      case measure=>rw[HKi.out,HR.out];exact Nat.mod_lt _ HYn.out
      case rel=>exact⟨Y,r,by rw[HYI.out],by first | rfl | rw[hr2],rfl,⟨HXY.out.2,Nat.lt_trans (by rw[HR.out];exact Nat.mod_lt _ HYn.out) HXY.out.2⟩,by show _=_;rw[HR.out,← HGi.out,Nat.gcd_comm,← Nat.gcd_rec,Nat.gcd_comm],bel_drewN hbi _⟩
   ·obtain⟨bb,hbb⟩:∃ bb:Bool,decide ((n1:Int)≤2)=bb:=⟨_,rfl⟩
    have hbb':bb=true->decide ((n2:Int)≤2)=false:=by
     rintro rfl;simp at hbb ⊢;omega
    clear hw
    rcases bb with _ | _
    case' true=>have hbb2:=hbb' rfl
    all_goals
     clear hbb'
     go_wp2_with (go_at_call 173;refine(divide_any A1 A2 n1 c1 n2 c2 a1 b1 _ H1.out H2.out T1.out T2.out (by have:=HLL.out;omega) (by have:=HLL.out;omega) HP.out).mono ?_;rintro e w1 ⟨v1,v2,rfl,hq,⟨A3,n3,c3,r,rfl,hd3,hc3,hn3,t3,hv3⟩,hb3⟩;have H3:=Lib.hid hd3;have HV3:=Lib.hid hv3;clear hd3 hv3 hq)
     go_roundg (Dg.val r)
     case measure=>rw[HV3.out,HK.out];exact Nat.mod_lt _ HP.out
     case rel=>exact⟨_,_,_,_,_,_,_,_,rfl,rfl,H2.out.below hb3,H3.out,T2.out,t3,hn2,by omega,rfl,by show _=_;rw[HV3.out,← HG.out,Nat.gcd_comm,← Nat.gcd_rec,Nat.gcd_comm],bel_ext hbw hb3⟩
end Go.Proofs.YtkmbnldginonbaaGreat
/- The function Gcd of package bigint: the greatest common divisor. The lengths are below 2^40. -/
namespace Go.Proofs.YtkmbnldginonbaaGreat
open Go.RowKit
theorem int_gcd_any (v1 v2 : Value) (x y : Int) (L1 L2 : Nat) (w : World) (hv1 : RInt w v1 x L1) (hv2 : RInt w v2 y L2) (hL1 : L1 + 1 ≤ LIM) (hL2 : L2 + 1 ≤ LIM) :
  Calls Tryz.prog 137 #[v1,v2] w fun e w'=>∃ v',e = .returned v'/\NInt w' v' (Nat.gcd x.natAbs y.natAbs) (max L1 L2)/\Below w.heap.size w w':=by
 obtain⟨ng,A,n,c,ds,rfl,hd,hc,hn,hx⟩:=hv1
 obtain⟨nh,A',n',c',es,rfl,he,hc',hn',hy⟩:=hv2
 have hm:n≤maxLen:=by unfold maxLen;unfold LIM at hL1;omega
 have hm':n'≤maxLen:=by unfold maxLen;unfold LIM at hL2;omega
 have hle:(Dg.trim ds).length≤n:=by have:=trim_length ds;have:=hd.len;omega
 have hle':(Dg.trim es).length≤n':=by have:=trim_length es;have:=he.len;omega
 have H:=Lib.hid hd
 have K:=Lib.hid he
 have HX:=Lib.hid hx
 have HY:=Lib.hid hy
 have HT1:=Lib.hid (show(Dg.trim ds).length≤max L1 L2 by omega)
 have HT2:=Lib.hid (show(Dg.trim es).length≤max L1 L2 by omega)
 have HLL:=Lib.hid (show max L1 L2+1≤LIM by omega)
 have T1:=Lib.hid (fun W hW=>trimmed_any A n c ds W (H.out.below (w':=W) hW) hm hc)
 have T2:=Lib.hid (fun W hW=>trimmed_any A' n' c' es W (K.out.below (w':=W) hW) hm' hc')
 clear hd he hx hy hm hm' hL1 hL2 hle hle'
 go_enter Tryz.func137,Tryz.ntmps137
 go_wp2_with fail
 have hbx:=boxes w (.bool ng) (.slice A n c) (.bool nh) (.slice A' n' c') (.bool false) (.slice none 0 0) 36 36 36
 generalize ((w.alloc (.cells #[.bool ng,.slice A n c] 36)).alloc (.cells #[.bool nh,.slice A' n' c'] 36)).alloc (.cells #[.bool false,.slice none 0 0] 36)=W0 at hbx ⊢
 obtain⟨hb0,hsz,c0,c1,c2,c3,q0,q1,f0,f1⟩:=hbx
 have hsz0:w.heap.size<W0.heap.size:=by omega
 have hsz1:w.heap.size+1<W0.heap.size:=by omega
 have HB0:=Lib.hid hb0
 have S0:=Lib.hid (And.intro c0 (And.intro c1 (And.intro c2 c3)))
 have Q0:=Lib.hid (And.intro q0 (And.intro q1 (And.intro f0 f1)))
 have SK:∀ w1:World,Below W0.heap.size W0 w1->w1.cell? ⟨w.heap.size,0,none⟩=some (.bool ng)/\w1.cell? ⟨w.heap.size,1,none⟩=some (.slice A n c)/\w1.cell? ⟨w.heap.size+1,0,none⟩=some (.bool nh)/\w1.cell? ⟨w.heap.size+1,1,none⟩=some (.slice A' n' c') :=
  fun w1 hb=>⟨(hb.cell (p:=⟨w.heap.size,0,none⟩) hsz0).trans c0,(hb.cell (p:=⟨w.heap.size,1,none⟩) hsz0).trans c1,(hb.cell (p:=⟨w.heap.size+1,0,none⟩) hsz1).trans c2,(hb.cell (p:=⟨w.heap.size+1,1,none⟩) hsz1).trans c3⟩
 have HSK:=Lib.hid SK
 clear hb0 c0 c1 c2 c3 q0 q1 f0 f1 SK
 go_region_held3 (fun w' => w'.cell? ⟨w.heap.size, 0, none⟩ = some (.bool ng) ∧ w'.cell? ⟨w.heap.size, 1, none⟩ = some (.slice A n c) ∧ w'.cell? ⟨w.heap.size + 1, 0, none⟩ = some (.bool nh) ∧ w'.cell? ⟨w.heap.size + 1, 1, none⟩ = some (.slice A' n' c')) (first | exact S2.out | exact ⟨cell_ret S2.out.1 (by omega), cell_ret S2.out.2.1 (by omega), cell_ret S2.out.2.2.1 (by omega), cell_ret S2.out.2.2.2 (by omega)⟩ | exact S1.out | exact S0.out) (first
  |(go_at_call 161;refine(common_any A A' _ c _ c' (max L1 L2) (Dg.trim ds) (Dg.trim es) _ (H.out.trim.below HB0.out.drew) (K.out.trim.below HB0.out.drew) (Dg.trim_trimmed ds) (Dg.trim_trimmed es) HT1.out HT2.out HLL.out).mono ?_;rintro e w1 ⟨v,rfl,⟨A1,n1,c1,fs,rfl,hd1,hc1,hn1,_,hv1⟩,hb1⟩;have HD1:=Lib.hid hd1;have HV1:=Lib.hid hv1;have hb1':=bel_undrew hb1;have HB1:=Lib.hid hb1';have S1:=Lib.hid (HSK.out w1 hb1');clear hd1 hb1 hb1' hv1)
  |(go_at_call 134;refine(signed_any false A1 n1 c1 fs _ HD1.out (by have:=HLL.out;unfold LIM at *;unfold maxLen;omega) hc1).mono ?_;rintro e w2 ⟨v,rfl,⟨neg2,A2,n2,c2,ds2,rfl,hd2⟩,hb2⟩;have HD2:=Lib.hid hd2;have hb12:=bel_ext HB1.out hb2;have S2:=Lib.hid (HSK.out w2 hb12);have r0:=(hb12.cell (p:=⟨w.heap.size+1+1,0,none⟩) hsz).trans Q0.out.1;have r1:=(hb12.cell (p:=⟨w.heap.size+1+1,1,none⟩) hsz).trans Q0.out.2.1;have g0:=(hb12.frozen (p:=⟨w.heap.size+1+1,0,none⟩) hsz).trans Q0.out.2.2.1;have g1:=(hb12.frozen (p:=⟨w.heap.size+1+1,1,none⟩) hsz).trans Q0.out.2.2.2;have HB2:=Lib.hid hb12;clear hd2 hb2 hb12)
  |(go_at_call_of 140 (Value.slice A n c);refine(T1.out _ HB0.out.drew).mono ?_;rintro e w8 ⟨rfl,rfl⟩)
  |(go_at_call 140;refine(T2.out _ HB0.out.drew).mono ?_;rintro e w8 ⟨rfl,rfl⟩))
 go_wp2
 have hbw:Below w.heap.size w w2:=HB0.out.trans (HB2.out.mono HB0.out.size)
 refine bodyPost_ret (v := .agg #[.bool neg2,.slice A2 n2 c2]) (by simp[results,Tryz.results137,go_sem,r0,r1]) rfl ⟨_,rfl,?_,bel_ret hbw (by omega)⟩
 have hN:NInt w2 (.agg #[.bool neg2,.slice A2 n2 c2]) (sgn false (Dg.val fs)) n1:=⟨neg2,A2,n2,c2,ds2,rfl,HD2.out⟩
 have e1:x.natAbs=Dg.val ds:=by rw[HX.out];cases ng <;> simp[sgn]
 have e2:y.natAbs=Dg.val es:=by rw[HY.out];cases nh <;> simp[sgn]
 rw[HV1.out,Dg.val_trim,Dg.val_trim,← e1,← e2]at hN
 exact(hN.mono hn1).ret r0 r1
end Go.Proofs.YtkmbnldginonbaaGreat
/- The function DivMod of package bigint: quotient and remainder, the remainder not negative. The lengths are below 2^40. -/
namespace Go.Proofs.YtkmbnldginonbaaGreat
open Go.RowKit
theorem sgn_div {p q:Bool} {a b:Nat} (hb:0<b) (h:p=false∨a%b=0):sgn p a / sgn q b=sgn (!(p == q)) (a / b)/\sgn p a%sgn q b=(a%b:Nat):=by
 have hd:=Nat.div_add_mod a b
 have hm:=Nat.mod_lt a hb
 have key:∀ x y r k:Int,y≠0->0≤r->r<y.natAbs->r+y*k=x->x / y=k/\x%y=r:=by
  intro x y r k hy h0 h1 h2
  subst h2
  refine⟨?_,?_⟩
  ·rw[Int.add_mul_ediv_left _ _ hy]
   have:r / y=0:=by
    rcases Int.natAbs_eq y with e | e
    ·rw[e];exact Int.ediv_eq_zero_of_lt h0 (by omega)
    ·rw[e,Int.ediv_neg,Int.ediv_eq_zero_of_lt h0 (by omega)];rfl
   omega
  ·rw[Int.add_mul_emod_self_left]
   rcases Int.natAbs_eq y with e | e
   ·rw[e];exact Int.emod_eq_of_lt h0 (by omega)
   ·rw[e,Int.emod_neg];exact Int.emod_eq_of_lt h0 (by omega)
 generalize a / b=k at *
 generalize a%b=m at *
 have hi:(b:Int)*k+m=a:=by rw[← Int.natCast_mul,← Int.natCast_add,hd]
 generalize ht:(b:Int)*k=t at *
 apply key
 ·cases q <;> simp[sgn] <;> omega
 ·omega
 ·cases q <;> simp[sgn] <;> omega
 ·rcases h with rfl | h
  ·cases q <;> simp[sgn,Int.mul_neg,Int.neg_mul,ht] <;> omega
  ·rw[h]at hi ⊢
   cases p <;> cases q <;> simp[sgn,Int.mul_neg,Int.neg_mul,ht]at hi ⊢ <;> omega
theorem sgn_div_up {q:Bool} {a b:Nat} (hb:0<b) (h:0<a%b):sgn true a / sgn q b=sgn (!(true == q)) (a / b+1)/\sgn true a%sgn q b=(b-a%b:Nat):=by
 have hd:=Nat.div_add_mod a b
 have hm:=Nat.mod_lt a hb
 have e:∃ c:Nat,c+a=b*(a / b+1)/\c=b-a%b/\c<b:=⟨b-a%b,by rw[Nat.mul_add];omega,rfl,by omega⟩
 obtain⟨c,hc,hc2,hc3⟩:=e
 rw[← hc2]
 generalize a / b+1=k at *
 have hi:(c:Int)+a=(b:Int)*k:=by rw[← Int.natCast_mul,← Int.natCast_add,hc]
 generalize ht:(b:Int)*k=t at *
 have hy:sgn q b≠0:=by cases q <;> simp[sgn] <;> omega
 have hx:sgn true a=c+sgn q b*sgn (!(true == q)) k:=by
  cases q <;> simp[sgn,Int.mul_neg,Int.neg_mul,ht] <;> omega
 have ha:(c:Int)<(sgn q b).natAbs:=by cases q <;> simp[sgn] <;> omega
 rw[hx]
 refine⟨?_,?_⟩
 ·rw[Int.add_mul_ediv_left _ _ hy]
  have:(c:Int) / sgn q b=0:=by
   rcases Int.natAbs_eq (sgn q b)with e | e
   ·rw[e];exact Int.ediv_eq_zero_of_lt (by omega) (by omega)
   ·rw[e,Int.ediv_neg,Int.ediv_eq_zero_of_lt (by omega) (by omega)];rfl
  omega
 ·rw[Int.add_mul_emod_self_left]
  rcases Int.natAbs_eq (sgn q b)with e | e
  ·rw[e];exact Int.emod_eq_of_lt (by omega) (by omega)
  ·rw[e,Int.emod_neg];exact Int.emod_eq_of_lt (by omega) (by omega)
end Go.Proofs.YtkmbnldginonbaaGreat
/- The function DivMod of package bigint at a divisor other than 0: quotient and remainder, the remainder not negative. The lengths are below 2^40. -/
namespace Go.Proofs.YtkmbnldginonbaaGreat
open Go.RowKit
structure Boxes4 (w W : World) (a b c d e f : Value) : Prop where
 below:Below w.heap.size w W
 size:w.heap.size+1+1+1<W.heap.size
 a0:W.cell? ⟨w.heap.size,0,none⟩=some a
 a1:W.cell? ⟨w.heap.size,1,none⟩=some b
 b0:W.cell? ⟨w.heap.size+1,0,none⟩=some c
 b1:W.cell? ⟨w.heap.size+1,1,none⟩=some d
 c0:W.cell? ⟨w.heap.size+1+1,0,none⟩=some e
 c1:W.cell? ⟨w.heap.size+1+1,1,none⟩=some f
 f0:W.frozen? ⟨w.heap.size+1+1,0,none⟩=false
 f1:W.frozen? ⟨w.heap.size+1+1,1,none⟩=false
 d0:W.cell? ⟨w.heap.size+1+1+1,0,none⟩=some e
 d1:W.cell? ⟨w.heap.size+1+1+1,1,none⟩=some f
 g0:W.frozen? ⟨w.heap.size+1+1+1,0,none⟩=false
 g1:W.frozen? ⟨w.heap.size+1+1+1,1,none⟩=false
theorem boxes4 (w:World) (a b c d e f:Value) (t:TypeId):Boxes4 w ((((w.alloc (.cells #[a,b] t)).alloc (.cells #[c,d] t)).alloc (.cells #[e,f] t)).alloc (.cells #[e,f] t)) a b c d e f:=by
 have hx:=boxes w a b c d e f t t t
 have hs:(((w.alloc (.cells #[a,b] t)).alloc (.cells #[c,d] t)).alloc (.cells #[e,f] t)).heap.size=w.heap.size+1+1+1:=by simp
 generalize ((w.alloc (.cells #[a,b] t)).alloc (.cells #[c,d] t)).alloc (.cells #[e,f] t)=W at hx hs
 obtain⟨h1,h2,h3,h4,h5,h6,h7,h8,h9,h10⟩:=hx
 have hb:Below W.heap.size W (W.alloc (.cells #[e,f] t)):=(Below.refl _ _).alloc (Nat.le_refl _) _
 have k:(W.alloc (.cells #[e,f] t)).heap[w.heap.size+1+1+1]? = some (.cells #[e,f] t (0,0)):=by rw[← hs];exact heap_alloc_new _ _
 have l0:w.heap.size<W.heap.size:=by omega
 have l1:w.heap.size+1<W.heap.size:=by omega
 refine⟨h1.trans (hb.mono (by omega)),by simp;omega,(hb.cell (p:=⟨w.heap.size,0,none⟩) l0).trans h3,(hb.cell (p:=⟨w.heap.size,1,none⟩) l0).trans h4,(hb.cell (p:=⟨w.heap.size+1,0,none⟩) l1).trans h5,(hb.cell (p:=⟨w.heap.size+1,1,none⟩) l1).trans h6,(hb.cell (p:=⟨w.heap.size+1+1,0,none⟩) h2).trans h7,(hb.cell (p:=⟨w.heap.size+1+1,1,none⟩) h2).trans h8,(hb.frozen (p:=⟨w.heap.size+1+1,0,none⟩) h2).trans h9,(hb.frozen (p:=⟨w.heap.size+1+1,1,none⟩) h2).trans h10,?_,?_,?_,?_⟩
 ·simp only[World.cell?,k];rfl
 ·simp only[World.cell?,k];rfl
 ·simp only[World.frozen?,k];rfl
 ·simp only[World.frozen?,k];rfl
def DmPost (x y:Int) (L1 L2:Nat) (w:World) (e:Ending) (w':World):Prop:=∃ q r,e = .returned (.tuple #[q,r,.int .i64 0])/\NInt w' q (x / y) (L1+1)/\NInt w' r (x%y) L2/\Below w.heap.size w w'
theorem dm_fin {x y k r : Int} {L1 L2 n3 n4 n5 c5 n6 c6 : Nat} {w w2 w3 : World} {neg5 neg6 : Bool} {A5 A6 : Option Addr} {ds5 ds6 : List Nat}
  (h5:Dig w2 A5 n5 ds5/\n5≤c5/\n5≤n3/\k=sgn neg5 (Dg.val ds5)/\Dg.trimmed ds5/\(neg5=true->0<n5)) (hb3:Below w2.heap.size w2 w3)
  (h6:Dig w3 A6 n6 ds6/\n6≤c6/\n6≤n4/\r=sgn neg6 (Dg.val ds6)/\Dg.trimmed ds6/\(neg6=true->0<n6))
  (e0:w3.cell? ⟨w.heap.size+1+1,0,none⟩=some (.bool false)) (e1:w3.cell? ⟨w.heap.size+1+1,1,none⟩=some (.slice none 0 0))
  (s0:w3.cell? ⟨w.heap.size+1+1+1,0,none⟩=some (.bool false)) (s1:w3.cell? ⟨w.heap.size+1+1+1,1,none⟩=some (.slice none 0 0))
  (hq:x / y=k) (hr:x%y=r) (hn3:n3≤L1+1) (hn4:n4≤L2) (hbw:Below w.heap.size w w3) :
  DmPost x y L1 L2 w (.returned (.tuple #[.agg #[.bool neg5,.slice A5 n5 c5],.agg #[.bool neg6,.slice A6 n6 c6],.int .i64 0])) ((((w3.setCell ⟨w.heap.size+1+1,0,none⟩ (.bool neg5)).setCell ⟨w.heap.size+1+1,1,none⟩ (.slice A5 n5 c5)).setCell ⟨w.heap.size+1+1+1,0,none⟩ (.bool neg6)).setCell ⟨w.heap.size+1+1+1,1,none⟩ (.slice A6 n6 c6)):=by
 have hN5:NInt w2 (.agg #[.bool neg5,.slice A5 n5 c5]) k n3:=⟨neg5,A5,n5,c5,ds5,rfl,h5⟩
 have hN6:NInt w3 (.agg #[.bool neg6,.slice A6 n6 c6]) r n4:=⟨neg6,A6,n6,c6,ds6,rfl,h6⟩
 rw[← hq]at hN5
 rw[← hr]at hN6
 exact⟨_,_,rfl,(((hN5.mono hn3).below hb3).ret e0 e1).ret (cell_ret s0 (by omega)) (cell_ret s1 (by omega)),((hN6.mono hn4).ret e0 e1).ret (cell_ret s0 (by omega)) (cell_ret s1 (by omega)),bel_ret (bel_ret hbw (by omega)) (by omega)⟩
set_option maxRecDepth 100000 in
theorem divMod_any (v1 v2 : Value) (x y : Int) (L1 L2 : Nat) (w : World) (hv1 : RInt w v1 x L1) (hv2 : RInt w v2 y L2) (hL1 : L1 + 2 ≤ LIM) (hL2 : L2 + 1 ≤ LIM) (hy0 : y ≠ 0) :
  Calls Tryz.prog 162 #[v1,v2] w (DmPost x y L1 L2 w):=by
 obtain⟨ng,A,n,c,ds,rfl,hd,hc,hn,hx⟩:=hv1
 obtain⟨nh,A',n',c',es,rfl,he,hc',hn',hy⟩:=hv2
 have hm:n≤maxLen:=by unfold maxLen;unfold LIM at hL1;omega
 have hm':n'≤maxLen:=by unfold maxLen;unfold LIM at hL2;omega
 have hle:(Dg.trim ds).length≤n:=by have:=trim_length ds;have:=hd.len;omega
 have hle':(Dg.trim es).length≤n':=by have:=trim_length es;have:=he.len;omega
 have hpos:0<Dg.val es:=by
  rcases Nat.eq_zero_or_pos (Dg.val es)with h | h
  ·rw[h]at hy;exact absurd (by rw[hy];cases nh <;> rfl) hy0
  ·exact h
 have hlp:=(trim_pos es).2 hpos
 have hb0:(((Dg.trim es).length:Int) == 0)=false:=by rw[beq_eq_false_iff_ne];omega
 have H:=Lib.hid hd
 have K:=Lib.hid he
 have HX:=Lib.hid hx
 have HY:=Lib.hid hy
 have HT1:=Lib.hid (show(Dg.trim ds).length≤L1 by omega)
 have HT2:=Lib.hid (show(Dg.trim es).length≤L2 by omega)
 have HL1:=Lib.hid hL1
 have HL2:=Lib.hid hL2
 have HP:=Lib.hid hpos
 have T1:=Lib.hid (fun W hW=>trimmed_any A n c ds W (H.out.below (w':=W) hW) hm hc)
 have T2:=Lib.hid (fun W hW=>trimmed_any A' n' c' es W (K.out.below (w':=W) hW) hm' hc')
 clear hd he hx hy hm hm' hL1 hL2 hle hle' hpos hlp hy0
 have hbx:=boxes4 w (.bool ng) (.slice A n c) (.bool nh) (.slice A' n' c') (.bool false) (.slice none 0 0) 36
 go_enter Tryz.func162,Tryz.ntmps162
 go_wp2_with fail
 generalize (((w.alloc (.cells #[.bool ng,.slice A n c] 36)).alloc (.cells #[.bool nh,.slice A' n' c'] 36)).alloc (.cells #[.bool false,.slice none 0 0] 36)).alloc (.cells #[.bool false,.slice none 0 0] 36)=W0 at hbx ⊢
 obtain⟨hb0',hsz,c0,c1,c2,c3,q0,q1,f0,f1,p0,p1,g0,g1⟩:=hbx
 have hsz0:w.heap.size<W0.heap.size:=by omega
 have hsz1:w.heap.size+1<W0.heap.size:=by omega
 have hsz2:w.heap.size+1+1<W0.heap.size:=by omega
 have HB0:=Lib.hid hb0'
 refine(T2.out _ HB0.out).mono ?_
 rintro e w8 ⟨rfl,rfl⟩
 go_wp2_with fail
 refine(T1.out _ HB0.out).mono ?_
 rintro e w8 ⟨rfl,rfl⟩
 go_wp2_with fail
 refine(divide_any _ _ _ _ _ _ (Dg.trim ds) (Dg.trim es) _ (H.out.trim.below HB0.out) (K.out.trim.below HB0.out) (Dg.trim_trimmed ds) (Dg.trim_trimmed es) (by have:=HT1.out;have:=HL1.out;omega) (by have:=HT2.out;have:=HL2.out;omega) (by rw[Dg.val_trim];exact HP.out)).mono ?_
 rintro e w1 ⟨u1,u2,rfl,⟨A3,n3,k3,qs,rfl,hd3,hk3,hn3,_,hv3⟩,⟨A4,n4,k4,rs,rfl,hd4,hk4,hn4,ht4,hv4⟩,hb1⟩
 rw[Dg.val_trim,Dg.val_trim]at hv3 hv4
 have H3:=Lib.hid hd3
 have HV3:=Lib.hid hv3
 have H4:=Lib.hid hd4
 have HV4:=Lib.hid hv4
 have HT4:=Lib.hid ht4
 have HM3:=Lib.hid (show n3≤maxLen by have:=HT1.out;have:=HL1.out;unfold LIM at *;unfold maxLen;omega)
 have HM4:=Lib.hid (show n4≤maxLen by have:=HT2.out;have:=HL2.out;unfold LIM at *;unfold maxLen;omega)
 have HN3:=Lib.hid hn3
 have HN4:=Lib.hid hn4
 have c0:=(hb1.cell (p:=⟨w.heap.size,0,none⟩) hsz0).trans c0
 have c2:=(hb1.cell (p:=⟨w.heap.size+1,0,none⟩) hsz1).trans c2
 have HB1:=Lib.hid hb1
 clear hd3 hd4 hv3 hv4 ht4 hb1 hb0' c1 c3
 have hng:ng=false∨(ng=true/\n4=0)∨(ng=true/\0<n4):=by
  rcases Bool.eq_false_or_eq_true ng with h | h
  ·rcases Nat.eq_zero_or_pos n4 with h2 | h2
   ·exact .inr (.inl ⟨h,h2⟩)
   ·exact .inr (.inr ⟨h,h2⟩)
  ·exact .inl h
 rcases hng with rfl | ⟨rfl,rfl⟩ | ⟨rfl,hn4⟩
 ·have HZ:=Lib.hid (sgn_div (p:=false) (q:=nh) (a:=Dg.val ds) HP.out (.inl rfl))
  go_wp2_with fail
  refine(signed_any nh A3 n3 k3 qs _ H3.out HM3.out hk3).mono ?_
  rintro e w2 ⟨v,rfl,⟨neg5,A5,n5,c5,ds5,rfl,hd5⟩,hb2⟩
  have HB2:=Lib.hid hb2
  have H5:=Lib.hid hd5
  clear hd5 hb2
  go_wp2_with fail
  refine(signed_any false A4 n4 k4 rs _ (H4.out.below HB2.out) HM4.out hk4).mono ?_
  rintro e w3 ⟨v,rfl,⟨neg6,A6,n6,c6,ds6,rfl,hd6⟩,hb3⟩
  have HB3:=Lib.hid hb3
  have H6:=Lib.hid hd6
  clear hd6 hb3
  have hbw:Below W0.heap.size W0 w3:=bel_ext (bel_ext HB1.out HB2.out) HB3.out
  have e0:=(hbw.cell (p:=⟨w.heap.size+1+1,0,none⟩) hsz2).trans q0
  have e1:=(hbw.cell (p:=⟨w.heap.size+1+1,1,none⟩) hsz2).trans q1
  have e2:=(hbw.frozen (p:=⟨w.heap.size+1+1,0,none⟩) hsz2).trans f0
  have e3:=(hbw.frozen (p:=⟨w.heap.size+1+1,1,none⟩) hsz2).trans f1
  have s0:=(hbw.cell (p:=⟨w.heap.size+1+1+1,0,none⟩) hsz).trans p0
  have s1:=(hbw.cell (p:=⟨w.heap.size+1+1+1,1,none⟩) hsz).trans p1
  have s2:=(hbw.frozen (p:=⟨w.heap.size+1+1+1,0,none⟩) hsz).trans g0
  have s3:=(hbw.frozen (p:=⟨w.heap.size+1+1+1,1,none⟩) hsz).trans g1
  have HBW:=Lib.hid (HB0.out.trans (hbw.mono HB0.out.size))
  clear q0 q1 f0 f1 p0 p1 g0 g1 hbw
  go_wp2
  refine bodyPost_ret (v := .tuple #[.agg #[.bool neg5,.slice A5 n5 c5],.agg #[.bool neg6,.slice A6 n6 c6],.int .i64 0]) (by simp[results,Tryz.results162,go_sem,e0,e1,s0,s1]) rfl (dm_fin H5.out HB3.out H6.out e0 e1 s0 s1 ?_ ?_ ?_ ?_ HBW.out)
  ·rw[HX.out,HY.out,HZ.out.1,HV3.out];cases nh <;> rfl
  ·rw[HX.out,HY.out,HZ.out.2,HV4.out];rfl
  ·have:=HN3.out;have:=HT1.out;omega
  ·have:=HN4.out;have:=HT2.out;omega
 ·have hz:Dg.val ds%Dg.val es=0:=by
   have h5:=H4.out.len
   have:rs=[]:=List.length_eq_zero_iff.1 (by omega)
   rw[← HV4.out,this];rfl
  have HZ:=Lib.hid (sgn_div (p:=true) (q:=nh) (a:=Dg.val ds) HP.out (.inr hz))
  clear hz
  go_wp2_with fail
  refine(signed_any (!nh) A3 n3 k3 qs _ H3.out HM3.out hk3).mono ?_
  rintro e w2 ⟨v,rfl,⟨neg5,A5,n5,c5,ds5,rfl,hd5⟩,hb2⟩
  have HB2:=Lib.hid hb2
  have H5:=Lib.hid hd5
  clear hd5 hb2
  go_wp2_with fail
  refine(signed_any false A4 0 k4 rs _ (H4.out.below HB2.out) HM4.out hk4).mono ?_
  rintro e w3 ⟨v,rfl,⟨neg6,A6,n6,c6,ds6,rfl,hd6⟩,hb3⟩
  have HB3:=Lib.hid hb3
  have H6:=Lib.hid hd6
  clear hd6 hb3
  have hbw:Below W0.heap.size W0 w3:=bel_ext (bel_ext HB1.out HB2.out) HB3.out
  have e0:=(hbw.cell (p:=⟨w.heap.size+1+1,0,none⟩) hsz2).trans q0
  have e1:=(hbw.cell (p:=⟨w.heap.size+1+1,1,none⟩) hsz2).trans q1
  have e2:=(hbw.frozen (p:=⟨w.heap.size+1+1,0,none⟩) hsz2).trans f0
  have e3:=(hbw.frozen (p:=⟨w.heap.size+1+1,1,none⟩) hsz2).trans f1
  have s0:=(hbw.cell (p:=⟨w.heap.size+1+1+1,0,none⟩) hsz).trans p0
  have s1:=(hbw.cell (p:=⟨w.heap.size+1+1+1,1,none⟩) hsz).trans p1
  have s2:=(hbw.frozen (p:=⟨w.heap.size+1+1+1,0,none⟩) hsz).trans g0
  have s3:=(hbw.frozen (p:=⟨w.heap.size+1+1+1,1,none⟩) hsz).trans g1
  have HBW:=Lib.hid (HB0.out.trans (hbw.mono HB0.out.size))
  clear q0 q1 f0 f1 p0 p1 g0 g1 hbw
  go_wp2
  refine bodyPost_ret (v := .tuple #[.agg #[.bool neg5,.slice A5 n5 c5],.agg #[.bool neg6,.slice A6 n6 c6],.int .i64 0]) (by simp[results,Tryz.results162,go_sem,e0,e1,s0,s1]) rfl (dm_fin H5.out HB3.out H6.out e0 e1 s0 s1 ?_ ?_ ?_ ?_ HBW.out)
  ·rw[HX.out,HY.out,HZ.out.1,HV3.out];cases nh <;> rfl
  ·rw[HX.out,HY.out,HZ.out.2,HV4.out];rfl
  ·have:=HN3.out;have:=HT1.out;omega
  ·have:=HN4.out;have:=HT2.out;omega
 ·have hgt:decide ((0:Int)<(n4:Int))=true:=decide_eq_true (by omega)
  have hgt':decide (0<n4)=true:=decide_eq_true hn4
  have hrp:0<Dg.val ds%Dg.val es:=by
   rw[← HV4.out]
   refine(trim_pos rs).1 ?_
   rw[Dg.trim_of_trimmed H4.out.ok HT4.out]
   have:=H4.out.len;omega
  have HZ:=Lib.hid (sgn_div_up (q:=nh) HP.out hrp)
  have HLP:=Lib.hid (show 0<(Dg.trim ds).length from(trim_pos ds).2 (Nat.lt_of_lt_of_le hrp (Nat.mod_le _ _)))
  have HM8:=Lib.hid (show n3≤LIM/\1≤LIM by have:=HN3.out;have:=HT1.out;have:=HL1.out;omega)
  have hone:Dg.ok [1]:=by intro d hd;simp at hd;subst hd;decide
  clear hrp
  clear hn4
  go_wp2_with fail
  refine(plus_any A3 (some ⟨w1.heap.size,0,none⟩) n3 k3 1 1 qs [1] _ (H3.out.alloc _) (Dig.of_block (ds:=[1]) (heap_alloc_new _ _) rfl hone) HM8.out.1 HM8.out.2).mono ?_
  rintro e w4 ⟨g,m,o,rfl,hm9,hdp,hvp,hbp⟩
  have HP2:=Lib.hid hdp
  have HVP:=Lib.hid (show Dg.val o=Dg.val ds / Dg.val es+1 by rw[hvp,HV3.out];rfl)
  have HBP:=Lib.hid (bel_ext HB1.out (bel_ext ((Below.refl _ _).alloc (Nat.le_refl _) _) hbp))
  have HB8:=Lib.hid (bel_ext ((Below.refl w1.heap.size w1).alloc (Nat.le_refl _) _) hbp)
  have HM7:=Lib.hid (show m≤L1+1 by have:=HN3.out;have:=HT1.out;have:=HLP.out;omega)
  have HM5:=Lib.hid (show m≤maxLen by have:=HM7.out;have:=HL1.out;unfold LIM at *;unfold maxLen;omega)
  clear hdp hvp hbp hm9
  go_wp2_with fail
  refine(less_any A' A4 (Dg.trim es).length c' n4 k4 (Dg.trim es) rs _ ((K.out.trim.below HB0.out).below HBP.out) (H4.out.below HB8.out) (by have:=HT2.out;have:=HL2.out;omega) HN4.out (by rw[Dg.val_trim,HV4.out];exact Nat.le_of_lt (Nat.mod_lt _ HP.out))).mono ?_
  rintro e w5 ⟨g7,o7,rfl,hd7,hv7,hbl⟩
  have HP7:=Lib.hid hd7
  have HVL:=Lib.hid (show Dg.val o7=Dg.val es-Dg.val ds%Dg.val es by rw[Dg.val_trim,HV4.out]at hv7;omega)
  have HBL:=Lib.hid hbl
  have HM6:=Lib.hid (show(Dg.trim es).length≤maxLen by have:=HT2.out;have:=HL2.out;unfold LIM at *;unfold maxLen;omega)
  have c0:=((bel_ext HB8.out HBL.out).cell (p:=⟨w.heap.size,0,none⟩) (Nat.lt_of_lt_of_le hsz0 HB1.out.size)).trans c0
  have c2:=((bel_ext HB8.out HBL.out).cell (p:=⟨w.heap.size+1,0,none⟩) (Nat.lt_of_lt_of_le hsz1 HB1.out.size)).trans c2
  clear hd7 hv7 hbl
  go_wp2_with fail
  refine(signed_any (!nh) (some ⟨g,0,none⟩) m m o _ (HP2.out.below HBL.out) HM5.out (Nat.le_refl _)).mono ?_
  rintro e w2 ⟨v,rfl,⟨neg5,A5,n5,c5,ds5,rfl,hd5⟩,hb2⟩
  have HB2:=Lib.hid hb2
  have H5:=Lib.hid hd5
  clear hd5 hb2
  go_wp2_with fail
  refine(signed_any false (some ⟨g7,0,none⟩) (Dg.trim es).length (Dg.trim es).length o7 _ (HP7.out.below HB2.out) HM6.out (Nat.le_refl _)).mono ?_
  rintro e w3 ⟨v,rfl,⟨neg6,A6,n6,c6,ds6,rfl,hd6⟩,hb3⟩
  have HB3:=Lib.hid hb3
  have H6:=Lib.hid hd6
  clear hd6 hb3
  have hbw:Below W0.heap.size W0 w3:=bel_ext (bel_ext (bel_ext HBP.out HBL.out) HB2.out) HB3.out
  have e0:=(hbw.cell (p:=⟨w.heap.size+1+1,0,none⟩) hsz2).trans q0
  have e1:=(hbw.cell (p:=⟨w.heap.size+1+1,1,none⟩) hsz2).trans q1
  have e2:=(hbw.frozen (p:=⟨w.heap.size+1+1,0,none⟩) hsz2).trans f0
  have e3:=(hbw.frozen (p:=⟨w.heap.size+1+1,1,none⟩) hsz2).trans f1
  have s0:=(hbw.cell (p:=⟨w.heap.size+1+1+1,0,none⟩) hsz).trans p0
  have s1:=(hbw.cell (p:=⟨w.heap.size+1+1+1,1,none⟩) hsz).trans p1
  have s2:=(hbw.frozen (p:=⟨w.heap.size+1+1+1,0,none⟩) hsz).trans g0
  have s3:=(hbw.frozen (p:=⟨w.heap.size+1+1+1,1,none⟩) hsz).trans g1
  have HBW:=Lib.hid (HB0.out.trans (hbw.mono HB0.out.size))
  clear q0 q1 f0 f1 p0 p1 g0 g1 hbw
  go_wp2
  refine bodyPost_ret (v := .tuple #[.agg #[.bool neg5,.slice A5 n5 c5],.agg #[.bool neg6,.slice A6 n6 c6],.int .i64 0]) (by simp[results,Tryz.results162,go_sem,e0,e1,s0,s1]) rfl (dm_fin H5.out HB3.out H6.out e0 e1 s0 s1 ?_ ?_ ?_ ?_ HBW.out)
  ·rw[HX.out,HY.out,HZ.out.1,HVP.out];cases nh <;> rfl
  ·rw[HX.out,HY.out,HZ.out.2,HVL.out];rfl
  ·exact HM7.out
  ·exact HT2.out
end Go.Proofs.YtkmbnldginonbaaGreat
/- The contracts of package bigint in abstract words. -/
namespace Go.Proofs.YtkmbnldginonbaaGreat
open Go.RowKit
theorem dsC_dig {D:Nat->Prop} {w:World} {ρ:List Loc} {l:List Nat} {v:Value} (ho:Dg.ok l) (h:CRel D w ρ (dsC l) v):∃ A c,v = .slice A l.length c/\l.length≤c/\Dig w A l.length l:=by
 obtain⟨A,c,h1,h2,h3⟩:=h
 refine⟨A,c,h1,h2,rfl,ho,fun hn=>?_⟩
 obtain⟨b,o,hA,hb,_,hc⟩:=h3 hn
 refine⟨b,o,hA,hb,fun i hi=>?_⟩
 obtain⟨u,hu,hr⟩:=hc i 0 hi (by omega)
 have hr':u = .int .u32 (l.getD i 0:Nat):=hr
 rw[show o+(i*1+0)=o+i by omega]at hu
 rw[hu,hr']
 simp[List.getD,hi]
theorem dig_dsC {D:Nat->Prop} {w:World} {ρ:List Loc} {l:List Nat} {A:Option Addr} {c:Nat} (h:Dig w A l.length l) (hc:l.length≤c) (hD:∀ b o,0<l.length->A=some ⟨b,o,none⟩->¬ D b):CRel D w ρ (dsC l) (.slice A l.length c):=by
 refine⟨A,c,rfl,hc,fun hn=>?_⟩
 obtain⟨b,o,hA,hb,hcell⟩:=h.2.2 hn
 refine⟨b,o,hA,hb,hD b o hn hA,fun i j hi hj=>?_⟩
 have hj0:j=0:=by omega
 subst hj0
 refine⟨_,by rw[show o+(i*1+0)=o+i by omega];exact hcell i hi,?_⟩
 show Value.int .u32 _=_
 simp[List.getD,hi]
theorem zr_rint {D:Nat->Prop} {w:World} {ρ:List Loc} {a:RawZ} {v:Value} (ho:Dg.ok a.ds) (h:VRel D w ρ (.g (zr a)) v):RInt w v a.val a.ds.length:=by
 obtain⟨vs,rfl,h2⟩:=h
 match hv:vs.toList,h2 with
 | [x,y],h2 =>
  obtain⟨h3,h4,_⟩:=h2
  obtain⟨A,c,h5,h6,h7⟩:=dsC_dig ho h4
  have hvs:vs=#[x,y]:=by rw[← Array.toList_inj];simpa using hv
  rw[hvs,show x = .bool a.neg from h3,h5]
  exact⟨a.neg,A,a.ds.length,c,a.ds,rfl,h7,h6,Nat.le_refl _,rfl⟩
 | [],h2=>exact h2.elim
 | [_],h2=>exact h2.2.elim
 | _ :: _ :: _ :: _,h2=>exact h2.2.2.elim
theorem dig_free {D:Nat->Prop} {w w':World} (hD:∀ b,D b->b<w.heap.size) (hU:∀(b o:Nat) (d:Int),D b->w.cell? ⟨b,o,none⟩≠some (.int .u32 d)) (hb:Below w.heap.size w w') {l:List Nat} {A:Option Addr} (h:Dig w' A l.length l):∀ b o,0<l.length->A=some ⟨b,o,none⟩->¬ D b:=by
 intro b o hn hA hx
 obtain⟨b',o',hA',_,hc⟩:=h.2.2 hn
 rw[hA]at hA'
 injection hA' with e
 injection e with e1 e2
 subst e1;subst e2
 have h1:=hc 0 hn
 rw[hb.cell (p:=⟨b,o+0,none⟩) (hD b hx)]at h1
 exact hU b _ _ hx h1
theorem nint_nz {D:Nat->Prop} {w w':World} (hD:∀ b,D b->b<w.heap.size) (hU:∀(b o:Nat) (d:Int),D b->w.cell? ⟨b,o,none⟩≠some (.int .u32 d)) (hb:Below w.heap.size w w') {v:Value} {x:Int} {L:Nat} (h:NInt w' v x L):VRel D w' [] (.g (nz x)) v:=by
 obtain⟨neg,A,n,c,ds,rfl,hd,hc,_,hx,ht,hneg⟩:=h
 have hl:=hd.len
 have hval:Dg.val ds=x.natAbs:=by
  rw[hx];unfold sgn;cases neg <;> simp
 have hds:ds=digs x.natAbs:=digs_unique hd.ok ht hval
 have hn:neg=decide (x<0):=by
  cases neg with
  | false=>rw[hx];simp[sgn]
  | true =>
   have h0:=hneg rfl
   have hp:0<Dg.val ds:=by
    rcases Nat.eq_zero_or_pos (Dg.val ds)with e | e
    ·rw[(Dg.val_eq_zero ht).1 e]at hl;simp at hl;omega
    ·exact e
   rw[hx];simp[sgn];omega
 refine⟨#[.bool neg,.slice A n c],rfl,?_,?_,trivial⟩
 ·show Value.bool neg = .bool (decide (x<0));rw[hn]
 ·show CRel D w' [] (dsC (digs x.natAbs)) (.slice A n c)
  rw[← hds]
  subst hl
  exact dig_dsC hd hc (dig_free hD hU hb hd)
theorem fnok_z1 {f:FuncId} (hbd:hasBody Tryz.prog f=true) {a:RawZ} {X:V} (ho:Dg.ok a.ds) (h:∀(v:Value) (w:World) (D:Nat->Prop),(∀ b,D b->b<w.heap.size)->(∀(b o:Nat) (d:Int),D b->w.cell? ⟨b,o,none⟩≠some (.int .u32 d))->RInt w v a.val a.ds.length->Calls Tryz.prog f #[v] w fun e w'=>∃ v',e = .returned v'/\VRel D w' [] X v'/\Below w.heap.size w w'):FnOK Tryz.prog true f [.g (zr a)] X:=by
 refine⟨hbd,?_⟩
 intro D w vs hD hU hargs
 match vs,hargs with
 | [v],hargs=>exact h v w D hD (hU rfl) (zr_rint ho hargs.1)
 | [],hargs=>exact hargs.elim
 | _ :: _ :: _,hargs=>exact hargs.2.elim
theorem fnok_z2 {f:FuncId} (hbd:hasBody Tryz.prog f=true) {a b:RawZ} {X:V} (ho:Dg.ok a.ds) (ho':Dg.ok b.ds) (h:∀(v v2:Value) (w:World) (D:Nat->Prop),(∀ b,D b->b<w.heap.size)->(∀(b o:Nat) (d:Int),D b->w.cell? ⟨b,o,none⟩≠some (.int .u32 d))->RInt w v a.val a.ds.length->RInt w v2 b.val b.ds.length->Calls Tryz.prog f #[v,v2] w fun e w'=>∃ v',e = .returned v'/\VRel D w' [] X v'/\Below w.heap.size w w'):FnOK Tryz.prog true f [.g (zr a),.g (zr b)] X:=by
 refine⟨hbd,?_⟩
 intro D w vs hD hU hargs
 match vs,hargs with
 | [v,v2],hargs=>exact h v v2 w D hD (hU rfl) (zr_rint ho hargs.1) (zr_rint ho' hargs.2.1)
 | [],hargs=>exact hargs.elim
 | [_],hargs=>exact hargs.2.elim
 | _ :: _ :: _ :: _,hargs=>exact hargs.2.2.elim
theorem mul_ok {a b:RawZ} (ha:Dg.ok a.ds) (hb:Dg.ok b.ds) (hL:a.ds.length+b.ds.length≤LIM):FnOK Tryz.prog true 98 [.g (zr a),.g (zr b)] (.g (nz (a.val*b.val))) :=
 fnok_z2 (by kernel_rfl) ha hb fun v v2 w _ hD hU h1 h2=>(int_mul_any v v2 _ _ _ _ w h1 h2 hL).mono fun _ _ ⟨v',e,h3,h4⟩=>⟨v',e,nint_nz hD hU h4 h3,h4⟩
theorem add_ok {a b:RawZ} (ha:Dg.ok a.ds) (hb:Dg.ok b.ds) (h1:a.ds.length≤LIM) (h2:b.ds.length≤LIM):FnOK Tryz.prog true 133 [.g (zr a),.g (zr b)] (.g (nz (a.val+b.val))) :=
 fnok_z2 (by kernel_rfl) ha hb fun v v2 w _ hD hU g1 g2=>(int_add_any v v2 _ _ _ _ w g1 g2 h1 h2).mono fun _ _ ⟨v',e,h3,h4⟩=>⟨v',e,nint_nz hD hU h4 h3,h4⟩
theorem gcd_ok {a b:RawZ} (ha:Dg.ok a.ds) (hb:Dg.ok b.ds) (h1:a.ds.length+1≤LIM) (h2:b.ds.length+1≤LIM):FnOK Tryz.prog true 137 [.g (zr a),.g (zr b)] (.g (nz (Nat.gcd a.val.natAbs b.val.natAbs:Nat))) :=
 fnok_z2 (by kernel_rfl) ha hb fun v v2 w _ hD hU g1 g2=>(int_gcd_any v v2 _ _ _ _ w g1 g2 h1 h2).mono fun _ _ ⟨v',e,h3,h4⟩=>⟨v',e,nint_nz hD hU h4 h3,h4⟩
theorem neg_ok {a:RawZ} (ha:Dg.ok a.ds) (hL:a.ds.length≤LIM):FnOK Tryz.prog true 110 [.g (zr a)] (.g (nz (-a.val))) :=
 fnok_z1 (by kernel_rfl) ha fun v w _ hD hU h1=>(int_neg_any v _ _ w h1 hL).mono fun _ _ ⟨v',e,h3,h4⟩=>⟨v',e,nint_nz hD hU h4 h3,h4⟩
theorem normal_ok {a:RawZ} (ha:Dg.ok a.ds) (hL:a.ds.length≤LIM):FnOK Tryz.prog true 136 [.g (zr a)] (.g (nz a.val)) :=
 fnok_z1 (by kernel_rfl) ha fun v w _ hD hU h1=>(int_normal_any v _ _ w h1 hL).mono fun _ _ ⟨v',e,h3,h4⟩=>⟨v',e,nint_nz hD hU h4 h3,h4⟩
theorem sign_ok {a:RawZ} (ha:Dg.ok a.ds) (hL:a.ds.length≤LIM):FnOK Tryz.prog true 131 [.g (zr a)] (.c (.int .i64 a.val.sign)) :=
 fnok_z1 (by kernel_rfl) ha fun v w _ _ _ h1=>(int_sign_any v _ _ w h1 hL).mono fun _ _ ⟨e,h4⟩=>⟨_,e,rfl,h4⟩
theorem of_ok {x:Int} (h0 : -9223372036854775808≤x) (h1:x≤9223372036854775807):FnOK Tryz.prog true 96 [.c (.int .i64 x)] (.g (nz x)):=by
 refine⟨by kernel_rfl,?_⟩
 intro D w vs hD hU hargs
 match vs,hargs with
 | [v],hargs =>
  rw[show v = .int .i64 x from hargs.1]
  exact(int_of_any x w h0 h1).mono fun _ _ ⟨v',e,h3,h4⟩=>⟨v',e,nint_nz hD (hU rfl) h4 h3,h4⟩
 | [],hargs=>exact hargs.elim
 | _ :: _ :: _,hargs=>exact hargs.2.elim
end Go.Proofs.YtkmbnldginonbaaGreat
/- Types, and the functions DivMod and Exact of package bigint in abstract words. -/
namespace Go.Proofs.YtkmbnldginonbaaGreat
open Go.RowKit
theorem divmod_ok {a b:RawZ} (ha:Dg.ok a.ds) (hb:Dg.ok b.ds) (h1:a.ds.length+2≤LIM) (h2:b.ds.length+1≤LIM) (h0:b.val≠0):FnOK Tryz.prog true 162 [.g (zr a),.g (zr b)] (.t3 (.g (nz (a.val / b.val))) (.g (nz (a.val%b.val))) (.c (.int .i64 0))) :=
 fnok_z2 (by kernel_rfl) ha hb fun v v2 w _ hD hU g1 g2=>(divMod_any v v2 _ _ _ _ w g1 g2 h1 h2 h0).mono fun _ _ ⟨q,r,e,h3,h4,h5⟩=>⟨_,e,⟨q,r,_,rfl,nint_nz hD hU h5 h3,nint_nz hD hU h5 h4,rfl⟩,h5⟩
set_option maxHeartbeats 1000000 in
theorem exact_ok {a b:RawZ} (ha:Dg.ok a.ds) (hb:Dg.ok b.ds) (h1:a.ds.length+2≤LIM) (h2:b.ds.length+1≤LIM) (h0:b.val≠0) (hd:a.val%b.val=0):FnOK Tryz.prog true 138 [.g (zr a),.g (zr b)] (.t2 (.g (nz (a.val / b.val))) (.c (.int .i64 0))):=by
 refine fn_ok (E:=E1) E1_ok Tryz.func138 rfl mixed (by kernel_rfl) (by kernel_rfl) ?_
 conv=>whnf
 refine⟨_,divmod_ok (a:=a) (b:=b) ha hb h1 h2 h0,?_⟩
 conv=>whnf
 refine bcase (fun h=>?_) fun h=>?_
 ·have h':decide ((zlen (a.val%b.val):Int) > 0)=true:=h
  rw[hd]at h';exact absurd h' (by decide)
 conv=>whnf
 refine⟨rfl,?_⟩
 exact Sub.refl _
theorem neg_nz (x:Int) (h:zlen x≤LIM):FnOK Tryz.prog true 110 [.g (nz x)] (.g (nz (-x))):=by
 have:=neg_ok (a:=ofZ x) (ofZ_ok x) h
 rwa [ofZ_val]at this
theorem add_nz (x y:Int) (h1:zlen x≤LIM) (h2:zlen y≤LIM):FnOK Tryz.prog true 133 [.g (nz x),.g (nz y)] (.g (nz (x+y))):=by
 have:=add_ok (a:=ofZ x) (b:=ofZ y) (ofZ_ok x) (ofZ_ok y) h1 h2
 rwa [ofZ_val,ofZ_val]at this
theorem gcd_nz (x y:Int) (h1:zlen x+1≤LIM) (h2:zlen y+1≤LIM):FnOK Tryz.prog true 137 [.g (nz x),.g (nz y)] (.g (nz (Nat.gcd x.natAbs y.natAbs:Nat))):=by
 have:=gcd_ok (a:=ofZ x) (b:=ofZ y) (ofZ_ok x) (ofZ_ok y) h1 h2
 rwa [ofZ_val,ofZ_val]at this
theorem exact_nz (x y:Int) (h1:zlen x+2≤LIM) (h2:zlen y+1≤LIM) (h0:y≠0) (hd:x%y=0):FnOK Tryz.prog true 138 [.g (nz x),.g (nz y)] (.t2 (.g (nz (x / y))) (.c (.int .i64 0))):=by
 have:=exact_ok (a:=ofZ x) (b:=ofZ y) (ofZ_ok x) (ofZ_ok y) h1 h2 (by rw[ofZ_val];exact h0) (by rw[ofZ_val,ofZ_val];exact hd)
 rwa [ofZ_val,ofZ_val]at this
end Go.Proofs.YtkmbnldginonbaaGreat
/- Plain laws of fractions: the fraction of two integers, its numerator and denominator, sums, products, quotients, signs. -/
namespace Go.Proofs.YtkmbnldginonbaaGreat
def ratio (n d:Int):Rat:=(n:Rat) / (d:Rat)
theorem ratio_zero_right (n:Int):ratio n 0=0:=by unfold ratio;simp[Rat.div_def,Rat.inv_zero]
theorem ratio_zero_left (d:Int):ratio 0 d=0:=by unfold ratio;simp[Rat.div_def]
theorem ratio_one (n:Int):ratio n 1=(n:Rat):=by unfold ratio;grind
theorem ratio_neg (n d:Int):ratio (-n) (-d)=ratio n d:=by
 unfold ratio;simp only[Rat.intCast_neg,Rat.div_def]
 by_cases h:(d:Rat)=0
 ·simp[h,Rat.inv_zero]
 ·generalize (d:Rat)=a at *;generalize (n:Rat)=b at *
  grind
theorem ratio_neg_left (n d:Int):ratio (-n) d = -ratio n d:=by
 unfold ratio;simp only[Rat.intCast_neg,Rat.div_def];grind
theorem cast_ne {d:Int} (h:d≠0):(d:Rat)≠0:=by
 intro e;exact h (by exact_mod_cast e)
theorem ratio_add {n1 d1 n2 d2:Int} (h1:d1≠0) (h2:d2≠0):ratio n1 d1+ratio n2 d2=ratio (n1*d2+n2*d1) (d1*d2):=by
 have g1:=cast_ne h1
 have g2:=cast_ne h2
 unfold ratio
 simp only[Rat.intCast_add,Rat.intCast_mul]
 generalize (d1:Rat)=a at *;generalize (d2:Rat)=b at *
 grind
theorem ratio_mul (n1 d1 n2 d2:Int):ratio n1 d1*ratio n2 d2=ratio (n1*n2) (d1*d2):=by
 unfold ratio
 simp only[Rat.intCast_mul,Rat.div_def]
 by_cases h1:(d1:Rat)=0
 ·simp[h1,Rat.inv_zero]
 ·by_cases h2:(d2:Rat)=0
  ·simp[h2,Rat.inv_zero]
  ·generalize (d1:Rat)=a at *;generalize (d2:Rat)=b at *
   grind
theorem ratio_inv (n d:Int):(ratio n d)⁻¹=ratio d n:=by
 unfold ratio
 by_cases h1:(d:Rat)=0
 ·simp[h1,Rat.div_def,Rat.inv_zero]
 ·by_cases h2:(n:Rat)=0
  ·simp[h2,Rat.div_def,Rat.inv_zero]
  ·generalize (d:Rat)=a at *;generalize (n:Rat)=b at *
   grind
theorem ratio_div (n1 d1 n2 d2:Int):ratio n1 d1 / ratio n2 d2=ratio (n1*d2) (d1*n2):=by
 rw[Rat.div_def,ratio_inv,ratio_mul]
theorem ratio_num_den (x:Rat):ratio x.num x.den=x:=by
 unfold ratio
 have:=Rat.num_divInt_den x
 rw[Rat.divInt_eq_div]at this
 exact this
theorem ratio_eq_mkRat (n:Int) (d:Nat):ratio n d=mkRat n d:=by
 rw[Rat.mkRat_eq_div];unfold ratio;norm_cast
theorem ratio_parts {n:Int} {d:Nat} (hd:0<d):(ratio n d).num=n / (Int.gcd n d:Int)/\(ratio n d).den=d / Int.gcd n d:=by
 rw[ratio_eq_mkRat,← Rat.normalize_eq_mkRat (Nat.pos_iff_ne_zero.1 hd),Rat.normalize_eq]
 constructor <;> simp[Int.gcd]
theorem ratio_num_mul {n:Int} {d:Nat} (hd:0<d):(ratio n d).num*(Int.gcd n d:Int)=n:=by
 rw[(ratio_parts hd).1]
 exact Int.ediv_mul_cancel (Int.gcd_dvd_left _ _)
theorem ratio_den_mul {n:Int} {d:Nat} (hd:0<d):(ratio n d).den*Int.gcd n d=d:=by
 rw[(ratio_parts hd).2]
 exact Nat.div_mul_cancel (by exact_mod_cast (Int.gcd_dvd_right n d:(Int.gcd n d:Int)∣d))
theorem gcd_pos_right {n:Int} {d:Nat} (hd:0<d):0<Int.gcd n d:=Int.gcd_pos_of_ne_zero_right _ (by omega)
theorem ratio_sign (n d:Int):(ratio n d).num.sign=n.sign*d.sign:=by
 have key:∀(n:Int) (d:Nat),0<d->(ratio n d).num.sign=n.sign:=by
  intro n d hd
  have h:=ratio_num_mul (n:=n) hd
  have g:0<(Int.gcd n d:Int):=by have:=gcd_pos_right (n:=n) hd;omega
  have:((ratio n d).num*(Int.gcd n d:Int)).sign=n.sign:=by rw[h]
  rw[Int.sign_mul,Int.sign_eq_one_of_pos g,Int.mul_one]at this
  exact this
 rcases Int.lt_trichotomy d 0 with h | h | h
 ·have e:=ratio_neg n d
  rw[← e]
  obtain⟨k,hk⟩:=Int.eq_ofNat_of_zero_le (show 0 ≤ -d by omega)
  rw[hk,key (-n) k (by omega),Int.sign_eq_neg_one_of_neg h,Int.sign_neg];omega
 ·rw[h,ratio_zero_right];simp
 ·obtain⟨k,hk⟩:=Int.eq_ofNat_of_zero_le (show 0≤d by omega)
  rw[hk,key n k (by omega),← hk,Int.sign_eq_one_of_pos h];omega
theorem ratio_small {n:Int} {d:Nat} (hd:0<d):(ratio n d).num.natAbs≤n.natAbs/\(ratio n d).den≤d:=by
 have g:=gcd_pos_right (n:=n) hd
 constructor
 ·have h:=congrArg Int.natAbs (ratio_num_mul (n:=n) hd)
  rw[Int.natAbs_mul,Int.natAbs_natCast]at h
  rw[← h];exact Nat.le_mul_of_pos_right _ g
 ·have h:=ratio_den_mul (n:=n) hd
  have:=Nat.le_mul_of_pos_right (ratio n d).den g
  omega
theorem rat_sign_zero (x:Rat):x.num.sign=0↔x=0:=by
 rw[Int.sign_eq_zero_iff_zero]
 exact Rat.num_eq_zero
end Go.Proofs.YtkmbnldginonbaaGreat
