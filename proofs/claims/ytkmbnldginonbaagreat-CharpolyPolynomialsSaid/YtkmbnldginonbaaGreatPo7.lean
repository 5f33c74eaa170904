/- What it is for a slice to read as digits to base 2^32, kept over whatever leaves old memory as it was. -/
import Derived.Test.YtkmbnldginonbaaGreatRows
import Derived.WalkKit
import Derived.WalkSpells
import Derived.WalkLawsBesides
import Derived.Lib.Hide
import Derived.Test.YtkmbnldginonbaaGreatPo5
import Derived.Handy
import Derived.Deep.QuietTactic
import Derived.BigQuiet
import Derived.Deep.RegionHeld3
import Derived.StillTailTactics
import Derived.Deep.DeepCutAuto
import Derived.Deep.CutBlock
set_option maxHeartbeats 1000000
namespace Go.Proofs.YtkmbnldginonbaaGreat
open Go.RowKit
def Dig (w:World) (A:Option Addr) (n:Nat) (ds:List Nat):Prop :=
 n=ds.length/\Dg.ok ds/\(0<n->∃ b o,A=some ⟨b,o,none⟩/\b<w.heap.size/\∀ i (h:i<ds.length),w.cell? ⟨b,o+i,none⟩=some (.int .u32 (ds[i]:Nat)))

theorem Dig.below {w w':World} {A:Option Addr} {n:Nat} {ds:List Nat} (h:Dig w A n ds) (hb:Below w.heap.size w w'):Dig w' A n ds:=by
 refine⟨h.1,h.2.1,fun hn=>?_⟩;obtain⟨b,o,hA,hlt,hc⟩:=h.2.2 hn;exact⟨b,o,hA,Nat.lt_of_lt_of_le hlt hb.size,fun i hi=>(hb.cell (p:=⟨b,o+i,none⟩) hlt).trans (hc i hi)⟩
theorem Dig.len {w:World} {A:Option Addr} {n:Nat} {ds:List Nat} (h:Dig w A n ds):n=ds.length:=h.1
theorem Dig.at_ {w : World} {A : Option Addr} {n : Nat} {ds : List Nat} (h : Dig w A n ds) (hn : 0 < n) :
  ∃ b o,A=some ⟨b,o,none⟩/\b<w.heap.size/\∀ i,i<n->w.cell? ⟨b,o+i,none⟩=some (.int .u32 ((ds[i]?.getD 0:Nat):Int)):=by
 obtain⟨b,o,hA,hlt,hc⟩:=h.2.2 hn;refine⟨b,o,hA,hlt,fun i hi=>?_⟩;have hl:=h.1;have hi':i<ds.length:=by omega
 rw[hc i hi',List.getElem?_eq_getElem hi'];rfl
theorem Dig.take {w:World} {A:Option Addr} {n k:Nat} {ds:List Nat} (h:Dig w A n ds) (hk:k<=n):Dig w A k (ds.take k):=by
 have hl:=h.1;refine⟨by rw[List.length_take];omega,Dg.ok_take h.2.1 k,fun h0=>?_⟩;obtain⟨b,o,hA,hlt,hc⟩:=h.2.2 (by omega);exact⟨b,o,hA,hlt,fun i hi=>by rw[List.getElem_take];exact hc i _⟩
theorem trim_prefix (ds:List Nat):Dg.trim ds=ds.take (Dg.trim ds).length:=by
 induction ds with
 | nil=>rfl
 | cons d l ih =>
  unfold Dg.trim;split
  ·split <;> simp
  ·rename_i r h;simp only[List.length_cons,List.take_succ_cons];rw[<- ih]
theorem zf (ds:List Nat):(Dg.trim ds).length<=ds.length:=by
 have:=congrArg List.length (trim_prefix ds);rw[List.length_take]at this;omega
theorem Dig.trim {w:World} {A:Option Addr} {n:Nat} {ds:List Nat} (h:Dig w A n ds):Dig w A (Dg.trim ds).length (Dg.trim ds):=by
 have:=h.take (k:=(Dg.trim ds).length) (by have:=h.len;have:=zf ds;omega);rwa [<- trim_prefix]at this
theorem Dig.alloc {w:World} {A:Option Addr} {n:Nat} {ds:List Nat} (h:Dig w A n ds) (o:Obj):Dig (w.alloc o) A n ds:=h.below ((Below.refl _ _).alloc (Nat.le_refl _) o)
theorem Dig.drew {w:World} {A:Option Addr} {n:Nat} {ds:List Nat} (h:Dig w A n ds):Dig w.drew A n ds:=h
theorem Dig.nil (w:World):Dig w none 0 []:=⟨rfl,Dg.ok_nil,fun h=>absurd h (by omega)⟩
theorem Dig.ok {w:World} {A:Option Addr} {n:Nat} {ds:List Nat} (h:Dig w A n ds):Dg.ok ds:=h.2.1
theorem Dig.of_block {w : World} {b t : Nat} {cs : Array Value} {ds : List Nat} {m : Nat × Nat} (h : w.heap[b]? = some (.cells cs t m)) (hc : cs.toList = ds.map fun d : Nat => Value.int .u32 d) (ho : Dg.ok ds) :
  Dig w (some ⟨b,0,none⟩) ds.length ds:=by
 refine⟨rfl,ho,fun _=>⟨b,0,rfl,?_,fun i hi=>?_⟩⟩
 ·rcases Nat.lt_or_ge b w.heap.size with h1 | h1
  ·exact h1
  ·rw[Array.getElem?_eq_none h1]at h;cases h
 ·simp only[World.cell?,h,Nat.zero_add];have:cs[i]? = cs.toList[i]? := by simp
  simp only[Option.isSome_none];rw[if_neg (by simp),this,hc];simp[hi]

def LIM:Nat:=2^40
def u32s (ds:List Nat):List Value:=ds.map fun d:Nat=>Value.int .u32 d
theorem WJ (ds:List Nat):(u32s ds).length=ds.length:=by simp[u32s]
theorem u32s_set (ds:List Nat) (i d:Nat):(u32s ds).set i (.int .u32 d)=u32s (ds.set i d):=by simp[u32s,List.map_set]
theorem u32s_get (ds:List Nat) (i:Nat) (h:i<ds.length):(u32s ds)[i]? = some (.int .u32 ((ds[i]?.getD 0:Nat):Int)):=by simp[u32s,h]
def OwnD (w:World) (base g n:Nat) (ds:List Nat):Prop:=ds.length=n/\Dg.ok ds/\w.ownsRow base 119 1 (.slice (some ⟨g,0,none⟩) n n) n (u32s ds)
theorem OwnD.cell {w:World} {base g n:Nat} {ds:List Nat} (h:OwnD w base g n ds) {i:Nat} (hi:i<n):w.cell? ⟨g,i,none⟩=some (.int .u32 ((ds[i]?.getD 0:Nat):Int)):=by
 rw[h.2.2.cellAt i (by omega),u32s_get ds i (by have:=h.1;omega)]
theorem OwnD.frozen {w:World} {base g n:Nat} {ds:List Nat} (h:OwnD w base g n ds) (i:Nat):w.frozen? ⟨g,i,none⟩=false:=h.2.2.frozenAt i
theorem OwnD.set_ {w:World} {base g n:Nat} {ds:List Nat} (h:OwnD w base g n ds) (i d:Nat) (hd:d<Dg.B):OwnD (w.setCell ⟨g,i,none⟩ (.int .u32 d)) base g n (ds.set i d):=by
 refine⟨by simpa using h.1,Dg.ok_set h.2.1 hd,?_⟩;rw[<- u32s_set];exact(h.2.2.stored i _).1
theorem OwnD.base {w:World} {base g n:Nat} {ds:List Nat} (h:OwnD w base g n ds):base<=g/\g<w.heap.size:=h.2.2.lt g rfl
theorem OwnD.below {w w':World} {base g n:Nat} {ds:List Nat} (h:OwnD w base g n ds) (hb:Below w.heap.size w w'):OwnD w' base g n ds:=by
 exact⟨h.1,h.2.1,h.2.2.kept (row:=none) (w':=w') ⟨hb.os,hb.tape,hb.output,hb.size,fun k hk _=>hb.block k hk⟩ (.inr (by simp[Value.ownBlock]))⟩
theorem OwnD.dig {w:World} {base g n:Nat} {ds:List Nat} (h:OwnD w base g n ds):Dig w (some ⟨g,0,none⟩) n ds:=by
 refine⟨h.1.symm,h.2.1,fun _=>⟨g,0,rfl,h.base.2,fun i hi=>?_⟩⟩;rw[Nat.zero_add,h.cell (by have:=h.1;omega)];simp[hi]
theorem OwnD.made {w:World} {base g n:Nat} (h:w.ownsRow base 119 1 (.slice (some ⟨g,0,none⟩) n n) n (madeCells (Value.int .u32 0).cells (n*1)).toList):OwnD w base g n (List.replicate n 0):=by
 refine⟨by simp,Dg.ok_replicate n,?_⟩;have e:(madeCells (Value.int .u32 0).cells (n*1)).toList=u32s (List.replicate n 0):=by
  rw[Nat.mul_one];show(madeCells #[Value.int .u32 0] n).toList=_;rw[toList_madeCells_one];simp[u32s]
 rwa [e]at h

def RInt (w:World) (v:Value) (x:Int) (L:Nat):Prop :=
 ∃ neg A n c ds,v = .agg #[.bool neg,.slice A n c]/\Dig w A n ds/\n<=c/\n<=L/\x=sgn neg (Dg.val ds)
def NInt (w:World) (v:Value) (x:Int) (L:Nat):Prop :=
 ∃ neg A n c ds,v = .agg #[.bool neg,.slice A n c]/\Dig w A n ds/\n<=c/\n<=L/\x=sgn neg (Dg.val ds)/\Dg.trimmed ds/\(neg=true->0<n)
theorem RInt.below {w w':World} {v:Value} {x:Int} {L:Nat} (h:RInt w v x L) (hb:Below w.heap.size w w'):RInt w' v x L:=by
 obtain⟨neg,A,n,c,ds,h1,h2,h3⟩:=h;exact⟨neg,A,n,c,ds,h1,h2.below hb,h3⟩
theorem NInt.below {w w':World} {v:Value} {x:Int} {L:Nat} (h:NInt w v x L) (hb:Below w.heap.size w w'):NInt w' v x L:=by
 obtain⟨neg,A,n,c,ds,h1,h2,h3⟩:=h;exact⟨neg,A,n,c,ds,h1,h2.below hb,h3⟩
theorem NInt.mono {w:World} {v:Value} {x:Int} {L L':Nat} (h:NInt w v x L) (hL:L<=L'):NInt w v x L':=by
 obtain⟨neg,A,n,c,ds,h1,h2,h3,h4,h5⟩:=h;exact⟨neg,A,n,c,ds,h1,h2,h3,by omega,h5⟩
theorem xv {B:Nat} {a w:World} (h:Below B a w) (k:Nat):Below B a (w.drewN k):=⟨h.os,h.tape,h.output,h.size,h.block⟩
theorem yg {k:IntKind} {a b:Int} (h:a=b):Ending.returned (.int k a) = .returned (.int k b):=by rw[h]
theorem zk {a b c:World} (h:Below a.heap.size a b) (k:Below b.heap.size b c):Below a.heap.size a c:=h.trans (k.mono h.size)
end Go.Proofs.YtkmbnldginonbaaGreat
/- The functions trimmed, signed, wide, word, sign of package bigint: what each computes. The lengths are at most maxLen. -/
namespace Go.Proofs.YtkmbnldginonbaaGreat
open Go.RowKit
theorem trim_snoc_zero (l:List Nat):Dg.trim (l++[0])=Dg.trim l:=by
 induction l with
 | nil=>rfl
 | cons d l ih=>simp only[List.cons_append,Dg.trim,ih]
theorem trim_take_of_zero {ds:List Nat} {k:Nat} (hk:k<ds.length) (h0:ds[k]?.getD 0=0):Dg.trim (ds.take (k+1))=Dg.trim (ds.take k):=by
 rw[List.take_succ_eq_append_getElem hk];have:ds[k]=0:=by simpa [hk] using h0
 rw[this,trim_snoc_zero]
theorem trim_take_of_pos {ds:List Nat} {k:Nat} (ho:Dg.ok ds) (hk:k<ds.length) (h0:ds[k]?.getD 0≠0):Dg.trim (ds.take (k+1))=ds.take (k+1):=by
 refine Dg.trim_of_trimmed (Dg.ok_take ho _) ?_;rw[List.take_succ_eq_append_getElem hk];intro d hd;rw[List.getLast?_concat]at hd;injection hd with hd;subst hd;simpa [hk] using h0
theorem nat_beq_zero {d:Nat}:(((d:Int) == 0)=true->d=0)/\(((d:Int) == 0)=false->d≠0):=by
 constructor <;> intro h <;> simp at h <;> omega

theorem ret_slice {A:Option Addr} {n m c:Nat} (h:n=m):Ending.returned (.slice A n c) = .returned (.slice A m c):=by rw[h]

theorem zK (A : Option Addr) (n c : Nat) (ds : List Nat) (w : World) (hd : Dig w A n ds) (hn : n ≤ maxLen) (hc : n ≤ c) :
  Calls Tryz.prog 140 #[.slice A n c] w fun e w'=>e = .returned (.slice A (Dg.trim ds).length c)/\w=w':=by
 unfold maxLen at hn;have H:=Lib.hid hd;clear hd
 go_enter Tryz.func140,Tryz.ntmps140
 go_wp2
 go_loop [0] (fun v=>∃ k,k<=n/\v = .slice A k c/\Hid (Dg.trim (ds.take k)=Dg.trim ds)) (fun v=>match v with | .slice _ k _=>k | _=>0)
 case atStart=>exact⟨n,by omega,rfl,by show _=_;rw[List.take_of_length_le (by have:=H.out.len;omega)]⟩
 case round =>
  obtain⟨k,hk,rfl,HI⟩:=hrel;by_cases h0:0<k
  ·obtain⟨b,o,rfl,hlt,hcell⟩:=H.out.at_ (by omega);have hck:=hcell (k-1) (by omega);clear hcell
   go_wp2
   ·go_round
    case rel =>
     have hz:ds[k-1]?.getD 0=0:=nat_beq_zero.1 (by assumption);refine⟨k-1,by omega,rfl,?_⟩;show _=_;have:=trim_take_of_zero (k:=k-1) (by have:=H.out.len;omega) hz;rw[<- this,Nat.sub_add_cancel h0];exact HI.out
    case measure=>simp;omega
   ·go_ret
    have hz:ds[k-1]?.getD 0≠0:=nat_beq_zero.2 (by assumption);have:=trim_take_of_pos (k:=k-1) H.out.2.1 (by have:=H.out.len;omega) hz;rw[Nat.sub_add_cancel h0]at this;exact⟨ret_slice (by rw[<- HI.out,this,List.length_take];have:=H.out.len;omega),rfl⟩
  ·obtain rfl:k=0:=by omega
   go_wp2
   go_ret
   exact⟨ret_slice (by rw[<- HI.out];rfl),rfl⟩

theorem z6 (neg : Bool) (A : Option Addr) (n c : Nat) (ds : List Nat) (w : World) (hd : Dig w A n ds) (hn : n ≤ maxLen) (hc : n ≤ c) :
  Calls Tryz.prog 134 #[.bool neg,.slice A n c] w fun e w'=>∃ v,e = .returned v/\NInt w' v (sgn neg (Dg.val ds)) n/\Below w.heap.size w w':=by
 have H:=Lib.hid hd;clear hd;have hmx:n<=9223372036854775807:=by unfold maxLen at hn;exact hn
 have key:∀(W:World) (nb:Bool),nb=(neg&&decide (0<(Dg.trim ds).length))->Below w.heap.size w W ->
   ∃ v,Ending.returned (.agg #[.bool nb,.slice A (Dg.trim ds).length c]) = .returned v/\NInt W v (sgn neg (Dg.val ds)) n/\Below w.heap.size w W:=by
  intro W nb hnb hb;have hl:=zf ds;have hl2:=H.out.len;refine⟨_,rfl,⟨nb,A,_,c,Dg.trim ds,rfl,H.out.trim.below hb,by omega,by omega,?_,Dg.trim_trimmed _,?_⟩,hb⟩
  ·rw[Dg.val_trim,hnb];by_cases h0:0<(Dg.trim ds).length
   ·simp[h0]
   ·have h1:(Dg.trim ds).length=0:=by omega
    have h2:Dg.val ds=0:=by rw[<- Dg.val_trim,List.length_eq_zero_iff.1 h1];rfl
    rw[h2];cases neg <;> simp[sgn]
  ·rw[hnb];intro h;simp at h;simpa [List.length_pos_iff] using h.2
 have hle:(Dg.trim ds).length<=9223372036854775807:=by have:=zf ds;have:=H.out.len;omega
 have T:∀ W,Below w.heap.size w W->Calls Tryz.prog 140 #[.slice A n c] W fun e w'=>e = .returned (.slice A (Dg.trim ds).length c)/\W=w' :=
  fun W hb=>zK A n c ds W (H.out.below hb) hn hc
 generalize (Dg.trim ds).length=m at key hle T;have K:=Lib.hid key;have T':=Lib.hid T;clear key T;cases neg;all_goals
  by_cases h0:0<m;all_goals
   go_enter Tryz.func134,Tryz.ntmps134
   go_wp2_with (go_at_call 140;refine(T'.out _ (by go_grown)).mono ?_;rintro e w' ⟨rfl,rfl⟩)
   refine bodyPost_ret (v := .agg #[.bool _,.slice A m c]) (by simp[results,Tryz.results134,go_sem];try rfl) rfl ?_;refine K.out _ _ ?_ ?_
   ·simp[h0]
   ·go_grown
end Go.Proofs.YtkmbnldginonbaaGreat
/- The functions wide, word, sign, compare of package bigint: what each computes. -/
namespace Go.Proofs.YtkmbnldginonbaaGreat
open Go.RowKit
def IsDig (w:World) (v:Value) (x L:Nat):Prop:=∃ A n c ds,v = .slice A n c/\Dig w A n ds/\n<=c/\n<=L/\Dg.trimmed ds/\Dg.val ds=x

theorem IsDig.new (w : World) (t : Nat) (cs : Array Value) (ds : List Nat) (L : Nat) (hc : cs.toList = ds.map fun d : Nat => Value.int .u32 d) (ho : Dg.ok ds) (ht : Dg.trimmed ds) (hL : ds.length ≤ L) :
  IsDig (w.alloc (.cells cs t)) (.slice (some ⟨w.heap.size,0,none⟩) ds.length ds.length) (Dg.val ds) L :=
 ⟨_,_,_,ds,rfl,Dig.of_block (heap_alloc_new w _) hc ho,Nat.le_refl _,hL,ht,rfl⟩
theorem IsDig.below {w w':World} {v:Value} {x L:Nat} (h:IsDig w v x L) (hb:Below w.heap.size w w'):IsDig w' v x L:=by
 obtain⟨A,n,c,ds,h1,h2,h3⟩:=h;exact⟨A,n,c,ds,h1,h2.below hb,h3⟩
theorem trimmed_one {x:Nat} (h:0<x):Dg.trimmed [x]:=by intro d hd;simp at hd;omega
theorem trimmed_two {x y:Nat} (h:0<y):Dg.trimmed [x,y]:=by intro d hd;simp at hd;omega
theorem v7 (x : Nat) (w : World) (hx : x < Dg.B * Dg.B) :
  Calls Tryz.prog 135 #[.int .u64 x] w fun e w'=>∃ v,e = .returned v/\IsDig w' v x 2/\Below w.heap.size w w':=by
 have HX:=Lib.hid hx;clear hx;by_cases h0:x=0
 ·subst h0
  go_enter Tryz.func135,Tryz.ntmps135
  go_wp2
  go_ret
  exact⟨_,rfl,⟨none,0,0,[],rfl,Dig.nil _,by omega,by omega,by intro d h;simp at h,rfl⟩,Below.refl _ _⟩
 ·obtain⟨X,hX⟩:∃ X:Int,X=x:=⟨_,rfl⟩;have hX0:0<X:=by omega
  rw[<- hX];have HXe:=Lib.hid hX;clear hX h0;by_cases h1:X<4294967296
  ·have hb:(X == 0)=false:=by simp;omega
   go_enter Tryz.func135,Tryz.ntmps135
   go_wp2
   go_ret
   have hx1:x<Dg.B:=by have:=HXe.out;rw[Dg.B_eq];omega
   have hc:(#[Value.int .u32 (X%4294967296)]:Array Value).toList=[x].map fun d:Nat=>Value.int .u32 d:=by
    have:=HXe.out;simp;omega
   have R:=IsDig.new w 119 _ [x] 2 hc (Dg.ok_cons.2 ⟨hx1,Dg.ok_nil⟩) (trimmed_one (by have:=HXe.out;omega)) (by simp);have hv:Dg.val [x]=x:=by simp[Dg.val]
   rw[hv,show X%4294967296=X from by omega]at R;exact⟨_,rfl,R,by go_grown⟩
  ·have hb:(X == 0)=false:=by simp;omega
   go_enter Tryz.func135,Tryz.ntmps135
   go_wp2
   go_ret
   have hx2:x / Dg.B<Dg.B:=Nat.div_lt_of_lt_mul HX.out;have hx3:x%Dg.B<Dg.B:=Nat.mod_lt _ Dg.B_pos;have hx4:0<x / Dg.B:=by have:=HXe.out;rw[Dg.B_eq];omega
   have hc:(#[Value.int .u32 (X%4294967296),Value.int .u32 (X / 4294967296%4294967296)]:Array Value).toList=[x%Dg.B,x / Dg.B].map fun d:Nat=>Value.int .u32 d:=by
    have:=HXe.out;rw[Dg.B_eq]at hx2 ⊢
    simp;omega
   have R:=IsDig.new w 119 _ [x%Dg.B,x / Dg.B] 2 hc (Dg.ok_cons.2 ⟨hx3,Dg.ok_cons.2 ⟨hx2,Dg.ok_nil⟩⟩) (trimmed_two hx4) (by simp);have hv:Dg.val [x%Dg.B,x / Dg.B]=x:=by simp only[Dg.val,Nat.mul_zero,Nat.add_zero];exact Nat.mod_add_div x Dg.B
   rw[hv]at R;exact⟨_,rfl,R,by go_grown⟩
theorem sign_any (x : Int) (w : World) :
  Calls Tryz.prog 178 #[.int .i64 x] w fun e w'=>e = .returned (.int .i64 x.sign)/\w=w':=by
 rcases Int.lt_trichotomy x 0 with h | h | h
 ·have e:x.sign = -1:=Int.sign_eq_neg_one_of_neg h;rw[e];clear e
  go_enter Tryz.func178,Tryz.ntmps178
  go_wp2
  go_ret
  exact⟨rfl,rfl⟩
 ·subst h
  go_enter Tryz.func178,Tryz.ntmps178
  go_wp2
  go_ret
  exact⟨rfl,rfl⟩
 ·have e:x.sign=1:=Int.sign_eq_one_of_pos h;rw[e];clear e
  go_enter Tryz.func178,Tryz.ntmps178
  go_wp2
  go_ret
  exact⟨rfl,rfl⟩

theorem word_any (A : Option Addr) (n c : Nat) (ds : List Nat) (w : World) (hd : Dig w A n ds) (h2 : n ≤ 2) :
  Calls Tryz.prog 172 #[.slice A n c] w fun e w'=>e = .returned (.int .u64 (Dg.val ds:Nat))/\Below w.heap.size w w':=by
 have H:=Lib.hid hd;clear hd;match n,h2 with
 | 0,_ =>
  obtain rfl:ds=[]:=List.length_eq_zero_iff.1 H.out.len.symm
  go_enter Tryz.func172,Tryz.ntmps172
  go_wp2
  go_ret
  exact⟨rfl,Below.refl _ _⟩
 | 1,_ =>
  obtain⟨b,o,rfl,hlt,hcell⟩:=H.out.at_ (by omega);obtain⟨d,rfl⟩:=List.length_eq_one_iff.1 H.out.len.symm;have h0:=hcell 0 (by omega);have hb:=(Dg.ok_cons.1 H.out.ok).1;rw[Dg.B_eq]at hb;simp only[List.getElem?_cons_zero,Option.getD_some,Nat.add_zero]at h0;obtain⟨X,hX⟩:∃ X:Int,X=d:=⟨_,rfl⟩;have hX0:0<=X:=by omega
  have hX1:X<4294967296:=by omega
  rw[<- hX]at h0;have HXe:=Lib.hid hX;clear hX hb hcell
  go_enter Tryz.func172,Tryz.ntmps172
  go_wp2
  go_ret
  exact⟨by rw[HXe.out];simp[Dg.val],Below.refl _ _⟩
 | 2,_ =>
  obtain⟨b,o,rfl,hlt,hcell⟩:=H.out.at_ (by omega);obtain⟨d,d',rfl⟩:∃ d d',ds=[d,d']:=by
   have:=H.out.len;match ds,this with
   | [d,d'],_=>exact⟨d,d',rfl⟩
  have h0:=hcell 0 (by omega);have h1:=hcell 1 (by omega);have hb:=Dg.ok_cons.1 H.out.ok;have hb':=(Dg.ok_cons.1 hb.2).1;have hb:=hb.1;simp only[List.getElem?_cons_zero,List.getElem?_cons_succ,Option.getD_some,Nat.add_zero]at h0 h1;have HB:=Lib.hid hb;have HB':=Lib.hid hb';rw[Dg.B_eq]at hb hb';obtain⟨X,hX⟩:∃ X:Int,X=d:=⟨_,rfl⟩;have hX0:0<=X:=by omega
  have hX1:X<4294967296:=by omega
  rw[<- hX]at h0;have HXe:=Lib.hid hX;obtain⟨Y,hY⟩:∃ X:Int,X=d':=⟨_,rfl⟩;have hY0:0<=Y:=by omega
  have hY1:Y<4294967296:=by omega
  rw[<- hY]at h1;have HYe:=Lib.hid hY;clear hX hY hb hb' hcell
  go_enter Tryz.func172,Tryz.ntmps172
  go_wp2
  go_quiet (fail)
  go_wp2
  go_ret
  have e:bits BinOp.or .u64 (Y*4294967296) X=((Dg.val [d,d']:Nat):Int):=by
   have h1:=HB.out;have h2:=HB'.out;have h3:=Dg.or_high (x:=d) (h:=d') h1;have e1:Y*4294967296=((d'*Dg.B:Nat):Int):=by rw[HYe.out,Dg.B_eq];omega
   rw[e1,HXe.out,u64_or_nat _ _ (by rw[Dg.B_eq]at *;omega) (by rw[Dg.B_eq]at *;omega),Nat.or_comm,h3];simp only[Dg.val,Nat.mul_zero,Nat.add_zero];rw[Nat.mul_comm]
  exact⟨by rw[e];rfl,xv (Below.refl _ _) _⟩
end Go.Proofs.YtkmbnldginonbaaGreat
/- The function compare of package bigint: the order of two numbers by their digits, which have no leading zeros. -/
namespace Go.Proofs.YtkmbnldginonbaaGreat
open Go.RowKit
def cmpN (a b:Nat):Int:=((a:Int)-b).sign
theorem cmpN_lt {a b:Nat} (h:a<b):cmpN a b = -1:=Int.sign_eq_neg_one_of_neg (by omega)
theorem WB {a b:Nat} (h:b<a):cmpN a b=1:=Int.sign_eq_one_of_pos (by omega)
theorem Up (a:Nat):cmpN a a=0:=by simp[cmpN]
theorem cmp_top {a b:List Nat} {q n:Nat} (hA:n=a.length) (hB:n=b.length) (oa:Dg.ok a) (hq:q<n) (hd:a.drop (q+1)=b.drop (q+1)) (h:a[q]?.getD 0<b[q]?.getD 0):Dg.val a<Dg.val b:=by
 refine Dg.lt_of_top oa (by omega) (by omega) hd ?_;rwa [List.getElem?_eq_getElem (by omega),List.getElem?_eq_getElem (by omega)]at h
theorem cmp_same {a b:List Nat} {q n:Nat} (hA:n=a.length) (hB:n=b.length) (hq:q<n) (hd:a.drop (q+1)=b.drop (q+1)) (h:a[q]?.getD 0=b[q]?.getD 0):a.drop q=b.drop q:=by
 rw[List.drop_eq_getElem_cons (l:=a) (i:=q) (by omega),List.drop_eq_getElem_cons (l:=b) (i:=q) (by omega),hd];congr 1;rwa [List.getElem?_eq_getElem (by omega),List.getElem?_eq_getElem (by omega)]at h
theorem y9 (A A' : Option Addr) (n c n' c' : Nat) (a b : List Nat) (w : World) (ha : Dig w A n a) (hb : Dig w A' n' b) (ta : Dg.trimmed a) (tb : Dg.trimmed b) (hn : n ≤ maxLen) (hn' : n' ≤ maxLen) :
  Calls Tryz.prog 170 #[.slice A n c,.slice A' n' c'] w fun e w'=>e = .returned (.int .i64 (cmpN (Dg.val a) (Dg.val b)))/\Below w.heap.size w w':=by
 unfold maxLen at hn hn';have HA:=Lib.hid ha;have HB:=Lib.hid hb;have TA:=Lib.hid ta;have TB:=Lib.hid tb;clear ha hb ta tb;by_cases hne:n=n'
 ·subst hne
  go_enter Tryz.func170,Tryz.ntmps170
  go_wp2
  go_loopw [5] (fun v wr=>∃ k,k<=n/\v = .int .i64 ((k:Int)-1)/\Hid (a.drop k=b.drop k)/\Below w.heap.size w wr) (fun v _=>(intOf v+1).toNat)
  case atStart=>exact⟨n,by omega,rfl,by show _=_;rw[List.drop_of_length_le (by have:=HA.out.len;omega),List.drop_of_length_le (by have:=HB.out.len;omega)],Below.refl _ _⟩
  case round =>
   obtain⟨k,hk,rfl,HI,hbw⟩:=hrel;by_cases h0:0<k
   ·obtain⟨b1,o1,rfl,hlt1,hcell1⟩:=(HA.out.below hbw).at_ (by omega);obtain⟨b2,o2,rfl,hlt2,hcell2⟩:=(HB.out.below hbw).at_ (by omega);obtain⟨q,rfl⟩:∃ q,k=q+1:=⟨k-1,by omega⟩;have hc1:=hcell1 q (by omega);have hc2:=hcell2 q (by omega);clear hcell1 hcell2;have hi0:(0:Int)<=q:=by omega
    have hi1:(q:Int)<n:=by omega
    obtain⟨x,hx⟩:∃ x,x=a[q]?.getD 0:=⟨_,rfl⟩;obtain⟨y,hy⟩:∃ y,y=b[q]?.getD 0:=⟨_,rfl⟩;rw[<- hx]at hc1;rw[<- hy]at hc2;have HX:=Lib.hid hx;have HY:=Lib.hid hy;clear hx hy;rcases Nat.lt_trichotomy x y with hxy | hxy | hxy
    ·have hv:=cmpN_lt (cmp_top HA.out.len HB.out.len HA.out.ok (by omega) HI.out (by rw[<- HX.out,<- HY.out];exact hxy));have HV:=Lib.hid hv;clear hv;have hb1:((x:Int) != (y:Int))=true:=by rw[bne_iff_ne];omega
     go_wp2
     go_quiet (fail)
     go_wp2
     go_quiet (fail)
     go_wp2
     go_ret
     exact⟨yg HV.out.symm,xv (xv hbw _) _⟩
    ·have hv:=cmp_same HA.out.len HB.out.len (by omega) HI.out (by rw[<- HX.out,<- HY.out];exact hxy);have HV:=Lib.hid hv;clear hv;have hb1:((x:Int) != (y:Int))=false:=by rw[bne_eq_false_iff_eq];omega
     clear hxy
     go_wp2
     go_quiet (fail)
     go_wp2
     go_roundw
     case rel=>exact⟨q,by omega,rfl,HV.out,xv hbw _⟩
     case measure=>simp[intOf] <;> omega
    ·have hv:=WB (cmp_top HB.out.len HA.out.len HB.out.ok (by omega) HI.out.symm (by rw[<- HX.out,<- HY.out];exact hxy));have HV:=Lib.hid hv;clear hv;have hb1:((x:Int) != (y:Int))=true:=by rw[bne_iff_ne];omega
     go_wp2
     go_quiet (fail)
     go_wp2
     go_quiet (fail)
     go_wp2
     go_ret
     exact⟨yg HV.out.symm,xv (xv hbw _) _⟩
   ·obtain rfl:k=0:=by omega
    have hv:cmpN (Dg.val a) (Dg.val b)=0:=by
     have h1:=HI.out;simp only[List.drop_zero]at h1;rw[h1];exact Up _
    have HV:=Lib.hid hv;clear hv
    go_wp2
    go_ret
    exact⟨yg HV.out.symm,hbw⟩
 ·have hv:cmpN (Dg.val a) (Dg.val b)=((n:Int)-n').sign:=by
   rcases Nat.lt_or_gt_of_ne hne with h | h
   ·rw[cmpN_lt (Dg.val_lt_of_length HA.out.ok TB.out (by have:=HA.out.len;have:=HB.out.len;omega)),Int.sign_eq_neg_one_of_neg (by omega)]
   ·rw[WB (Dg.val_lt_of_length HB.out.ok TA.out (by have:=HA.out.len;have:=HB.out.len;omega)),Int.sign_eq_one_of_pos (by omega)]
  have HV:=Lib.hid hv;clear hv;have hb1:((n:Int) != (n':Int))=true:=by rw[bne_iff_ne];omega
  go_enter Tryz.func170,Tryz.ntmps170
  go_wp2_with (go_at_call 178;refine(sign_any _ _).mono ?_;rintro e w' ⟨rfl,rfl⟩)
  go_ret
  exact⟨yg HV.out.symm,Below.refl _ _⟩
end Go.Proofs.YtkmbnldginonbaaGreat
/- The functions Add32, Sub32, Div32 of package math/bits: what each computes on numbers below 2^32. -/
namespace Go.Proofs.YtkmbnldginonbaaGreat
open Go.RowKit
theorem top_dec {e:Nat} (h:e<4294967296):e.testBit 31=decide (2147483648<=e):=by
 rw[Nat.testBit_eq_decide_div_mod_eq];simp only[show(2:Nat)^31=2147483648 from rfl];by_cases h1:2147483648<=e
 ·simp[h1];omega
 ·simp[h1];omega
theorem sub_bits (x y c d : Nat) (hx : x < 4294967296) (hy : y < 4294967296) (hc : c ≤ 1) (hd : d < 4294967296) (b : Nat) (hb : d + y + c = x + 4294967296 * b) :
  (((4294967295 ^^^ x) &&& y) ||| ((4294967295 ^^^ (x ^^^ y)) &&& d)) / 2147483648=b:=by
 have hE:(((4294967295 ^^^ x) &&& y) ||| ((4294967295 ^^^ (x ^^^ y)) &&& d))<4294967296:=by
  have h1:(4294967295 ^^^ x) &&& y<2^32:=Nat.and_lt_two_pow _ hy;have h2:(4294967295 ^^^ (x ^^^ y)) &&& d<2^32:=Nat.and_lt_two_pow _ hd;exact Nat.or_lt_two_pow h1 h2
 have hT:(((4294967295 ^^^ x) &&& y) ||| ((4294967295 ^^^ (x ^^^ y)) &&& d)).testBit 31=decide (b=1):=by
  simp only[Nat.testBit_or,Nat.testBit_and,Nat.testBit_xor,top_dec hx,top_dec hy,top_dec hd];have e:Nat.testBit 4294967295 31=true:=by decide
  rw[e];by_cases h1:2147483648<=x <;> by_cases h2:2147483648<=y <;> by_cases h3:2147483648<=d <;> simp[h1,h2,h3] <;> omega
 rw[top_dec hE]at hT;have:b<=1:=by omega
 by_cases h:b=1
 ·simp[h]at hT;omega
 ·simp[h]at hT;omega

def bor (x y c:Int):Int:=if x<y+c then 1 else 0
theorem kx (x y c:Int):(x<y+c/\bor x y c=1)∨(y+c<=x/\bor x y c=0):=by
 unfold bor;split <;> omega
theorem sub_bits_int (x y c : Int) (hx : 0 ≤ x) (hx' : x < 4294967296) (hy : 0 ≤ y) (hy' : y < 4294967296) (hc : 0 ≤ c) (hc' : c ≤ 1) :
  bits BinOp.or IntKind.u32 (bits BinOp.and IntKind.u32 (bits BinOp.xor IntKind.u32 IntKind.u32.max x) y)
   (bits BinOp.and IntKind.u32 (bits BinOp.xor IntKind.u32 IntKind.u32.max (bits BinOp.xor IntKind.u32 x y)) ((x-y-c)%4294967296)) / 2147483648=bor x y c:=by
 obtain⟨a,rfl⟩:=Int.eq_ofNat_of_zero_le hx;obtain⟨b,rfl⟩:=Int.eq_ofNat_of_zero_le hy;obtain⟨k,rfl⟩:=Int.eq_ofNat_of_zero_le hc;obtain⟨d,hd⟩:=Int.eq_ofNat_of_zero_le (a:=((a:Int)-b-k)%4294967296) (by omega);have hd':d<4294967296:=by omega
 have hmax:IntKind.u32.max=((4294967295:Nat):Int):=rfl;have h1:(4294967295 ^^^ a)<4294967296:=Nat.xor_lt_two_pow (n:=32) (by omega) (by omega);have h2:(a ^^^ b)<4294967296:=Nat.xor_lt_two_pow (n:=32) (by omega) (by omega);have h3:(4294967295 ^^^ (a ^^^ b))<4294967296:=Nat.xor_lt_two_pow (n:=32) (by omega) h2;have h4:(4294967295 ^^^ a) &&& b<4294967296:=Nat.and_lt_two_pow (n:=32) _ (by omega);have h5:(4294967295 ^^^ (a ^^^ b)) &&& d<4294967296:=Nat.and_lt_two_pow (n:=32) _ hd';rw[hd,hmax,u32_xor_nat _ _ (by omega) (by omega),u32_xor_nat _ _ (by omega) (by omega),u32_xor_nat _ _ (by omega) h2,u32_and_nat _ _ h1 (by omega),u32_and_nat _ _ h3 hd',u32_or_nat _ _ h4 h5];rcases kx a b k with⟨h,e⟩ | ⟨h,e⟩ <;> rw[e]
 ·have:=sub_bits a b k d (by omega) (by omega) (by omega) hd' 1 (by omega);omega
 ·have:=sub_bits a b k d (by omega) (by omega) (by omega) hd' 0 (by omega);omega
theorem ret_two {k l:IntKind} {a b c d:Int} (h:a=b) (h':c=d):Ending.returned (.tuple #[.int k a,.int l c]) = .returned (.tuple #[.int k b,.int l d]):=by rw[h,h']
theorem add32_any (x y c : Int) (w : World) (hx : 0 ≤ x) (hx' : x < 4294967296) (hy : 0 ≤ y) (hy' : y < 4294967296) (hc : 0 ≤ c) (hc' : c ≤ 1) :
  Calls Tryz.prog 177 #[.int .u32 x,.int .u32 y,.int .u32 c] w fun e w'=>e = .returned (.tuple #[.int .u32 ((x+y+c)%4294967296),.int .u32 ((x+y+c) / 4294967296)])/\w=w':=by
 go_enter Tryz.func177,Tryz.ntmps177
 go_wp2
 go_ret2
 exact⟨rfl,rfl⟩
theorem UY (x y c : Int) (w : World) (hx : 0 ≤ x) (hx' : x < 4294967296) (hy : 0 ≤ y) (hy' : y < 4294967296) (hc : 0 ≤ c) (hc' : c ≤ 1) :
  Calls Tryz.prog 179 #[.int .u32 x,.int .u32 y,.int .u32 c] w fun e w'=>e = .returned (.tuple #[.int .u32 ((x-y-c)%4294967296),.int .u32 (bor x y c)])/\w=w':=by
 have hs:IntKind.u32.signed=false:=rfl;have E:=Lib.hid (sub_bits_int x y c hx hx' hy hy' hc hc')
 go_enter Tryz.func179,Tryz.ntmps179
 go_wp2
 go_ret2
 exact⟨ret_two (by omega) E.out,rfl⟩
theorem div32_any (h l d : Int) (w : World) (h0 : 0 ≤ h) (hd : h < d) (hd' : d < 4294967296) (hl : 0 ≤ l) (hl' : l < 4294967296) :
  Calls Tryz.prog 187 #[.int .u32 h,.int .u32 l,.int .u32 d] w fun e w'=>e = .returned (.tuple #[.int .u32 ((h*4294967296+l) / d),.int .u32 ((h*4294967296+l)%d)])/\Below w.heap.size w w':=by
 have hb:(d != 0)=true:=by rw[bne_iff_ne];omega
 have hb2:decide (d<=h)=false:=by simp;omega
 have hor:bits BinOp.or IntKind.u64 (h*4294967296) l=h*4294967296+l:=by
  obtain⟨a,rfl⟩:=Int.eq_ofNat_of_zero_le h0;obtain⟨b,rfl⟩:=Int.eq_ofNat_of_zero_le hl;have h3:=Dg.or_high (x:=b) (h:=a) (by rw[Dg.B_eq];omega);rw[show((a:Int)*4294967296)=((a*Dg.B:Nat):Int)from by rw[Dg.B_eq];omega,u64_or_nat _ _ (by rw[Dg.B_eq];omega) (by omega),Nat.or_comm,h3];omega
 have hq0:0<=(h*4294967296+l) / d:=Int.ediv_nonneg (by omega) (by omega);have hq1:(h*4294967296+l) / d<4294967296:=by
  apply Int.ediv_lt_of_lt_mul (by omega);have:(h+1)*4294967296<=d*4294967296:=Int.mul_le_mul_of_nonneg_right (by omega) (by omega);rw[Int.mul_comm];omega
 have hr0:0<=(h*4294967296+l)%d:=Int.emod_nonneg _ (by omega);have hr1:(h*4294967296+l)%d<4294967296:=Int.lt_trans (Int.emod_lt_of_pos _ (by omega)) hd';have hd0:1<=d:=by omega
 go_enter Tryz.func187,Tryz.ntmps187
 go_wp2
 go_quiet (fail)
 go_wp2
 go_ret2
 refine⟨ret_two ?_ ?_,xv (Below.refl _ _) _⟩
 ·omega
 ·omega
end Go.Proofs.YtkmbnldginonbaaGreat
/- The function plus of package bigint: the sum of two numbers by their digits. The lengths are at most 2^40. -/
namespace Go.Proofs.YtkmbnldginonbaaGreat
open Go.RowKit
theorem gK:(Tryz.prog.info? 119).map (fun i=>(i.zero,i.size,i.bytes))=some (some (.int .u32 0),1,4):=by kernel_rfl
theorem plus_round {a b o : List Nat} {k n : Nat} {X Y C : Int} (hX : X = (a[k]?.getD 0 : Nat)) (hY : Y = (b[k]?.getD 0 : Nat)) (hC0 : 0 ≤ C) (ho : o.length = n + 1) (hk : k < n)
  (hI:Dg.val (o.take k)+Dg.B^k*C.toNat=Dg.val (a.take k)+Dg.val (b.take k)) :
  ∃ d:Nat,(X+Y+C)%4294967296=d/\d<Dg.B/\Dg.val ((o.set k d).take (k+1))+Dg.B^(k+1)*((X+Y+C) / 4294967296).toNat=Dg.val (a.take (k+1))+Dg.val (b.take (k+1)):=by
 obtain⟨c,rfl⟩:=Int.eq_ofNat_of_zero_le hC0;have h:=Dg.plus_step (a:=a) (b:=b) (o:=o) (k:=k) (c:=c) (by omega) (by simpa using hI);refine⟨(a[k]?.getD 0+b[k]?.getD 0+c)%Dg.B,?_,Nat.mod_lt _ Dg.B_pos,?_⟩
 ·rw[hX,hY,Dg.B_eq];omega
 ·rw[<- h];congr 2;rw[hX,hY,Dg.B_eq];omega
theorem plus_aux (sw : Bool) (A A' : Option Addr) (n c n' c' : Nat) (a b : List Nat) (w : World) (ha : Dig w A n a) (hb : Dig w A' n' b) (hn : n ≤ LIM) (h : n' ≤ n) (h' : sw = true → n' < n) :
  Calls Tryz.prog 169 (if sw then #[.slice A' n' c',.slice A n c]else #[.slice A n c,.slice A' n' c']) w fun e w'=>∃ g o,e = .returned (.slice (some ⟨g,0,none⟩) (n+1) (n+1))/\Dig w' (some ⟨g,0,none⟩) (n+1) o/\Dg.val o=Dg.val a+Dg.val b/\Below w.heap.size w w':=by
 have HA:=Lib.hid ha;have HB:=Lib.hid hb;clear ha hb;obtain⟨i0,hi,hz0,hz1,hz2⟩:=info_parts gK;unfold LIM at hn;rcases sw with _ | _
 case' true=>have hd:decide (n'<n)=true:=by have:=h' rfl;simp;omega
 case' false=>have hd:decide (n<n')=false:=by simp;omega
 case' true=>show Calls _ _ #[.slice A' n' c',.slice A n c] w _
 case' false=>show Calls _ _ #[.slice A n c,.slice A' n' c'] w _
 all_goals
  clear h'
  go_enter Tryz.func169,Tryz.ntmps169
  go_wp2_with (at_make;(refine wpList_make_full _ rfl _ _ 34 rfl w.heap.size 119 i0 _ 1 Tryz.underlying34 hi hz0 hz1 .i64 .i64 _ _ (n+1) rfl rfl (by omega) (by omega) (by rw[hz2];omega) (by unfold maxLen;omega) (Nat.le_refl _) ?_);intro w1 hown hgr;have HO:=Lib.hid (OwnD.made hown);clear hown;have hb1:Below w.heap.size w w1:=(Below.refl _ _).grown hgr (Nat.le_refl _) (by simp);clear hgr)
  have hs1:w1.heap.size=w1.heap.size:=rfl;clear hs1
  go_loopw [6,23] (fun u v wr=>∃(k:Nat) (C:Int) (o:List Nat),k<=n/\v = .int .i64 k/\u = .int .u32 C/\0<=C/\C<=1/\OwnD wr w.heap.size w.heap.size (n+1) o/\Hid (Dg.val (o.take k)+Dg.B^k*C.toNat=Dg.val (a.take k)+Dg.val (b.take k))/\Below w.heap.size w wr) (fun _ v _=>n-(intOf v).toNat)
  case atStart=>exact⟨0,0,_,by omega,rfl,rfl,by omega,by omega,HO.out,by show _=_;simp[Dg.val],hb1⟩
  case round =>
   obtain⟨k,C,o,hk,rfl,rfl,hC0,hC1,hO,HI,hbw⟩:=hrel;have hoc:=hO.cell (i:=k) (by omega);have hof:=hO.frozen k;have hOh:=Lib.hid hO;clear hO;by_cases hlt:k<n
   ·obtain⟨b1,o1,rfl,hl1,hcell1⟩:=(HA.out.below hbw).at_ (by omega);have hc1:=hcell1 k hlt;have hx1:(a[k]?.getD 0)<4294967296:=Dg.ok_getD HA.out.ok k;clear hcell1;obtain⟨X,hX⟩:∃ X:Int,X=(a[k]?.getD 0:Nat):=⟨_,rfl⟩;rw[<- hX]at hc1;have hX0:0<=X:=by omega
    have hX1:X<4294967296:=by omega
    have HX:=Lib.hid hX;clear hX hx1;have hdk:decide (k<n)=true:=by simp;omega
    by_cases hlt2:k<n'
    ·have hdk2:decide (k<n')=true:=by simp;omega
     obtain⟨b2,o2,rfl,hl2,hcell2⟩:=(HB.out.below hbw).at_ (by omega);have hc2:=hcell2 k hlt2;have hx1:(b[k]?.getD 0)<4294967296:=Dg.ok_getD HB.out.ok k;clear hcell2;obtain⟨Y,hY⟩:∃ X:Int,X=(b[k]?.getD 0:Nat):=⟨_,rfl⟩;rw[<- hY]at hc2;have hY0:0<=Y:=by omega
     have hY1:Y<4294967296:=by omega
     have HY:=Lib.hid hY;clear hY hx1;obtain⟨d,hd1,hd2,hd3⟩:=plus_round HX.out HY.out hC0 hOh.out.1 hlt HI.out;have HS:=Lib.hid (hOh.out.set_ k d hd2);have HD3:=Lib.hid hd3;have hS:(X+Y+C) / 4294967296<=1:=by omega
     have hS0:0<=(X+Y+C) / 4294967296:=by omega
     have hbn:Below w.heap.size w (wr.setCell ⟨w.heap.size,k,none⟩ (.int .u32 d)):=hbw.setCell (by simp) _;clear hd2 hd3
     go_wp2_with (go_at_call 177;refine(add32_any _ _ _ _ hX0 hX1 hY0 hY1 hC0 hC1).mono ?_;rintro e w' ⟨rfl,rfl⟩)
     go_roundw
     case rel=>exact⟨k+1,_,_,by omega,by go_num,rfl,hS0,hS,HS.out,HD3.out,hbn⟩
     case measure=>simp[intOf] <;> omega
    ·have hdk2:decide (k<n')=false:=by simp;omega
     have hY:(0:Int)=(b[k]?.getD 0:Nat):=by
      have:=HB.out.len;rw[List.getElem?_eq_none (by omega)];rfl
     have HY:=Lib.hid hY;clear hY;obtain⟨d,hd1,hd2,hd3⟩:=plus_round HX.out HY.out hC0 hOh.out.1 hlt HI.out;rw[Int.add_zero]at hd1 hd3;have HS:=Lib.hid (hOh.out.set_ k d hd2);have HD3:=Lib.hid hd3;have hS:(X+C) / 4294967296<=1:=by omega
     have hS0:0<=(X+C) / 4294967296:=by omega
     have hbn:Below w.heap.size w (wr.setCell ⟨w.heap.size,k,none⟩ (.int .u32 d)):=hbw.setCell (by simp) _;clear hd2 hd3
     go_wp2_with (go_at_call 177;refine(add32_any _ 0 _ _ hX0 hX1 (by omega) (by omega) hC0 hC1).mono ?_;rintro e w' ⟨rfl,rfl⟩)
     go_roundw
     case rel=>exact⟨k+1,_,_,by omega,by go_num,rfl,hS0,hS,HS.out,HD3.out,hbn⟩
     case measure=>simp[intOf] <;> omega
   ·obtain rfl:k=n:=by omega
    have hdk:decide (k<k)=false:=by simp
    obtain⟨d,rfl⟩:=Int.eq_ofNat_of_zero_le hC0;have HS:=Lib.hid (hOh.out.set_ k d (by rw[Dg.B_eq];omega));have hbn:Below w.heap.size w (wr.setCell ⟨w.heap.size,k,none⟩ (.int .u32 d)):=hbw.setCell (by simp) _
    go_wp2
    go_ret
    refine⟨_,_,rfl,HS.out.dig,?_,hbn⟩;have h1:=HI.out;have h2:=hOh.out.1;have h3:=HA.out.len;have h4:=HB.out.len;rw[List.take_of_length_le (l:=a) (by omega),List.take_of_length_le (l:=b) (by omega)]at h1;rw[<- h1,<- Dg.take_all (l:=o.set k d) (k:=k+1) (by simp;omega),Dg.val_take_set_succ (by omega)];simp

theorem plus_any (A A' : Option Addr) (n c n' c' : Nat) (a b : List Nat) (w : World) (ha : Dig w A n a) (hb : Dig w A' n' b) (hn : n ≤ LIM) (hn' : n' ≤ LIM) :
  Calls Tryz.prog 169 #[.slice A n c,.slice A' n' c'] w fun e w'=>∃ g m o,e = .returned (.slice (some ⟨g,0,none⟩) m m)/\m<=max n n'+1/\Dig w' (some ⟨g,0,none⟩) m o/\Dg.val o=Dg.val a+Dg.val b/\Below w.heap.size w w':=by
 rcases Nat.lt_or_ge n n' with h | h
 ·refine(plus_aux true A' A n' c' n c b a w hb ha hn' (by omega) (fun _=>h)).mono ?_;rintro e w' ⟨g,o,rfl,h1,h2,h3⟩;exact⟨g,n'+1,o,rfl,by omega,h1,by omega,h3⟩
 ·refine(plus_aux false A A' n c n' c' a b w ha hb hn h (by simp)).mono ?_;rintro e w' ⟨g,o,rfl,h1,h2,h3⟩;exact⟨g,n+1,o,rfl,by omega,h1,by omega,h3⟩
end Go.Proofs.YtkmbnldginonbaaGreat
/- The function less of package bigint: the difference of two numbers by their digits, of which the first is not the lesser one. The lengths are at most 2^40. -/
namespace Go.Proofs.YtkmbnldginonbaaGreat
open Go.RowKit
theorem less_round {a b o : List Nat} {k n : Nat} {X Y C : Int} (hX : X = (a[k]?.getD 0 : Nat)) (hY : Y = (b[k]?.getD 0 : Nat)) (hX1 : X < 4294967296) (hY1 : Y < 4294967296) (hC0 : 0 ≤ C) (hC1 : C ≤ 1) (ho : o.length = n) (hk : k < n)
  (hI:Dg.val (o.take k)+Dg.val (b.take k)=Dg.val (a.take k)+Dg.B^k*C.toNat) :
  ∃ d:Nat,(X-Y-C)%4294967296=d/\d<Dg.B/\Dg.val ((o.set k d).take (k+1))+Dg.val (b.take (k+1))=Dg.val (a.take (k+1))+Dg.B^(k+1)*(bor X Y C).toNat:=by
 obtain⟨c,rfl⟩:=Int.eq_ofNat_of_zero_le hC0;obtain⟨d,hd⟩:=Int.eq_ofNat_of_zero_le (a:=(X-Y-c)%4294967296) (by omega);refine⟨d,hd,by rw[Dg.B_eq];omega,Dg.less_step (c:=c) (by omega) (by simpa using hI) ?_⟩;rw[Dg.B_eq];rcases kx X Y c with⟨h,e⟩ | ⟨h,e⟩ <;> rw[e] <;> simp <;> omega
theorem less_end {a b o : List Nat} {n c : Nat} (ha : a.length = n) (hb : b.length ≤ n) (ho : o.length = n) (oo : Dg.ok o) (hab : Dg.val b ≤ Dg.val a)
  (hI:Dg.val (o.take n)+Dg.val (b.take n)=Dg.val (a.take n)+Dg.B^n*c):Dg.val o+Dg.val b=Dg.val a:=by
 rw[List.take_of_length_le (by omega),List.take_of_length_le (by omega),List.take_of_length_le (by omega)]at hI;have h1:=Dg.val_lt oo;rw[ho]at h1;rcases Nat.eq_zero_or_pos c with h | h
 ·subst h;simpa using hI
 ·have:Dg.B^n*1<=Dg.B^n*c:=Nat.mul_le_mul_left _ h;omega
theorem less_any (A A' : Option Addr) (n c n' c' : Nat) (a b : List Nat) (w : World) (ha : Dig w A n a) (hb : Dig w A' n' b) (hn : n ≤ LIM) (h : n' ≤ n) (hab : Dg.val b ≤ Dg.val a) :
  Calls Tryz.prog 171 #[.slice A n c,.slice A' n' c'] w fun e w'=>∃ g o,e = .returned (.slice (some ⟨g,0,none⟩) n n)/\Dig w' (some ⟨g,0,none⟩) n o/\Dg.val o+Dg.val b=Dg.val a/\Below w.heap.size w w':=by
 have HA:=Lib.hid ha;have HB:=Lib.hid hb;have HAB:=Lib.hid hab;clear ha hb hab;obtain⟨i0,hi,hz0,hz1,hz2⟩:=info_parts gK;unfold LIM at hn
 go_enter Tryz.func171,Tryz.ntmps171
 go_wp2_with (at_make;refine wpList_make_full _ rfl _ _ 34 rfl w.heap.size 119 i0 _ 1 Tryz.underlying34 hi hz0 hz1 .i64 .i64 _ _ n rfl rfl (by omega) (by omega) (by rw[hz2];omega) (by unfold maxLen;omega) (Nat.le_refl _) ?_;intro w1 hown hgr;have HO:=Lib.hid (OwnD.made hown);clear hown;have hb1:Below w.heap.size w w1:=(Below.refl _ _).grown hgr (Nat.le_refl _) (by simp);clear hgr)
 go_loopw [6,15] (fun u v wr=>∃(k:Nat) (C:Int) (o:List Nat),k<=n/\v = .int .i64 k/\u = .int .u32 C/\0<=C/\C<=1/\OwnD wr w.heap.size w.heap.size n o/\Hid (Dg.val (o.take k)+Dg.val (b.take k)=Dg.val (a.take k)+Dg.B^k*C.toNat)/\Below w.heap.size w wr) (fun _ v _=>n-(intOf v).toNat)
 case atStart=>exact⟨0,0,_,by omega,rfl,rfl,by omega,by omega,HO.out,by show _=_;simp[Dg.val],hb1⟩
 case round =>
  obtain⟨k,C,o,hk,rfl,rfl,hC0,hC1,hO,HI,hbw⟩:=hrel;by_cases hlt:k<n
  ·have hoc:=hO.cell (i:=k) (by omega);have hof:=hO.frozen k;have hOh:=Lib.hid hO;clear hO;obtain⟨b1,o1,rfl,hl1,hcell1⟩:=(HA.out.below hbw).at_ (by omega);have hc1:=hcell1 k hlt;have hx1:(a[k]?.getD 0)<4294967296:=Dg.ok_getD HA.out.ok k;clear hcell1;obtain⟨X,hX⟩:∃ X:Int,X=(a[k]?.getD 0:Nat):=⟨_,rfl⟩;rw[<- hX]at hc1;have hX0:0<=X:=by omega
   have hX1:X<4294967296:=by omega
   have HX:=Lib.hid hX;clear hX hx1;have hdk:decide (k<n)=true:=by simp;omega
   by_cases hlt2:k<n'
   ·have hdk2:decide (k<n')=true:=by simp;omega
    obtain⟨b2,o2,rfl,hl2,hcell2⟩:=(HB.out.below hbw).at_ (by omega);have hc2:=hcell2 k hlt2;have hx1:(b[k]?.getD 0)<4294967296:=Dg.ok_getD HB.out.ok k;clear hcell2;obtain⟨Y,hY⟩:∃ X:Int,X=(b[k]?.getD 0:Nat):=⟨_,rfl⟩;rw[<- hY]at hc2;have hY0:0<=Y:=by omega
    have hY1:Y<4294967296:=by omega
    have HY:=Lib.hid hY;clear hY hx1;obtain⟨d,hd1,hd2,hd3⟩:=less_round HX.out HY.out hX1 hY1 hC0 hC1 hOh.out.1 hlt HI.out;have HS:=Lib.hid (hOh.out.set_ k d hd2);have HD3:=Lib.hid hd3;have hS:bor X Y C<=1:=by rcases kx X Y C with h | h <;> omega
    have hS0:0<=bor X Y C:=by rcases kx X Y C with h | h <;> omega
    have hbn:Below w.heap.size w (wr.setCell ⟨w.heap.size,k,none⟩ (.int .u32 d)):=hbw.setCell (by simp) _;clear hd2 hd3
    go_wp2_with (go_at_call 179;refine(UY _ _ _ _ hX0 hX1 hY0 hY1 hC0 hC1).mono ?_;rintro e w' ⟨rfl,rfl⟩)
    go_roundw
    case rel=>exact⟨k+1,_,_,by omega,by go_num,rfl,hS0,hS,HS.out,HD3.out,hbn⟩
    case measure=>simp[intOf] <;> omega
   ·have hdk2:decide (k<n')=false:=by simp;omega
    have hY:(0:Int)=(b[k]?.getD 0:Nat):=by
     have:=HB.out.len;rw[List.getElem?_eq_none (by omega)];rfl
    have HY:=Lib.hid hY;clear hY;obtain⟨d,hd1,hd2,hd3⟩:=less_round HX.out HY.out hX1 (by omega) hC0 hC1 hOh.out.1 hlt HI.out;rw[Int.sub_zero]at hd1;have HS:=Lib.hid (hOh.out.set_ k d hd2);have HD3:=Lib.hid hd3;have hS:bor X 0 C<=1:=by rcases kx X 0 C with h | h <;> omega
    have hS0:0<=bor X 0 C:=by rcases kx X 0 C with h | h <;> omega
    have hbn:Below w.heap.size w (wr.setCell ⟨w.heap.size,k,none⟩ (.int .u32 d)):=hbw.setCell (by simp) _;clear hd2 hd3
    go_wp2_with (go_at_call 179;refine(UY _ 0 _ _ hX0 hX1 (by omega) (by omega) hC0 hC1).mono ?_;rintro e w' ⟨rfl,rfl⟩)
    go_roundw
    case rel=>exact⟨k+1,_,_,by omega,by go_num,rfl,hS0,hS,HS.out,HD3.out,hbn⟩
    case measure=>simp[intOf] <;> omega
  ·obtain rfl:k=n:=by omega
   have hdk:decide (k<k)=false:=by simp
   obtain⟨d,rfl⟩:=Int.eq_ofNat_of_zero_le hC0;have HOh:=Lib.hid hO;clear hO
   go_wp2
   go_ret
   exact⟨_,_,rfl,HOh.out.dig,less_end HA.out.len.symm (by have:=HB.out.len;omega) HOh.out.1 HOh.out.2.1 HAB.out HI.out,hbw⟩
end Go.Proofs.YtkmbnldginonbaaGreat
set_option maxHeartbeats 2000000
set_option maxRecDepth 100000
namespace Go.Proofs.YtkmbnldginonbaaGreat
open Go.RowKit
theorem Xk {X Y:Int} (hX:0<=X) (hX1:X<4294967296) (hY:0<=Y) (hY1:Y<4294967296):0<=X*Y/\X*Y<=18446744065119617025:=by
 refine⟨Int.mul_nonneg hX hY,?_⟩;have h1:X*Y<=4294967295*Y:=Int.mul_le_mul_of_nonneg_right (by omega) hY;omega
theorem times_round {a b o : List Nat} {V i j n n' : Nat} {X Y Z C : Int} (hX : X = (a[i]?.getD 0 : Nat)) (hY : Y = (b[j]?.getD 0 : Nat)) (hZ : Z = (o[i + j]?.getD 0 : Nat)) (hC0 : 0 ≤ C) (hC1 : C < 4294967296)
  (oa:Dg.ok a) (ob:Dg.ok b) (oo:Dg.ok o) (ho:o.length=n+n') (hi:i<n) (hj:j<n')
  (hI:Dg.val o+Dg.B^(i+j)*C.toNat=V+Dg.B^i*(a[i]?.getD 0*Dg.val (b.take j))) (hz:∀ k,i+n'<=k->o[k]?.getD 0=0) :
  ∃ d:Nat,(X*Y+Z+C)%4294967296=d/\d<Dg.B/\0<=(X*Y+Z+C) / 4294967296/\(X*Y+Z+C) / 4294967296<4294967296 /\
   Dg.val (o.set (i+j) d)+Dg.B^(i+(j+1))*((X*Y+Z+C) / 4294967296).toNat=V+Dg.B^i*(a[i]?.getD 0*Dg.val (b.take (j+1)))/\(∀ k,i+n'<=k->(o.set (i+j) d)[k]?.getD 0=0):=by
 obtain⟨c,rfl⟩:=Int.eq_ofNat_of_zero_le hC0;have hc:c<Dg.B:=by rw[Dg.B_eq];omega
 have hb:=Dg.times_bound (Dg.ok_getD oa i) (Dg.ok_getD ob j) (Dg.ok_getD oo (i+j)) hc;have hd:=Dg.div_lt_B hb;have hs:=Dg.times_step (o:=o) (V:=V) (x:=a[i]?.getD 0) (y:=b[j]?.getD 0) (i:=i) (j:=j) (c:=c) (by omega) b rfl (by simpa using hI);have e:(X*Y+Z+c)=((a[i]?.getD 0*b[j]?.getD 0+o[i+j]?.getD 0+c:Nat):Int):=by rw[hX,hY,hZ];simp
 rw[e];generalize a[i]?.getD 0*b[j]?.getD 0+o[i+j]?.getD 0+c=t at *;refine⟨t%Dg.B,by rw[Dg.B_eq];omega,Nat.mod_lt _ Dg.B_pos,by omega,by rw[Dg.B_eq]at hd;omega,?_,?_⟩
 ·rw[<- hs,Dg.B_eq];congr 2
 ·intro k hk;rw[List.getElem?_set_ne (by omega)];exact hz k hk
theorem times_row {a b o : List Nat} {V i n n' : Nat} {C : Int} (hC0 : 0 ≤ C) (hC1 : C < 4294967296) (ho : o.length = n + n') (hi : i < n) (hla : a.length = n) (hlb : b.length = n')
  (hI:Dg.val o+Dg.B^(i+n')*C.toNat=V+Dg.B^i*(a[i]?.getD 0*Dg.val (b.take n'))) (hz:∀ k,i+n'<=k->o[k]?.getD 0=0) (hV:V=Dg.val (a.take i)*Dg.val b) :
  ∃ d:Nat,C=d/\d<Dg.B/\Dg.val (o.set (i+n') d)=Dg.val (a.take (i+1))*Dg.val b/\(∀ k,i+1+n'<=k->(o.set (i+n') d)[k]?.getD 0=0):=by
 obtain⟨c,rfl⟩:=Int.eq_ofNat_of_zero_le hC0;refine⟨c,rfl,by rw[Dg.B_eq];omega,?_,?_⟩
 ·have h1:=Dg.val_set (l:=o) (i:=i+n') (by omega) c;have h2:=hz (i+n') (by omega);rw[List.getElem?_eq_getElem (by omega)]at h2;simp only[Option.getD_some]at h2;rw[h2,Nat.mul_zero,Nat.add_zero]at h1;rw[h1,Dg.val_take_succ_getD,Nat.add_mul,<- hV];rw[List.take_of_length_le (l:=b) (by omega)]at hI;simp only[Int.toNat_natCast]at hI;rw[hI,Nat.mul_assoc]
 ·intro k hk;rw[List.getElem?_set_ne (by omega)];exact hz k (by omega)
def IsVal (w:World) (v:Value) (x L:Nat):Prop:=∃ A n c ds,v = .slice A n c/\Dig w A n ds/\n<=c/\n<=L/\Dg.val ds=x
theorem IsDig.val {w:World} {v:Value} {x L:Nat} (h:IsDig w v x L):IsVal w v x L:=by
 obtain⟨A,n,c,ds,h1,h2,h3,h4,h5,h6⟩:=h;exact⟨A,n,c,ds,h1,h2,h3,h4,h6⟩
theorem times_one (A A' : Option Addr) (c c' : Nat) (a b : List Nat) (w : World) (ha : Dig w A 1 a) (hb : Dig w A' 1 b) :
  Calls Tryz.prog 139 #[.slice A 1 c,.slice A' 1 c'] w fun e w'=>∃ v,e = .returned v/\IsVal w' v (Dg.val a*Dg.val b) 2/\Below w.heap.size w w':=by
 obtain⟨b1,o1,rfl,hl1,hcell1⟩:=ha.at_ (by omega);obtain⟨b2,o2,rfl,hl2,hcell2⟩:=hb.at_ (by omega);have hc1:=hcell1 0 (by omega);have hc2:=hcell2 0 (by omega);obtain⟨x,rfl⟩:=List.length_eq_one_iff.1 ha.len.symm;obtain⟨y,rfl⟩:=List.length_eq_one_iff.1 hb.len.symm;have hx:=(Dg.ok_cons.1 ha.ok).1;have hy:=(Dg.ok_cons.1 hb.ok).1;have hxy:x*y<Dg.B*Dg.B:=Nat.mul_lt_mul'' hx hy;rw[Dg.B_eq]at hx hy;simp only[List.getElem?_cons_zero,Option.getD_some,Nat.add_zero]at hc1 hc2;have hv:Dg.val [x]*Dg.val [y]=x*y:=by simp[Dg.val]
 rw[hv];obtain⟨X,hX⟩:∃ X:Int,X=x:=⟨_,rfl⟩;obtain⟨Y,hY⟩:∃ X:Int,X=y:=⟨_,rfl⟩;have hX0:0<=X:=by omega
 have hX1:X<4294967296:=by omega
 have hY0:0<=Y:=by omega
 have hY1:Y<4294967296:=by omega
 have hm:=Xk hX0 hX1 hY0 hY1;obtain⟨q,hq⟩:∃ q:Nat,q=x*y:=⟨_,rfl⟩;rw[<- hq]at hxy ⊢
 have hw:IntKind.u64.wrap (X*Y)=(q:Int):=by
  rw[IntWalk.u64_in _ ⟨hm.1,by omega⟩,hq,hX,hY];simp
 rw[<- hX]at hc1;rw[<- hY]at hc2;have HXY:=Lib.hid hxy;clear hcell1 hcell2 hm hq hxy hx hy ha hb hv hX hY
 go_enter Tryz.func139,Tryz.ntmps139
 go_wp2_with fail
 refine wp_region_still_tail 9 (by kernel_rfl) (by kernel_rfl) ?_;simp only[List.take_succ_cons,List.take_zero,List.drop_succ_cons,List.drop_zero];repeat still_step
 try refine wpStill_nil ?_
 change wpList _ _ _ _ _ w.drew;generalize hw2:w.drew=w2;have hbw:Below w.heap.size w w2:=by rw[<- hw2];exact(Below.refl _ _).drew
 clear hw2 hc1 hc2
 go_wp2_with fail
 rw[hw];refine(v7 _ _ HXY.out).mono ?_;rintro e w' ⟨v,rfl,hv,hbv⟩;have HV:=Lib.hid hv;clear hv hw
 go_wp2
 go_ret
 exact⟨_,rfl,HV.out.val,zk hbw hbv⟩
theorem times_any (A A' : Option Addr) (n c n' c' : Nat) (a b : List Nat) (w : World) (ha : Dig w A n a) (hb : Dig w A' n' b) (hn : n + n' ≤ LIM) :
  Calls Tryz.prog 139 #[.slice A n c,.slice A' n' c'] w fun e w'=>∃ v,e = .returned v/\IsVal w' v (Dg.val a*Dg.val b) (n+n')/\Below w.heap.size w w':=by
 have HA:=Lib.hid ha;have HB:=Lib.hid hb;clear ha hb;obtain⟨i0,hi,hz0,hz1,hz2⟩:=info_parts gK;unfold LIM at hn;by_cases h0:n=0
 ·subst h0;have e:a=[]:=List.length_eq_zero_iff.1 HA.out.len.symm
  go_enter Tryz.func139,Tryz.ntmps139
  go_wp2
  go_ret
  exact⟨_,rfl,⟨none,0,0,[],rfl,Dig.nil _,by omega,by omega,by rw[e];simp[Dg.val]⟩,Below.refl _ _⟩
 ·by_cases h0':n'=0
  ·subst h0';have e:b=[]:=List.length_eq_zero_iff.1 HB.out.len.symm;have hb0:((n:Int) == 0)=false:=by simp;omega
   go_enter Tryz.func139,Tryz.ntmps139
   go_wp2
   go_ret
   exact⟨_,rfl,⟨none,0,0,[],rfl,Dig.nil _,by omega,by omega,by rw[e];simp[Dg.val]⟩,Below.refl _ _⟩
  ·have hb0:((n:Int) == 0)=false:=by simp;omega
   have hb0':((n':Int) == 0)=false:=by simp;omega
   by_cases h1:n=1/\n'=1
   ·obtain⟨rfl,rfl⟩:=h1;exact times_one A A' c c' a b w HA.out HB.out
   ·have hf:¬(n=1/\n'=1):=h1;obtain⟨bb,hbb⟩:∃ bb:Bool,((n:Int) == 1)=bb:=⟨_,rfl⟩;have hbb':bb=true->((n':Int) == 1)=false:=by
     rintro rfl;simp at hbb ⊢;omega
    clear h1 hf;rcases bb with _ | _
    case' true=>have hbb2:=hbb' rfl
    all_goals
     clear hbb'
     go_enter Tryz.func139,Tryz.ntmps139
     go_wp2_with (at_make;refine wpList_make_full _ rfl _ _ 34 rfl w.heap.size 119 i0 _ 1 Tryz.underlying34 hi hz0 hz1 .i64 .i64 _ _ (n+n') rfl rfl (by omega) (by omega) (by rw[hz2];omega) (by unfold maxLen;omega) (Nat.le_refl _) ?_;intro w1 hown hgr;have HO:=Lib.hid (OwnD.made hown);clear hown;have hb1:Below w.heap.size w w1:=(Below.refl _ _).grown hgr (Nat.le_refl _) (by simp);clear hgr)
     clear hbb
     go_loopw [46] (fun v wr=>∃(i:Nat) (o:List Nat),i<=n/\v = .int .i64 i/\OwnD wr w.heap.size w.heap.size (n+n') o/\Hid (Dg.val o=Dg.val (a.take i)*Dg.val b)/\Hid (∀ k,i+n'<=k->o[k]?.getD 0=0)/\Below w.heap.size w wr) (fun v _=>n-(intOf v).toNat)
     case atStart=>exact⟨0,_,by omega,rfl,HO.out,by show _=_;simp[Dg.val,Dg.val_replicate],by intro k _;rw[List.getElem?_replicate];split <;> rfl,hb1⟩
     case round =>
      obtain⟨i,o,hik,rfl,hO,HI,HZ,hbw⟩:=hrel;by_cases hlt:i<n
      ·have hOh:=Lib.hid hO;clear hO;obtain⟨b1,o1,rfl,hl1,hcell1⟩:=(HA.out.below hbw).at_ (by omega);have hc1:=hcell1 i hlt;have hx1:(a[i]?.getD 0)<4294967296:=Dg.ok_getD HA.out.ok i;clear hcell1;obtain⟨X,hX⟩:∃ X:Int,X=(a[i]?.getD 0:Nat):=⟨_,rfl⟩;rw[<- hX]at hc1;have hX0:0<=X:=by omega
       have hX1:X<4294967296:=by omega
       have HX:=Lib.hid hX;clear hX hx1;have hdk:decide (i<n)=true:=by simp;omega
       obtain⟨wo,rfl⟩:∃ wo:World,wo=wr:=⟨_,rfl⟩
       go_wp2
       go_loopw [8,53] (fun u v wr=>∃(j:Nat) (C:Int) (p:List Nat),j<=n'/\v = .int .i64 j/\u = .int .u64 C/\0<=C/\C<4294967296/\OwnD wr w.heap.size w.heap.size (n+n') p/\Hid (Dg.val p+Dg.B^(i+j)*C.toNat=Dg.val o+Dg.B^i*(a[i]?.getD 0*Dg.val (b.take j)))/\Hid (∀ k,i+n'<=k->p[k]?.getD 0=0)/\Below w.heap.size w wr) (fun _ v _=>n'-(intOf v).toNat)
       case atStart=>exact⟨0,0,_,by omega,rfl,rfl,by omega,by omega,hOh.out,by show _=_;simp[Dg.val],HZ,hbw⟩
       case round =>
        clear hc1 hl1;obtain⟨j,C,p,hjk,rfl,rfl,hC0,hC1,hP,HJ,HY,hbp⟩:=hrel;by_cases hltj:j<n'
        ·have hoc:=hP.cell (i:=i+j) (by omega);have hof:=hP.frozen (i+j);have hPh:=Lib.hid hP;clear hP;obtain⟨b2,o2,rfl,hl2,hcell2⟩:=(HB.out.below hbp).at_ (by omega);have hc2:=hcell2 j hltj;have hx1:(b[j]?.getD 0)<4294967296:=Dg.ok_getD HB.out.ok j;have hz1:(p[i+j]?.getD 0)<4294967296:=Dg.ok_getD hPh.out.2.1 (i+j);clear hcell2;obtain⟨Y,hY⟩:∃ X:Int,X=(b[j]?.getD 0:Nat):=⟨_,rfl⟩;rw[<- hY]at hc2;have hY0:0<=Y:=by omega
         have hY1:Y<4294967296:=by omega
         have HYe:=Lib.hid hY;obtain⟨Z,hZ⟩:∃ X:Int,X=(p[i+j]?.getD 0:Nat):=⟨_,rfl⟩;rw[<- hZ]at hoc;have hZ0:0<=Z:=by omega
         have hZ1:Z<4294967296:=by omega
         have HZe:=Lib.hid hZ;clear hY hx1 hZ hz1;obtain⟨hm0,hm1⟩:=Xk hX0 hX1 hY0 hY1;have hdj:decide (j<n')=true:=by simp;omega
         obtain⟨d,hd1,hd2,hd3,hd4,hd5,hd6⟩:=times_round HX.out HYe.out HZe.out hC0 hC1 HA.out.ok HB.out.ok hPh.out.2.1 hPh.out.1 hlt hltj HJ.out HY.out;have HS:=Lib.hid (hPh.out.set_ (i+j) d hd2);have HD5:=Lib.hid hd5;have HD6:=Lib.hid hd6;have hbn:Below w.heap.size w (wr.setCell ⟨w.heap.size,i+j,none⟩ (.int .u32 d)):=hbp.setCell (by simp) _;clear hd2 hd5 hd6
         go_wp2
         go_roundw
         case rel=>exact⟨j+1,_,_,by omega,by go_num,rfl,hd3,hd4,HS.out,HD5.out,HD6.out,hbn⟩
         case measure=>simp[intOf] <;> omega
        ·obtain rfl:j=n':=by omega
         have hdj:decide (j<j)=false:=by simp
         have hoc:=hP.cell (i:=i+j) (by omega);have hof:=hP.frozen (i+j);have hPh:=Lib.hid hP;clear hP;obtain⟨d,rfl,hd2,hd3,hd4⟩:=times_row hC0 hC1 hPh.out.1 hlt HA.out.len.symm HB.out.len.symm HJ.out HY.out HI.out;have HS:=Lib.hid (hPh.out.set_ (i+j) d hd2);have HD3:=Lib.hid hd3;have HD4:=Lib.hid hd4;have hbn:Below w.heap.size w (wr.setCell ⟨w.heap.size,i+j,none⟩ (.int .u32 d)):=hbp.setCell (by simp) _;clear hd2 hd3 hd4
         go_wp2
         go_roundw
         case rel=>exact⟨i+1,_,by omega,by go_num,HS.out,HD3.out,HD4.out,hbn⟩
         case measure=>simp[intOf] <;> omega
      ·obtain rfl:i=n:=by omega
       have hdk:decide (i<i)=false:=by simp
       have hOh:=Lib.hid hO;clear hO
       go_wp2
       go_ret
       refine⟨_,rfl,⟨_,_,_,o,rfl,hOh.out.dig,Nat.le_refl _,Nat.le_refl _,?_⟩,hbw⟩;rw[HI.out,List.take_of_length_le (by have:=HA.out.len;omega)]
end Go.Proofs.YtkmbnldginonbaaGreat
/- The function short of package bigint: a division by one digit. The length is at most 2^40. -/
namespace Go.Proofs.YtkmbnldginonbaaGreat
open Go.RowKit
theorem val_drop_pred (l:List Nat) (k:Nat) (h:k<l.length):Dg.val (l.drop k)=l[k]?.getD 0+Dg.B*Dg.val (l.drop (k+1)):=by
 rw[List.drop_eq_getElem_cons h];simp[Dg.val,h]
theorem short_round {a q : List Nat} {k n : Nat} {X R D : Int} (hX : X = (a[k]?.getD 0 : Nat)) (hX1 : X < 4294967296) (hR : 0 ≤ R) (hRD : R < D) (hD : D < 4294967296) (ha : a.length = n) (hq : q.length = n) (hk : k < n)
  (hI:Dg.val (a.drop (k+1))=Dg.val (q.drop (k+1))*D.toNat+R.toNat) :
  ∃ d:Nat,(R*4294967296+X) / D=d/\d<Dg.B/\0<=(R*4294967296+X)%D/\(R*4294967296+X)%D<D/\Dg.val (a.drop k)=Dg.val ((q.set k d).drop k)*D.toNat+((R*4294967296+X)%D).toNat:=by
 obtain⟨r,rfl⟩:=Int.eq_ofNat_of_zero_le hR;obtain⟨D,rfl⟩:=Int.eq_ofNat_of_zero_le (a:=D) (by omega);have e:(r:Int)*4294967296+X=((r*Dg.B+a[k]?.getD 0:Nat):Int):=by rw[hX,Dg.B_eq];omega
 have hx:a[k]?.getD 0<Dg.B:=by rw[Dg.B_eq];omega
 have h1:=Dg.short_step (x:=a[k]?.getD 0) (d:=D) (r:=r) _ _ (by simpa using hI);have h2:=Dg.short_lt (d:=D) (r:=r) hx (by omega);have h3:=Nat.mod_lt (r*Dg.B+a[k]?.getD 0) (show 0<D by omega);rw[e,<- Int.natCast_ediv,<- Int.natCast_emod,Int.toNat_natCast,Int.toNat_natCast];clear e hI;refine⟨(r*Dg.B+a[k]?.getD 0) / D,rfl,h2,by omega,by omega,?_⟩
 ·have hl:k<(q.set k ((r*Dg.B+a[k]?.getD 0) / D)).length:=by rw[List.length_set];omega
  rw[val_drop_pred a k (by omega),h1,val_drop_pred _ k hl];have e2:(q.set k ((r*Dg.B+a[k]?.getD 0) / D))[k]?.getD 0=(r*Dg.B+a[k]?.getD 0) / D:=by simp[show k<q.length by omega]
  have e3:(q.set k ((r*Dg.B+a[k]?.getD 0) / D)).drop (k+1)=q.drop (k+1):=by rw[List.drop_set_of_lt (by omega)]
  rw[e2,e3]
theorem short_any (A : Option Addr) (n c : Nat) (D : Int) (a : List Nat) (w : World) (ha : Dig w A n a) (hn : n ≤ LIM) (hD0 : 0 < D) (hD1 : D < 4294967296) :
  Calls Tryz.prog 180 #[.slice A n c,.int .u32 D] w fun e w'=>∃ g q R,e = .returned (.tuple #[.slice (some ⟨g,0,none⟩) n n,.int .u32 R])/\Dig w' (some ⟨g,0,none⟩) n q/\0<=R/\R<D/\Dg.val a=Dg.val q*D.toNat+R.toNat/\Below w.heap.size w w':=by
 have HA:=Lib.hid ha;clear ha;obtain⟨i0,hi,hz0,hz1,hz2⟩:=info_parts gK;unfold LIM at hn
 go_enter Tryz.func180,Tryz.ntmps180
 go_wp2_with (at_make;refine wpList_make_full _ rfl _ _ 34 rfl w.heap.size 119 i0 _ 1 Tryz.underlying34 hi hz0 hz1 .i64 .i64 _ _ n rfl rfl (by omega) (by omega) (by rw[hz2];omega) (by unfold maxLen;omega) (Nat.le_refl _) ?_;intro w1 hown hgr;have HO:=Lib.hid (OwnD.made hown);clear hown;have hb1:Below w.heap.size w w1:=(Below.refl _ _).grown hgr (Nat.le_refl _) (by simp);clear hgr)
 go_loopw [7,8] (fun u v wr=>∃(k:Nat) (R:Int) (q:List Nat),k<=n/\v = .int .i64 ((k:Int)-1)/\u = .int .u32 R/\0<=R/\R<D/\OwnD wr w.heap.size w.heap.size n q/\Hid (Dg.val (a.drop k)=Dg.val (q.drop k)*D.toNat+R.toNat)/\Below w.heap.size w wr) (fun _ v _=>(intOf v+1).toNat)
 case atStart=>exact⟨n,0,_,by omega,rfl,rfl,by omega,by omega,HO.out,by show _=_;rw[List.drop_of_length_le (by have:=HA.out.len;omega),List.drop_of_length_le (by simp)];simp[Dg.val],hb1⟩
 case round =>
  obtain⟨k,R,q,hk,rfl,rfl,hR0,hR1,hO,HI,hbw⟩:=hrel;by_cases h0:0<k
  ·obtain⟨k,rfl⟩:∃ j,k=j+1:=⟨k-1,by omega⟩;have hoc:=hO.cell (i:=k) (by omega);have hof:=hO.frozen k;have hOh:=Lib.hid hO;clear hO;obtain⟨b1,o1,rfl,hl1,hcell1⟩:=(HA.out.below hbw).at_ (by omega);have hc1:=hcell1 k (by omega);have hx1:(a[k]?.getD 0)<4294967296:=Dg.ok_getD HA.out.ok k;clear hcell1;obtain⟨X,hX⟩:∃ X:Int,X=(a[k]?.getD 0:Nat):=⟨_,rfl⟩;rw[<- hX]at hc1;have hX0:0<=X:=by omega
   have hX1:X<4294967296:=by omega
   have HX:=Lib.hid hX;clear hX hx1;obtain⟨d,hd1,hd2,hd3,hd4,hd5⟩:=short_round HX.out hX1 hR0 hR1 hD1 HA.out.len.symm hOh.out.1 (by omega) HI.out;have HD5:=Lib.hid hd5;have HD2:=Lib.hid hd2;clear hd2 hd5
   go_wp2_with (go_at_call 187;refine(div32_any _ _ _ _ hR0 hR1 hD1 hX0 hX1).mono ?_;rintro e w' ⟨rfl,hbd⟩;have hOd:=hOh.out.below hbd;have hoc2:=hOd.cell (i:=k) (by omega);have hof2:=hOd.frozen k;have HS:=Lib.hid (hOd.set_ k d HD2.out);have hbn:Below w.heap.size w (w'.setCell ⟨w.heap.size,k,none⟩ (.int .u32 d)):=(hbw.trans (hbd.mono hbw.size)).setCell (by simp) _;clear hOd hoc hof)
   go_roundw
   case rel=>exact⟨k,_,_,by omega,by go_num,rfl,hd3,hd4,HS.out,HD5.out,hbn⟩
   case measure=>simp[intOf] <;> omega
  ·obtain rfl:k=0:=by omega
   have HOh:=Lib.hid hO;clear hO
   go_wp2
   go_ret2
   exact⟨_,_,_,rfl,HOh.out.dig,hR0,hR1,by simpa using HI.out,hbw⟩
end Go.Proofs.YtkmbnldginonbaaGreat
/- The functions shifted and unshifted of package bigint: digits moved by less than 32 binary places. The length is at most 2^40. -/
namespace Go.Proofs.YtkmbnldginonbaaGreat
open Go.RowKit
theorem shifted_round {a o : List Nat} {k n s : Nat} {X T : Int} (hX : X = (a[k]?.getD 0 : Nat)) (hT : T = (s : Int)) (hs : s ≤ 31) (oa : Dg.ok a) (oo : Dg.ok o) (ho : o.length = n + 1) (hk : k < n)
  (hI:Dg.val (o.take (k+1))=Dg.val (a.take k)*2^s) (hL:o[k]?.getD 0<2^s) :
  ∃(Q:Int) (d e:Nat),IntKind.u64.wrap (X*2^T.toNat)=Q/\bits BinOp.or IntKind.u32 (o[k]?.getD 0:Nat) (Q%4294967296)=d/\Q / 4294967296%4294967296=e/\d<Dg.B/\e<Dg.B /\
   Dg.val (((o.set k d).set (k+1) e).take (k+1+1))=Dg.val (a.take (k+1))*2^s/\((o.set k d).set (k+1) e)[k+1]?.getD 0<2^s:=by
 have hx:=Dg.ok_getD oa k;have h:=Dg.shifted_step (a:=a) (o:=o) (i:=k) hs (by omega) hx hI hL;have hlt:=Dg.high_lt (s:=s) hx;have hp:=Dg.pow_le_half hs;have hor:=u32_or_nat (o[k]?.getD 0) (a[k]?.getD 0*2^s%Dg.B) (by have:=Dg.ok_getD oo k;rw[Dg.B_eq]at this;exact this) (by have:=Nat.mod_lt (a[k]?.getD 0*2^s) Dg.B_pos;rw[Dg.B_eq]at this ⊢;exact this);have hQ:a[k]?.getD 0*2^s<=4294967296*2147483648:=Nat.mul_le_mul (by rw[Dg.B_eq]at hx;omega) hp;have e1:X*2^T.toNat=((a[k]?.getD 0*2^s:Nat):Int):=by rw[hX,hT,Int.toNat_natCast,Int.natCast_mul,Int.natCast_pow];rfl
 rw[e1];generalize a[k]?.getD 0*2^s=q at *;rw[Dg.B_eq]at h hor hlt;refine⟨(q:Int),_,q / 4294967296,IntWalk.u64_in _ ⟨by omega,by omega⟩,by rw[<- hor];rfl,by omega,?_,by rw[Dg.B_eq];omega,h.1,?_⟩
 ·rw[Dg.B_eq];exact h.2.2
 ·have:k+1<((o.set k (o[k]?.getD 0 ||| q%4294967296)).set (k+1) (q / 4294967296)).length:=by simp;omega
  rw[List.getElem?_eq_getElem this];simpa using hlt
theorem shifted_any (A : Option Addr) (n c : Nat) (s : Nat) (a : List Nat) (w : World) (ha : Dig w A n a) (hn : n ≤ LIM) (hs : s ≤ 31) :
  Calls Tryz.prog 182 #[.slice A n c,.int .u64 (s:Int)] w fun e w'=>∃ g o,e = .returned (.slice (some ⟨g,0,none⟩) (n+1) (n+1))/\OwnD w' w.heap.size g (n+1) o/\Dg.val o=Dg.val a*2^s/\Below w.heap.size w w':=by
 have HA:=Lib.hid ha;clear ha;obtain⟨i0,hi,hz0,hz1,hz2⟩:=info_parts gK;unfold LIM at hn;obtain⟨T,hT⟩:∃ T:Int,T=(s:Int):=⟨_,rfl⟩;rw[<- hT];have hT0:0<=T:=by omega
 have hT1:T<=31:=by omega
 have HT:=Lib.hid hT;clear hT hs
 go_enter Tryz.func182,Tryz.ntmps182
 go_wp2_with (at_make;refine wpList_make_full _ rfl _ _ 34 rfl w.heap.size 119 i0 _ 1 Tryz.underlying34 hi hz0 hz1 .i64 .i64 _ _ (n+1) rfl rfl (by omega) (by omega) (by rw[hz2];omega) (by unfold maxLen;omega) (Nat.le_refl _) ?_;intro w1 hown hgr;have HO:=Lib.hid (OwnD.made hown);clear hown;have hb1:Below w.heap.size w w1:=(Below.refl _ _).grown hgr (Nat.le_refl _) (by simp);clear hgr)
 go_loopw [15] (fun v wr=>∃(k:Nat) (o:List Nat),k<=n/\v = .int .i64 k/\OwnD wr w.heap.size w.heap.size (n+1) o/\Hid (Dg.val (o.take (k+1))=Dg.val (a.take k)*2^s)/\Hid (o[k]?.getD 0<2^s)/\Below w.heap.size w wr) (fun v _=>n-(intOf v).toNat)
 case atStart=>exact⟨0,_,by omega,rfl,HO.out,by show _=_;simp[Dg.val,List.take_replicate],by show _<_;simp;exact Nat.pow_pos (by omega),hb1⟩
 case round =>
  obtain⟨k,o,hk,rfl,hO,HI,HL,hbw⟩:=hrel;by_cases hlt:k<n
  ·have hoc:=hO.cell (i:=k) (by omega);have hof:=hO.frozen k;have hoc':=hO.cell (i:=k+1) (by omega);have hof':=hO.frozen (k+1);have hOh:=Lib.hid hO;clear hO;obtain⟨b1,o1,rfl,hl1,hcell1⟩:=(HA.out.below hbw).at_ (by omega);have hc1:=hcell1 k (by omega);have hx1:(a[k]?.getD 0)<4294967296:=Dg.ok_getD HA.out.ok k;clear hcell1;obtain⟨X,hX⟩:∃ X:Int,X=(a[k]?.getD 0:Nat):=⟨_,rfl⟩;rw[<- hX]at hc1;have hX0:0<=X:=by omega
   have hX1:X<4294967296:=by omega
   have HX:=Lib.hid hX;clear hX hx1;have hdk:decide (k<n)=true:=by simp;omega
   obtain⟨Q,d,e,hQ1,hQ2,hQ3,hd,he,hI2,hL2⟩:=shifted_round HX.out HT.out (by have:=HT.out;omega) HA.out.ok hOh.out.2.1 hOh.out.1 hlt HI.out HL.out;have HS:=Lib.hid ((hOh.out.set_ k d hd).set_ (k+1) e he);have HI2:=Lib.hid hI2;have HL2:=Lib.hid hL2;have hbn:Below w.heap.size w ((wr.setCell ⟨w.heap.size,k,none⟩ (.int .u32 d)).setCell ⟨w.heap.size,k+1,none⟩ (.int .u32 e)):=(hbw.setCell (by simp) _).setCell (by simp) _;clear hd he hI2 hL2
   go_wp2
   go_roundw
   case rel=>exact⟨k+1,_,by omega,by go_num,HS.out,HI2.out,HL2.out,hbn⟩
   case measure=>simp[intOf] <;> omega
  ·obtain rfl:k=n:=by omega
   have hdk:decide (k<k)=false:=by simp
   have HOh:=Lib.hid hO;clear hO
   go_wp2
   go_ret
   refine⟨_,_,rfl,HOh.out,?_,hbw⟩;have h1:=HI.out;rwa [List.take_of_length_le (by have:=HOh.out.1;omega),List.take_of_length_le (by have:=HA.out.len;omega)]at h1
end Go.Proofs.YtkmbnldginonbaaGreat
/- The function unshifted of package bigint: digits moved to the right by less than 32 binary places. The length is at most 2^40. -/
namespace Go.Proofs.YtkmbnldginonbaaGreat
open Go.RowKit
theorem unshifted_round {a : List Nat} {k n s : Nat} {X Y T : Int} (hX : X = (a[k]?.getD 0 : Nat)) (hY : Y = (a[k + 1]?.getD 0 : Nat)) (hT : T = (s : Int)) (oa : Dg.ok a) (ha : a.length = n) (hk : k < n) :
  ∃(Q:Int) (d:Nat),bits BinOp.or IntKind.u64 X (Y*4294967296)=Q/\0<=Q/\Q<=18446744073709551615/\Q / 2^T.toNat%4294967296=d/\d<Dg.B/\(Dg.unsh s a)[k]? = some d/\Q=X+Y*4294967296:=by
 have hx:=Dg.ok_getD oa k;have hy:=Dg.ok_getD oa (k+1);have h3:=Dg.or_high (x:=a[k]?.getD 0) (h:=a[k+1]?.getD 0) hx;have hg:=Dg.unsh_get s a k (by omega);have hak:a[k]=a[k]?.getD 0:=by rw[List.getElem?_eq_getElem (by omega)];rfl
 rw[hak]at hg;have hor:=u64_or_nat (a[k]?.getD 0) (a[k+1]?.getD 0*Dg.B) (by rw[Dg.B_eq]at *;omega) (by rw[Dg.B_eq]at *;omega);rw[h3]at hor;have e1:Y*4294967296=((a[k+1]?.getD 0*Dg.B:Nat):Int):=by rw[hY,Dg.B_eq];omega
 have e2:(2:Int)^T.toNat=((2^s:Nat):Int):=by rw[hT,Int.toNat_natCast,Int.natCast_pow];rfl
 rw[e1,hX,hor,e2];rw[Dg.B_eq]at hx hy hg ⊢
 refine⟨_,_,rfl,by omega,by omega,?_,Nat.mod_lt _ (by omega),hg,by omega⟩;rw[<- Int.natCast_ediv];omega
theorem take_unsh_succ {s:Nat} {a o:List Nat} {k d:Nat} (hk:k<o.length) (h:o.take k=(Dg.unsh s a).take k) (hd:(Dg.unsh s a)[k]? = some d):(o.set k d).take (k+1)=(Dg.unsh s a).take (k+1):=by
 rw[Dg.take_set_succ hk,h,List.take_add_one,hd];rfl
theorem unshifted_any (A : Option Addr) (n c : Nat) (s : Nat) (a : List Nat) (w : World) (ha : Dig w A n a) (hn : n ≤ LIM) (hs : s ≤ 31) :
  Calls Tryz.prog 184 #[.slice A n c,.int .u64 (s:Int)] w fun e w'=>∃ g o,e = .returned (.slice (some ⟨g,0,none⟩) n n)/\Dig w' (some ⟨g,0,none⟩) n o/\Dg.val o=Dg.val a / 2^s/\Below w.heap.size w w':=by
 have HA:=Lib.hid ha;clear ha;have HVal:=Lib.hid (Dg.val_unsh hs HA.out.ok);have HUl:=Lib.hid (Dg.unsh_length s a);obtain⟨i0,hi,hz0,hz1,hz2⟩:=info_parts gK;unfold LIM at hn;obtain⟨T,hT⟩:∃ T:Int,T=(s:Int):=⟨_,rfl⟩;rw[<- hT];have hT0:0<=T:=by omega
 have hT1:T<=31:=by omega
 have HT:=Lib.hid hT;clear hT hs
 go_enter Tryz.func184,Tryz.ntmps184
 go_wp2_with (at_make;refine wpList_make_full _ rfl _ _ 34 rfl w.heap.size 119 i0 _ 1 Tryz.underlying34 hi hz0 hz1 .i64 .i64 _ _ n rfl rfl (by omega) (by omega) (by rw[hz2];omega) (by unfold maxLen;omega) (Nat.le_refl _) ?_;intro w1 hown hgr;have HO:=Lib.hid (OwnD.made hown);clear hown;have hb1:Below w.heap.size w w1:=(Below.refl _ _).grown hgr (Nat.le_refl _) (by simp);clear hgr)
 go_loopw [13] (fun v wr=>∃(k:Nat) (o:List Nat),k<=n/\v = .int .i64 k/\OwnD wr w.heap.size w.heap.size n o/\Hid (o.take k=(Dg.unsh s a).take k)/\Below w.heap.size w wr) (fun v _=>n-(intOf v).toNat)
 case atStart=>exact⟨0,_,by omega,rfl,HO.out,by show _=_;simp,hb1⟩
 case round =>
  obtain⟨k,o,hk,rfl,hO,HI,hbw⟩:=hrel;by_cases hlt:k<n
  ·have hoc:=hO.cell (i:=k) (by omega);have hof:=hO.frozen k;have hOh:=Lib.hid hO;clear hO;obtain⟨b1,o1,rfl,hl1,hcell1⟩:=(HA.out.below hbw).at_ (by omega);have hc1:=hcell1 k (by omega);have hx1:(a[k]?.getD 0)<4294967296:=Dg.ok_getD HA.out.ok k;obtain⟨X,hX⟩:∃ X:Int,X=(a[k]?.getD 0:Nat):=⟨_,rfl⟩;rw[<- hX]at hc1;have hX0:0<=X:=by omega
   have hX1:X<4294967296:=by omega
   have HX:=Lib.hid hX;clear hX hx1;have hdk:decide (k<n)=true:=by simp;omega
   obtain⟨Y,hY⟩:∃ X:Int,X=(a[k+1]?.getD 0:Nat):=⟨_,rfl⟩;have hx1:(a[k+1]?.getD 0)<4294967296:=Dg.ok_getD HA.out.ok (k+1);have hY0:0<=Y:=by omega
   have hY1:Y<4294967296:=by omega
   have HY:=Lib.hid hY;obtain⟨Q,d,hQ1,hQ0,hQm,hQd,hd,hud,hQe⟩:=unshifted_round HX.out HY.out HT.out HA.out.ok HA.out.len.symm hlt;have HS:=Lib.hid (hOh.out.set_ k d hd);have HI2:=Lib.hid (take_unsh_succ (by have:=hOh.out.1;omega) HI.out hud);have hbn:Below w.heap.size w (wr.setCell ⟨w.heap.size,k,none⟩ (.int .u32 d)):=hbw.setCell (by simp) _;have HQe:=Lib.hid hQe;clear hd hud hQe;by_cases hlt2:k+1<n
   ·have hc2:=hcell1 (k+1) hlt2;rw[<- hY]at hc2;have hdk2:decide ((k:Int)+1<(n:Int))=true:=by simp;omega
    clear hcell1 hY hx1
    go_wp2
    go_roundw
    case rel=>exact⟨k+1,_,by omega,by go_num,HS.out,HI2.out,hbn⟩
    case measure=>simp[intOf] <;> omega
   ·have hdk2:decide ((k:Int)+1<(n:Int))=false:=by simp;omega
    have hY2:Y=0:=by rw[hY,List.getElem?_eq_none (by have:=HA.out.len;omega)];rfl
    have hQX:Q=X:=by have:=HQe.out;omega
    subst hQX;clear hcell1 hY hx1 hY2 hQ1
    go_wp2
    go_roundw
    case rel=>exact⟨k+1,_,by omega,by go_num,HS.out,HI2.out,hbn⟩
    case measure=>simp[intOf] <;> omega
  ·obtain rfl:k=n:=by omega
   have hdk:decide (k<k)=false:=by simp
   have HOh:=Lib.hid hO;clear hO
   go_wp2
   go_ret
   refine⟨_,_,rfl,HOh.out.dig,?_,hbw⟩;have h1:=HI.out;rw[List.take_of_length_le (by have:=HOh.out.1;omega),List.take_of_length_le (by have:=HA.out.len;have:=HUl.out;omega)]at h1;rw[h1];exact HVal.out
end Go.Proofs.YtkmbnldginonbaaGreat
/- The function digit of package bigint: one digit of a quotient; the rest stays in the row. The lengths are at most 2^40. -/
namespace Go.Proofs.YtkmbnldginonbaaGreat
open Go.RowKit
theorem Dig.grown {w w':World} {A:Option Addr} {n g:Nat} {ds:List Nat} (h:Dig w A n ds) (hg:w.grownBy w' (some g)) (hne:∀ b o,A=some ⟨b,o,none⟩->b≠g):Dig w' A n ds:=by
 refine⟨h.1,h.2.1,fun hn=>?_⟩;obtain⟨b,o,hA,hlt,hc⟩:=h.2.2 hn;refine⟨b,o,hA,Nat.lt_of_lt_of_le hlt hg.size,fun i hi=>?_⟩;rw[<- hc i hi];exact World.cell?_of_block (hg.block b hlt (by have:=hne b o hA;simpa using this))
theorem grownBy.trans {a b c:World} {row:Option Nat} (h:a.grownBy b row) (k:b.grownBy c row):a.grownBy c row :=
 ⟨k.os.trans h.os,k.tape.trans h.tape,k.output.trans h.output,Nat.le_trans h.size k.size,fun i hi hr=>(k.block i (Nat.lt_of_lt_of_le hi h.size) hr).trans (h.block i hi hr)⟩
theorem grownBy.of_below {a b:World} {row:Option Nat} (h:Below a.heap.size a b):a.grownBy b row:=⟨h.os,h.tape,h.output,h.size,fun i hi _=>h.block i hi⟩
def GuessI (U V top v1 v2:Nat) (G R:Int):Prop:=∃ g r:Nat,G=g/\R=r/\Dg.Guess U V top v1 v2 g r
def GuessedI (U V:Nat) (G:Int):Prop:=∃ g:Nat,G=g/\Dg.Guessed U V g
theorem Wp {U V P top u0 v1 v2 u' v' : Nat} (e : Dg.Ends U V P top u0 v1 v2 u' v') (h : U < V * Dg.B) {G R U0 V0 V1 : Int} (hU0 : U0 = u0) (hV0 : V0 = v2) (hV1 : V1 = v1) (hg : GuessI U V top v1 v2 G R)
  (hc:4294967296<=G∨R*4294967296+U0<G*V0) :
  1<=G/\(4294967296<=R+V1->G-1<4294967296/\GuessedI U V (G-1))/\(R+V1<4294967296->GuessI U V top v1 v2 (G-1) (R+V1)):=by
 obtain⟨g,r,rfl,rfl,hG⟩:=hg;obtain⟨h1,h2,h3,h4⟩:=Dg.guess_round e h hG (by
  rcases hc with hc | hc
  ·left;rw[Dg.B_eq];omega
  ·right;rw[hU0,hV0]at hc;have:((r*Dg.B+u0:Nat):Int)<((g*v2:Nat):Int):=by rw[Dg.B_eq];simpa using hc
   omega)
 rw[Dg.B_eq]at h4;refine⟨by omega,fun hb=>?_,fun hb=>?_⟩
 ·have h5:=h4 (by omega);exact⟨by omega,g-1,by omega,Dg.guess_break e h2 h3 (by rw[Dg.B_eq];omega) (by rw[Dg.B_eq];omega)⟩
 ·exact⟨g-1,r+v1,by omega,by omega,h2,h3,by have:=hG.2.2.1;omega,by rw[Dg.B_eq];omega,hG.2.2.2.2⟩
theorem guess_exit_int {U V P top u0 v1 v2 u' v' : Nat} (e : Dg.Ends U V P top u0 v1 v2 u' v') {G R U0 V0 : Int} (hU0 : U0 = u0) (hV0 : V0 = v2) (hg : GuessI U V top v1 v2 G R)
  (hG:G<4294967296) (hc:G*V0<=R*4294967296+U0):GuessedI U V G:=by
 obtain⟨g,r,rfl,rfl,hgg⟩:=hg;refine⟨g,rfl,Dg.guess_exit e hgg (by rw[Dg.B_eq];omega) ?_⟩;rw[hU0,hV0]at hc;have:((g*v2:Nat):Int)<=((r*Dg.B+u0:Nat):Int):=by rw[Dg.B_eq];simpa using hc
 omega
theorem kF (us:List Nat) (j k d:Nat):(us.set (j+k) d).drop j=(us.drop j).set k d:=by
 rw[List.drop_set,if_neg (by omega)];congr 1;omega
theorem vJ (us:List Nat) (j k d:Nat):(us.set (j+k) d).take j=us.take j:=by
 rw[List.take_set_of_le (by omega)]
theorem mulsub_round {O O0 v : List Nat} {k gq : Nat} {G X P C Bo Uk : Int} (hG : G = gq) (hX : X = (v[k]?.getD 0 : Nat)) (hP : P = G * X) (hU : Uk = (O0[k]?.getD 0 : Nat)) (hU1 : Uk < 4294967296) (hP0 : 0 ≤ P) (hP1 : P ≤ 18446744065119617025) (hC0 : 0 ≤ C) (hC1 : C < 4294967296) (hB0 : 0 ≤ Bo) (hB1 : Bo ≤ 1)
  (hk:k<O.length) (hI:Dg.val (O.take k)+gq*Dg.val (v.take k)=Dg.val (O0.take k)+Dg.B^k*(C+Bo).toNat) :
  ∃ d:Nat,(Uk-(P+C)%4294967296-Bo)%4294967296=d/\d<Dg.B/\0<=(P+C) / 4294967296/\(P+C) / 4294967296<4294967296 /\
   Dg.val ((O.set k d).take (k+1))+gq*Dg.val (v.take (k+1))=Dg.val (O0.take (k+1))+Dg.B^(k+1)*((P+C) / 4294967296+bor Uk ((P+C)%4294967296) Bo).toNat:=by
 obtain⟨c,rfl⟩:=Int.eq_ofNat_of_zero_le hC0;obtain⟨b,rfl⟩:=Int.eq_ofNat_of_zero_le hB0;obtain⟨d,hd⟩:=Int.eq_ofNat_of_zero_le (a:=(Uk-(P+c)%4294967296-b)%4294967296) (by omega);obtain⟨b',hb'⟩:=Int.eq_ofNat_of_zero_le (a:=bor Uk ((P+c)%4294967296) b) (by rcases kx Uk ((P+c)%4294967296) b with h | h <;> omega);have e:P+c=((gq*v[k]?.getD 0+c:Nat):Int):=by rw[hP,hG,hX];simp
 refine⟨d,hd,by rw[Dg.B_eq];omega,by omega,by omega,?_⟩;rw[hb'];have hbc:=kx Uk ((P+c)%4294967296) b;rw[e]at hd hbc hb' ⊢
 generalize hq:gq*v[k]?.getD 0+c=t at *;have hs := Dg.mulsub_step (u := O0) (v := v) (o := O) (g := gq) (k := k) (c := c) (c' := t / Dg.B) (b := b) (b' := b') (d := d) hk (by rw [show ((c : Int) + b).toNat = c + b from by omega] at hI; exact hI) (by rw [hq]; have := Nat.mod_add_div t Dg.B; omega)
  (by rw[hq,Dg.B_eq];rcases hbc with⟨h,e⟩ | ⟨h,e⟩ <;> omega)
 rw[hs];congr 2
theorem mulsub_last {O O0 v : List Nat} {k gq : Nat} {G C Bo Uk : Int} (hG : G = gq) (hU : Uk = (O0[k]?.getD 0 : Nat)) (hU1 : Uk < 4294967296) (hC0 : 0 ≤ C) (hC1 : C < 4294967296) (hB0 : 0 ≤ Bo) (hB1 : Bo ≤ 1)
  (hv:v.length=k) (hk:k<O.length) (hI:Dg.val (O.take k)+gq*Dg.val (v.take k)=Dg.val (O0.take k)+Dg.B^k*(C+Bo).toNat) :
  ∃ d:Nat,(Uk-C-Bo)%4294967296=d/\d<Dg.B/\Dg.val ((O.set k d).take (k+1))+gq*Dg.val v=Dg.val (O0.take (k+1))+Dg.B^(k+1)*(bor Uk C Bo).toNat:=by
 obtain⟨d,h1,h2,h3,h4,h5⟩:=mulsub_round (X:=0) (P:=0) hG (by rw[List.getElem?_eq_none (by omega)];rfl) (by omega) hU hU1 (by omega) (by omega) hC0 hC1 hB0 hB1 hk hI;rw[Int.zero_add,Int.emod_eq_of_lt hC0 hC1]at h1;rw[Int.zero_add,Int.emod_eq_of_lt hC0 hC1,Int.ediv_eq_zero_of_lt hC0 hC1,Int.zero_add,List.take_of_length_le (l:=v) (by omega)]at h5;exact⟨d,h1,h2,h5⟩
theorem addback_round {a b o : List Nat} {k : Nat} {X Y C : Int} (hX : X = (a[k]?.getD 0 : Nat)) (hY : Y = (b[k]?.getD 0 : Nat)) (hC0 : 0 ≤ C) (hk : k < o.length)
  (hI:Dg.val (o.take k)+Dg.B^k*C.toNat=Dg.val (a.take k)+Dg.val (b.take k)) :
  ∃ d:Nat,(X+Y+C)%4294967296=d/\d<Dg.B/\Dg.val ((o.set k d).take (k+1))+Dg.B^(k+1)*((X+Y+C) / 4294967296).toNat=Dg.val (a.take (k+1))+Dg.val (b.take (k+1)):=by
 obtain⟨c,rfl⟩:=Int.eq_ofNat_of_zero_le hC0;have h:=Dg.plus_step (a:=a) (b:=b) (o:=o) (k:=k) (c:=c) hk (by simpa using hI);refine⟨(a[k]?.getD 0+b[k]?.getD 0+c)%Dg.B,?_,Nat.mod_lt _ Dg.B_pos,?_⟩
 ·rw[hX,hY,Dg.B_eq];omega
 ·rw[<- h];congr 2;rw[hX,hY,Dg.B_eq];omega
theorem addback_end {x y M c:Nat} (h:x+M*c=y+M) (hx:x<M) (hy:y<M):x=y:=by
 rcases Nat.lt_or_ge c 1 with h1 | h1
 ·have:c=0:=by omega
  subst this;omega
 ·rcases Nat.lt_or_ge 1 c with h2 | h2
  ·have:=Nat.mul_le_mul_left M h2;omega
  ·have:c=1:=by omega
   subst this;omega
theorem digit_any (base g j N cu : Nat) (A : Option Addr) (m c : Nat) (us v : List Nat) (w : World) (hu : OwnD w base g N us) (hv : Dig w A (m + 2) v) (hj : j + m + 3 ≤ N) (hN : N ≤ LIM) (hne : ∀ b o, A = some ⟨b, o, none⟩ → b ≠ g)
  (norm:Dg.B<=2*v[m+1]?.getD 0) (hUV:Dg.val ((us.drop j).take (m+3))<Dg.val v*Dg.B) :
  Calls Tryz.prog 183 #[.slice (some ⟨g,j,none⟩) (m+3) cu,.slice A (m+2) c] w fun e w'=>∃ us' q:_,e = .returned (.int .u32 (q:Nat))/\OwnD w' base g N us'/\us'.take j=us.take j/\us'.drop (j+m+3)=us.drop (j+m+3) /\
   q=Dg.val ((us.drop j).take (m+3)) / Dg.val v/\Dg.val ((us'.drop j).take (m+3))=Dg.val ((us.drop j).take (m+3))%Dg.val v/\w.grownBy w' (some g):=by
 have HU:=Lib.hid hu;have HV:=Lib.hid hv;have HNE:=Lib.hid hne;have oO:Dg.ok (us.drop j):=Dg.ok_drop hu.2.1 j;have E:=Lib.hid (Dg.ends_of hv.len.symm oO hv.ok norm);have HUV:=Lib.hid hUV;have OO:=Lib.hid oO;have hget:∀ i,(us.drop j)[i]?.getD 0=us[j+i]?.getD 0:=fun i=>by rw[List.getElem?_drop]
 obtain⟨bv,ov,rfl,hlv,hcellv⟩:=hv.at_ (by omega);have cu0:=hu.cell (i:=j+m) (by omega);have cu1:=hu.cell (i:=j+(m+1)) (by omega);have cu2:=hu.cell (i:=j+(m+2)) (by omega);have cv0:=hcellv m (by omega);have cv1:=hcellv (m+1) (by omega);rw[<- hget]at cu0 cu1 cu2;obtain⟨U0,hU0⟩:∃ X:Int,X=((us.drop j)[m]?.getD 0:Nat):=⟨_,rfl⟩;obtain⟨U1,hU1⟩:∃ X:Int,X=((us.drop j)[m+1]?.getD 0:Nat):=⟨_,rfl⟩;obtain⟨U2,hU2⟩:∃ X:Int,X=((us.drop j)[m+2]?.getD 0:Nat):=⟨_,rfl⟩;obtain⟨V0,hV0⟩:∃ X:Int,X=(v[m]?.getD 0:Nat):=⟨_,rfl⟩;obtain⟨V1,hV1⟩:∃ X:Int,X=(v[m+1]?.getD 0:Nat):=⟨_,rfl⟩;have b0:((us.drop j)[m]?.getD 0)<4294967296:=Dg.ok_getD oO _;have b1:((us.drop j)[m+1]?.getD 0)<4294967296:=Dg.ok_getD oO _;have b2:((us.drop j)[m+2]?.getD 0)<4294967296:=Dg.ok_getD oO _;have b3:(v[m]?.getD 0)<4294967296:=Dg.ok_getD hv.ok _;have b4:(v[m+1]?.getD 0)<4294967296:=Dg.ok_getD hv.ok _;rw[<- hU0]at cu0;rw[<- hU1]at cu1;rw[<- hU2]at cu2;rw[<- hV0]at cv0;rw[<- hV1]at cv1;have U00:0<=U0:=by omega
 have U01:U0<4294967296:=by omega
 have U10:0<=U1:=by omega
 have U11:U1<4294967296:=by omega
 have U20:0<=U2:=by omega
 have U21:U2<4294967296:=by omega
 have V00:0<=V0:=by omega
 have V01:V0<4294967296:=by omega
 have V10:1<=V1:=by rw[Dg.B_eq]at norm;omega
 have V11:V1<4294967296:=by omega
 -- the first two digits
 obtain⟨T,hT⟩:∃ T:Int,T=U2*4294967296+U1:=⟨_,rfl⟩;have hT0:0<=T:=by omega
 have hor:bits BinOp.or IntKind.u64 (U2*4294967296) U1=T:=by
  have h3:=Dg.or_high (x:=(us.drop j)[m+1]?.getD 0) (h:=(us.drop j)[m+2]?.getD 0) b1;rw[hT,hU1,hU2,show((((us.drop j)[m+2]?.getD 0:Nat):Int)*4294967296)=(((us.drop j)[m+2]?.getD 0*Dg.B:Nat):Int)from by rw[Dg.B_eq];omega,u64_or_nat _ _ (by rw[Dg.B_eq];omega) (by omega),Nat.or_comm,h3];omega
 have hinit:=Dg.guess_init E.out HUV.out;have eT:T=(((us.drop j)[m+2]?.getD 0*Dg.B+(us.drop j)[m+1]?.getD 0:Nat):Int):=by rw[hT,hU2,hU1,Dg.B_eq];omega
 obtain⟨G0,hG0⟩:∃ G:Int,G=T / V1:=⟨_,rfl⟩;obtain⟨R0,hR0⟩:∃ G:Int,T%V1=G:=⟨_,rfl⟩;have hGI:GuessI (Dg.val ((us.drop j).take (m+3))) (Dg.val v) ((us.drop j)[m+2]?.getD 0*Dg.B+(us.drop j)[m+1]?.getD 0) (v[m+1]?.getD 0) (v[m]?.getD 0) G0 R0 :=
  ⟨_,_,by rw[hG0,eT,hV1,Int.natCast_ediv],by rw[<- hR0,eT,hV1,Int.natCast_emod],hinit⟩
 have hq:IntKind.u64.wrap (T.tdiv V1)=G0:=by
  obtain⟨g',r',e1,e2,h1,h2,h3,h4⟩:=hGI;rw[Int.tdiv_eq_ediv_of_nonneg hT0,<- hG0];exact IntWalk.u64_in _ ⟨by omega,by rw[Dg.B_eq]at h3;omega⟩
 have HGI:=Lib.hid hGI;have hNN:(N:Int)<=2^40:=by unfold LIM at hN;omega
 have hm0:(m:Int)+2<(m:Int)+3:=by omega
 have hmN:(m:Int)+3<=2^40:=by omega
 have HT:=Lib.hid hT;have HU0:=Lib.hid hU0;have HU1:=Lib.hid hU1;have HU2:=Lib.hid hU2;have HV0:=Lib.hid hV0;have HV1:=Lib.hid hV1;have HJ:=Lib.hid hj;clear hG0 hT hU0 hU1 hU2 hV0 hV1 b0 b1 b2 b3 b4 hinit eT hGI hu hv hne oO norm hUV hcellv hN hget hNN
 go_enter Tryz.func183,Tryz.ntmps183
 go_wp2
 go_quiet (fail)
 go_wp2
 go_quiet (fail)
 go_upto_block 0 with(fail)
 go_cut [7] (fun s wx=>∃ G:Int,s = .int .u64 G/\0<=G/\G<4294967296/\Hid (GuessedI (Dg.val ((us.drop j).take (m+3))) (Dg.val v) G)/\Below w.heap.size w wx)
 case first =>
  have HRe:=Lib.hid hR0;clear hor hq hR0
  go_wp2_with fail
  go_loopw [7,8] (fun x y wr=>∃ G R:Int,x = .int .u64 G/\y = .int .u64 R/\0<=G/\G<=4294967297/\0<=R/\R<4294967296/\Hid (GuessI (Dg.val ((us.drop j).take (m+3))) (Dg.val v) ((us.drop j)[m+2]?.getD 0*Dg.B+(us.drop j)[m+1]?.getD 0) (v[m+1]?.getD 0) (v[m]?.getD 0) G R)/\Below w.heap.size w wr) (fun x _ _=>(intOf x).toNat)
  case atStart =>
   obtain⟨g',r',e1,e2,h1,h2,h3,h4,h5⟩:=HGI.out;rw[Dg.B_eq]at h3 h4;exact⟨G0,R0,rfl,by rw[HRe.out],by omega,by omega,by omega,by omega,HGI,xv (xv (Below.refl _ _) _) _⟩
  case round =>
   clear cu1 cu2 HGI;obtain⟨G,R,rfl,rfl,hG0,hG1,hR0,hR1,HG,hbw⟩:=hrel;have cu0':=(hbw.cell (p:=⟨g,j+m,none⟩) (HU.out.base.2)).trans cu0;have cv0':=(hbw.cell (p:=⟨bv,ov+m,none⟩) hlv).trans cv0;have cv1':=(hbw.cell (p:=⟨bv,ov+(m+1),none⟩) hlv).trans cv1;clear cu0 cv0 cv1;have hor2:bits BinOp.or IntKind.u64 (R*4294967296) U0=R*4294967296+U0:=by
    obtain⟨r',hr'⟩:=Int.eq_ofNat_of_zero_le hR0;obtain⟨u',hu'⟩:=Int.eq_ofNat_of_zero_le U00;have h3:=Dg.or_high (x:=u') (h:=r') (by rw[Dg.B_eq];omega);rw[hr',hu',show((r':Int)*4294967296)=((r'*Dg.B:Nat):Int)from by rw[Dg.B_eq];omega,u64_or_nat _ _ (by rw[Dg.B_eq];omega) (by omega),Nat.or_comm,h3];rw[Dg.B_eq];omega
   by_cases hbig:4294967296<=G
   ·obtain⟨hg1,hbr,hnb⟩:=Wp E.out HUV.out HU0.out HV0.out HV1.out HG.out (.inl hbig);have HBR:=Lib.hid hbr;have HNB:=Lib.hid hnb;clear hbr hnb;have hdb:decide (4294967296<=G)=true:=by simp;omega
    by_cases hov:4294967296<=R+V1
    ·have hdo:decide (4294967296<=R+V1)=true:=by simp;omega
     go_wp2
     go_quiet (fail)
     go_wp2
     go_meet
     case rel=>exact⟨G-1,rfl,by omega,(HBR.out hov).1,(HBR.out hov).2,xv hbw _⟩
    ·have hdo:decide (4294967296<=R+V1)=false:=by simp;omega
     go_wp2
     go_quiet (fail)
     go_wp2
     go_roundw
     case rel=>(repeat apply Exists.intro);exact⟨⟨G-1,R+V1,rfl,rfl,by omega,by omega,by omega,by omega,HNB.out (by omega),xv hbw _⟩,rfl⟩
     case measure=>simp[intOf] <;> omega
   ·obtain⟨P,hP⟩:∃ P:Int,P=G*V0:=⟨_,rfl⟩;have hPm:=Xk hG0 (by omega) V00 V01;have hw:IntKind.u64.wrap (G*V0)=P:=by rw[IntWalk.u64_in _ ⟨hPm.1,by omega⟩,hP]
    have HP:=Lib.hid hP;clear hPm hP;have hdb:decide (4294967296<=G)=false:=by simp;omega
    by_cases hcmp:R*4294967296+U0<P
    ·obtain⟨hg1,hbr,hnb⟩:=Wp E.out HUV.out HU0.out HV0.out HV1.out HG.out (.inr (by rw[<- HP.out];exact hcmp));have HBR:=Lib.hid hbr;have HNB:=Lib.hid hnb;clear hbr hnb;have hdc:decide (R*4294967296+U0<P)=true:=by simp;omega
     by_cases hov:4294967296<=R+V1
     ·have hdo:decide (4294967296<=R+V1)=true:=by simp;omega
      go_wp2
      go_quiet (fail)
      go_wp2
      go_meet
      case rel=>exact⟨G-1,rfl,by omega,(HBR.out hov).1,(HBR.out hov).2,xv hbw _⟩
     ·have hdo:decide (4294967296<=R+V1)=false:=by simp;omega
      go_wp2
      go_quiet (fail)
      go_wp2
      go_roundw
      case rel=>(repeat apply Exists.intro);exact⟨⟨G-1,R+V1,rfl,rfl,by omega,by omega,by omega,by omega,HNB.out (by omega),xv hbw _⟩,rfl⟩
      case measure=>simp[intOf] <;> omega
    ·have hdc:decide (R*4294967296+U0<P)=false:=by simp;omega
     have HX:=Lib.hid (guess_exit_int E.out HU0.out HV0.out HG.out (by omega) (by rw[<- HP.out];omega))
     go_wp2
     go_quiet (fail)
     go_wp2
     go_meet
     case rel=>exact⟨G,rfl,hG0,by omega,HX.out,xv hbw _⟩
 case rest =>
  obtain⟨G,rfl,hG0,hG1,HG,hbx⟩:=hcut;obtain⟨gq,hgq,hGd⟩:=HG.out;have HGq:=Lib.hid hgq;have HGd:=Lib.hid hGd;clear hor hq hR0 hgq hGd HG HGI cu0 cu1 cu2 cv0 cv1 U00 U01 U10 U11 U20 U21 V00 V01 V10 V11 hT0
  go_wp2
  go_loopw [9,10,84] (fun x y z wr=>∃(k:Nat) (C Bo:Int) (us':List Nat),k<=m+2/\z = .int .i64 k/\x = .int .u64 C/\y = .int .u32 Bo/\0<=C/\C<4294967296/\0<=Bo/\Bo<=1/\OwnD wr base g N us'/\Hid (us'.take j=us.take j)/\Hid ((us'.drop j).drop k=(us.drop j).drop k) /\
   Hid (Dg.val ((us'.drop j).take k)+gq*Dg.val (v.take k)=Dg.val ((us.drop j).take k)+Dg.B^k*(C+Bo).toNat)/\w.grownBy wr (some g)) (fun _ _ z _=>m+2-(intOf z).toNat)
  case atStart=>exact⟨0,0,0,us,by omega,rfl,rfl,rfl,by omega,by omega,by omega,by omega,HU.out.below hbx,rfl,rfl,by show _=_;simp[Dg.val],grownBy.of_below hbx⟩
  case round =>
   clear hbx;obtain⟨k,C,Bo,us',hk,rfl,rfl,rfl,hC0,hC1,hB0,hB1,hO,HT1,HT2,HI,hgr⟩:=hrel;have hug:∀ i,k<=i->us'[j+i]?.getD 0=(us.drop j)[i]?.getD 0:=by
    intro i hi;have:=congrArg (fun l:List Nat=>l[i-k]?.getD 0) HT2.out;simp only[List.getElem?_drop]at this;rw[List.getElem?_drop];rwa [show j+(k+(i-k))=j+i from by omega]at this
   by_cases hlt:k<m+2
   ·have hoc:=hO.cell (i:=j+k) (by have:=HJ.out;omega);have hof:=hO.frozen (j+k);rw[hug k (Nat.le_refl _)]at hoc;have hOh:=Lib.hid hO;obtain⟨b2,o2,hbe,hl2,hcell2⟩:=(HV.out.grown hgr HNE.out).at_ (by omega);injection hbe with hbe;injection hbe with hb1 hb2;subst hb1 hb2;have hc2:=hcell2 k hlt;have hx1:(v[k]?.getD 0)<4294967296:=Dg.ok_getD HV.out.ok k;have hz1:((us.drop j)[k]?.getD 0)<4294967296:=Dg.ok_getD OO.out k;obtain⟨X,hX⟩:∃ X:Int,X=(v[k]?.getD 0:Nat):=⟨_,rfl⟩;obtain⟨Z,hZ⟩:∃ X:Int,X=((us.drop j)[k]?.getD 0:Nat):=⟨_,rfl⟩;rw[<- hX]at hc2;rw[<- hZ]at hoc;have hX0:0<=X:=by omega
    have hX1:X<4294967296:=by omega
    have hZ0:0<=Z:=by omega
    have hZ1:Z<4294967296:=by omega
    have hm:=Xk hG0 hG1 hX0 hX1;obtain⟨P,hP⟩:∃ P:Int,P=G*X:=⟨_,rfl⟩;have hw:IntKind.u64.wrap (G*X)=P:=by rw[IntWalk.u64_in _ ⟨hm.1,by omega⟩,hP]
    have hP0:0<=P:=by omega
    have hP1:P<=18446744065119617025:=by omega
    obtain⟨d,hd1,hd2,hd3,hd4,hd5⟩:=mulsub_round (O:=us'.drop j) HGq.out hX hP hZ hZ1 hP0 hP1 hC0 hC1 hB0 hB1 (by rw[List.length_drop];have:=hO.1;have:=HJ.out;omega) HI.out;have HS:=Lib.hid (hO.set_ (j+k) d hd2);have HD5:=Lib.hid hd5;have hgn:w.grownBy (wr.setCell ⟨g,j+k,none⟩ (.int .u32 d)) (some g):=grownBy.trans hgr (hO.2.2.stored (j+k) _).2;have hbo:=kx Z ((P+C)%4294967296) Bo;have hS:bor Z ((P+C)%4294967296) Bo<=1:=by rcases hbo with h | h <;> omega
    have hS0:0<=bor Z ((P+C)%4294967296) Bo:=by rcases hbo with h | h <;> omega
    have hdk:decide ((k:Int)<(m:Int)+2)=true:=by simp;omega
    have hki:(k:Int)<(m:Int)+2:=by omega
    have hki':(k:Int)<(m:Int)+3:=by omega
    have hm1:0<=(P+C)%4294967296:=by omega
    have hm2:(P+C)%4294967296<4294967296:=by omega
    have HT3:Hid (((us'.set (j+k) d).drop j).drop (k+1)=(us.drop j).drop (k+1)):=by
     show _=_;rw[kF,List.drop_set_of_lt (by omega)];have e:∀ X:List Nat,X.drop (k+1)=(X.drop k).drop 1:=fun X=>by rw[List.drop_drop]
     rw[e,e,HT2.out]
    clear hd2 hd5 hO hX hZ hx1 hz1 hP hm hcell2 hug hbo
    go_wp2_with (go_at_call 179;refine(UY _ _ _ _ hZ0 hZ1 hm1 hm2 hB0 hB1).mono ?_;rintro e w' ⟨rfl,rfl⟩)
    go_roundw
    case rel=>(repeat apply Exists.intro);exact⟨⟨k+1,_,_,_,by omega,by go_num,rfl,rfl,hd3,hd4,hS0,hS,HS.out,(by show _=_;rw[vJ];exact HT1.out),HT3,(by rw[kF];exact HD5.out),hgn⟩,rfl⟩
    case measure=>simp[intOf] <;> omega
   ·obtain rfl:k=m+2:=by omega
    have hoc:=hO.cell (i:=j+(m+2)) (by have:=HJ.out;omega);have hof:=hO.frozen (j+(m+2));rw[hug (m+2) (Nat.le_refl _)]at hoc;have hz1:((us.drop j)[m+2]?.getD 0)<4294967296:=Dg.ok_getD OO.out _;obtain⟨Z,hZ⟩:∃ X:Int,X=((us.drop j)[m+2]?.getD 0:Nat):=⟨_,rfl⟩;rw[<- hZ]at hoc;have hZ0:0<=Z:=by omega
    have hZ1:Z<4294967296:=by omega
    obtain⟨d,hd1,hd2,hd3⟩:=mulsub_last (O:=us'.drop j) HGq.out hZ hZ1 hC0 hC1 hB0 hB1 HV.out.len.symm (by rw[List.length_drop];have:=hO.1;have:=HJ.out;omega) HI.out;have hS:=hO.set_ (j+(m+2)) d hd2;have hgn:w.grownBy (wr.setCell ⟨g,j+(m+2),none⟩ (.int .u32 d)) (some g):=grownBy.trans hgr (hO.2.2.stored (j+(m+2)) _).2;have hdk:decide ((m:Int)+2<(m:Int)+2)=false:=by simp
    have ht1:(us'.set (j+(m+2)) d).take j=us.take j:=by rw[vJ];exact HT1.out
    have ht2:(us'.set (j+(m+2)) d).drop (j+m+3)=us.drop (j+m+3):=by
     rw[List.drop_set_of_lt (by omega)];have e:∀ X:List Nat,X.drop (j+m+3)=((X.drop j).drop (m+2)).drop 1:=fun X=>by rw[List.drop_drop,List.drop_drop];congr 1
     rw[e,e,HT2.out]
    rw[<- kF]at hd3;have hlen:Dg.val (((us'.set (j+(m+2)) d).drop j).take (m+3))<Dg.B^(m+3):=by
     have:=Dg.val_lt (Dg.ok_take (Dg.ok_drop hS.2.1 j) (m+3));refine Nat.lt_of_lt_of_le this (Nat.pow_le_pow_right Dg.B_pos ?_);rw[List.length_take];omega
    have HS:=Lib.hid hS;have HT4:=Lib.hid ht1;have HT5:=Lib.hid ht2;have HLen:=Lib.hid hlen;have HD3:=Lib.hid hd3;clear hd2 hd3 hO hug hS ht1 ht2 hlen HT1 HT2 HI hZ hz1;rcases kx Z C Bo with⟨hbl,hb⟩ | ⟨hbl,hb⟩
    ·-- one too great
     have HR:=Lib.hid (Dg.sub_great HGd.out HD3.out HLen.out (by rw[hb];rfl));have hG1':1<=G:=by have:=HR.out.1;have:=HGq.out;omega
     have HB:=Lib.hid hb;clear hbl
     go_wp2_with (go_at_call 179;refine(UY _ _ _ _ hZ0 hZ1 hC0 hC1 hB0 hB1).mono ?_;rintro e w' ⟨rfl,rfl⟩)
     obtain⟨us1,hus1⟩:∃ l,l=us'.set (j+(m+2)) d:=⟨_,rfl⟩;rw[<- hus1]at HS HT4 HT5 HLen HR;have HVlt:=Lib.hid (Dg.val_lt HV.out.ok);clear HD3 hus1 hgr
     go_loopw [14,132] (fun x z wr=>∃(k:Nat) (C:Int) (us2:List Nat),k<=m+2/\z = .int .i64 k/\x = .int .u32 C/\0<=C/\C<=1/\OwnD wr base g N us2/\Hid (us2.take j=us1.take j)/\Hid ((us2.drop j).drop k=(us1.drop j).drop k) /\
      Hid (Dg.val ((us2.drop j).take k)+Dg.B^k*C.toNat=Dg.val ((us1.drop j).take k)+Dg.val (v.take k))/\w.grownBy wr (some g)) (fun _ z _=>m+2-(intOf z).toNat)
     case atStart=>exact⟨0,0,us1,by omega,rfl,rfl,by omega,by omega,HS.out,rfl,rfl,by show _=_;simp[Dg.val],hgn⟩
     case round =>
      clear hgn hoc hof HS HGd hZ0 hZ1 hd1 hdk;clear hC0 hC1 hB0 hB1;obtain⟨k,C,us2,hk,rfl,rfl,hC0,hC1,hO,HT1,HT2,HI,hgr⟩:=hrel;have hug:∀ i,k<=i->us2[j+i]?.getD 0=(us1.drop j)[i]?.getD 0:=by
       intro i hi;have:=congrArg (fun l:List Nat=>l[i-k]?.getD 0) HT2.out;simp only[List.getElem?_drop]at this;rw[List.getElem?_drop];rwa [show j+(k+(i-k))=j+i from by omega]at this
      have hok1:∀ i,k<=i->(us1.drop j)[i]?.getD 0<4294967296:=fun i hi=>by rw[<- hug i hi];exact Dg.ok_getD hO.2.1 _
      by_cases hlt:k<m+2
      ·have hoc:=hO.cell (i:=j+k) (by have:=HJ.out;omega);have hof:=hO.frozen (j+k);rw[hug k (Nat.le_refl _)]at hoc;obtain⟨b2,o2,hbe,hl2,hcell2⟩:=(HV.out.grown hgr HNE.out).at_ (by omega);injection hbe with hbe;injection hbe with hb1 hb2;subst hb1 hb2;have hc2:=hcell2 k hlt;have hx1:(v[k]?.getD 0)<4294967296:=Dg.ok_getD HV.out.ok k;have hz1:=hok1 k (Nat.le_refl _);obtain⟨X,hX⟩:∃ X:Int,X=(v[k]?.getD 0:Nat):=⟨_,rfl⟩;obtain⟨Z,hZ⟩:∃ X:Int,X=((us1.drop j)[k]?.getD 0:Nat):=⟨_,rfl⟩;rw[<- hX]at hc2;rw[<- hZ]at hoc;have hX0:0<=X:=by omega
       have hX1:X<4294967296:=by omega
       have hZ0:0<=Z:=by omega
       have hZ1:Z<4294967296:=by omega
       obtain⟨d,hd1,hd2,hd3⟩:=addback_round (o:=us2.drop j) hZ hX hC0 (by rw[List.length_drop];have:=hO.1;have:=HJ.out;omega) HI.out;have HS:=Lib.hid (hO.set_ (j+k) d hd2);have HD3:=Lib.hid hd3;have hgn:w.grownBy (wr.setCell ⟨g,j+k,none⟩ (.int .u32 d)) (some g):=grownBy.trans hgr (hO.2.2.stored (j+k) _).2;have hS:(Z+X+C) / 4294967296<=1:=by omega
       have hS0:0<=(Z+X+C) / 4294967296:=by omega
       have hdk:decide ((k:Int)<(m:Int)+2)=true:=by simp;omega
       have hki:(k:Int)<(m:Int)+2:=by omega
       have hki':(k:Int)<(m:Int)+3:=by omega
       have HT3:Hid (((us2.set (j+k) d).drop j).drop (k+1)=(us1.drop j).drop (k+1)):=by
        show _=_;rw[kF,List.drop_set_of_lt (by omega)];have e:∀ X:List Nat,X.drop (k+1)=(X.drop k).drop 1:=fun X=>by rw[List.drop_drop]
        rw[e,e,HT2.out]
       clear hd2 hd3 hO hX hZ hx1 hz1 hcell2 hug hok1
       go_wp2_with (go_at_call 177;refine(add32_any _ _ _ _ hZ0 hZ1 hX0 hX1 hC0 hC1).mono ?_;rintro e w' ⟨rfl,rfl⟩)
       go_roundw
       case rel=>exact⟨k+1,_,_,by omega,by go_num,rfl,hS0,hS,HS.out,(by show _=_;rw[vJ];exact HT1.out),HT3,(by rw[kF];exact HD3.out),hgn⟩
       case measure=>simp[intOf] <;> omega
      ·obtain rfl:k=m+2:=by omega
       have hoc:=hO.cell (i:=j+(m+2)) (by have:=HJ.out;omega);have hof:=hO.frozen (j+(m+2));rw[hug (m+2) (Nat.le_refl _)]at hoc;have hz1:=hok1 (m+2) (Nat.le_refl _);obtain⟨Z,hZ⟩:∃ X:Int,X=((us1.drop j)[m+2]?.getD 0:Nat):=⟨_,rfl⟩;rw[<- hZ]at hoc;have hZ0:0<=Z:=by omega
       have hZ1:Z<4294967296:=by omega
       obtain⟨d,hd1,hd2,hd3⟩:=addback_round (o:=us2.drop j) (Y:=0) hZ (by rw[List.getElem?_eq_none (by have:=HV.out.len;omega)];rfl) hC0 (by rw[List.length_drop];have:=hO.1;have:=HJ.out;omega) HI.out;rw[Int.add_zero]at hd1 hd3;have hS:=hO.set_ (j+(m+2)) d hd2;have hgn:w.grownBy (wr.setCell ⟨g,j+(m+2),none⟩ (.int .u32 d)) (some g):=grownBy.trans hgr (hO.2.2.stored (j+(m+2)) _).2;have hdk:decide ((m:Int)+2<(m:Int)+2)=false:=by simp
       have ht1:(us2.set (j+(m+2)) d).take j=us.take j:=by rw[vJ,HT1.out,HT4.out]
       have ht2:(us2.set (j+(m+2)) d).drop (j+m+3)=us.drop (j+m+3):=by
        rw[List.drop_set_of_lt (by omega),<- HT5.out];have e:∀ X:List Nat,X.drop (j+m+3)=((X.drop j).drop (m+2)).drop 1:=fun X=>by rw[List.drop_drop,List.drop_drop];congr 1
        rw[e,e,HT2.out]
       have hend:Dg.val (((us2.set (j+(m+2)) d).drop j).take (m+3))=Dg.val ((us.drop j).take (m+3))%Dg.val v:=by
        have hV0:0<Dg.val v:=by
         rcases Nat.eq_zero_or_pos (Dg.val v)with h | h
         ·have:=HUV.out;rw[h]at this;omega
         ·exact h
        have hlen:Dg.val (((us2.set (j+(m+2)) d).drop j).take (m+3))<Dg.B^(m+3):=by
         have:=Dg.val_lt (Dg.ok_take (Dg.ok_drop hS.2.1 j) (m+3));refine Nat.lt_of_lt_of_le this (Nat.pow_le_pow_right Dg.B_pos ?_);rw[List.length_take];omega
        have hvl:Dg.val v<Dg.B^(m+3):=Nat.lt_of_lt_of_le HVlt.out (Nat.pow_le_pow_right Dg.B_pos (by have:=HV.out.len;omega));refine addback_end (M:=Dg.B^(m+3)) (c:=((Z+C) / 4294967296).toNat) ?_ hlen (Nat.lt_trans (Nat.mod_lt _ hV0) hvl);rw[kF,HR.out.2.2];rw[List.take_of_length_le (l:=v) (by have:=HV.out.len;omega)]at hd3;exact hd3
       have HS:=Lib.hid hS;have HE:=Lib.hid hend;have HT6:=Lib.hid ht1;have HT7:=Lib.hid ht2;clear hd2 hd3 hO hug hok1 hS ht1 ht2 hend HI hZ hz1
       go_wp2
       go_ret
       exact⟨_,gq-1,yg (by have:=HGq.out;have:=HR.out.1;omega),HS.out,HT6.out,HT7.out,HR.out.2.1.symm,HE.out,hgn⟩
    ·have HR:=Lib.hid (Dg.sub_right HGd.out HD3.out (by rw[hb];rfl));clear hbl
     go_wp2_with (go_at_call 179;refine(UY _ _ _ _ hZ0 hZ1 hC0 hC1 hB0 hB1).mono ?_;rintro e w' ⟨rfl,rfl⟩)
     go_ret
     exact⟨_,gq,yg HGq.out,HS.out,HT4.out,HT5.out,HR.out.1.symm,HR.out.2.symm,hgn⟩
end Go.Proofs.YtkmbnldginonbaaGreat
set_option maxHeartbeats 2000000
set_option maxRecDepth 100000
set_option maxRecDepth 100000
namespace Go.Proofs.YtkmbnldginonbaaGreat
open Go.RowKit
def lenTab:ByteArray:={ data:=#[0,1,2,2,3,3,3,3,4,4,4,4,4,4,4,4,5,5,5,5,5,5,5,5,5,5,5,5,5,5,5,5,6,6,6,6,6,6,6,6,6,6,6,6,6,6,6,6,6,6,6,6,6,6,6,6,6,6,6,6,6,6,6,6,7,7,7,7,7,7,7,7,7,7,7,7,7,7,7,7,7,7,7,7,7,7,7,7,7,7,7,7,7,7,7,7,7,7,7,7,7,7,7,7,7,7,7,7,7,7,7,7,7,7,7,7,7,7,7,7,7,7,7,7,7,7,7,7,8,8,8,8,8,8,8,8,8,8,8,8,8,8,8,8,8,8,8,8,8,8,8,8,8,8,8,8,8,8,8,8,8,8,8,8,8,8,8,8,8,8,8,8,8,8,8,8,8,8,8,8,8,8,8,8,8,8,8,8,8,8,8,8,8,8,8,8,8,8,8,8,8,8,8,8,8,8,8,8,8,8,8,8,8,8,8,8,8,8,8,8,8,8,8,8,8,8,8,8,8,8,8,8,8,8,8,8,8,8,8,8,8,8,8,8,8,8,8,8,8,8,8,8,8,8,8,8] }
theorem gJ:lenTab.size=256:=by decide +kernel
theorem lenTab_all:∀ i:Fin 256,0<i.1->1<=(lenTab.data.toList[i.1]?.getD 0).toNat/\(lenTab.data.toList[i.1]?.getD 0).toNat<=8/\2^((lenTab.data.toList[i.1]?.getD 0).toNat-1)<=i.1/\i.1<2^(lenTab.data.toList[i.1]?.getD 0).toNat:=by decide +kernel
theorem UZ (i:Nat) (h:i<lenTab.size) (h0:0<i):1<=lenTab[i].toNat/\lenTab[i].toNat<=8/\2^(lenTab[i].toNat-1)<=i/\i<2^lenTab[i].toNat:=by
 have h2:i<256:=h;have:=lenTab_all ⟨i,h2⟩ h0;have e:lenTab.data.toList[i]?.getD 0=lenTab[i]:=by
  rw[List.getElem?_eq_getElem (show i<lenTab.data.toList.length from h2)];rfl
 have h3:1<=(lenTab.data.toList[i]?.getD 0).toNat/\(lenTab.data.toList[i]?.getD 0).toNat<=8/\2^((lenTab.data.toList[i]?.getD 0).toNat-1)<=i/\i<2^(lenTab.data.toList[i]?.getD 0).toNat:=this;rwa [e]at h3
theorem len_fin {x y k t:Nat} (hy:y=x / 2^k) (h1:1<=t) (h2:2^(t-1)<=y) (h3:y<2^t):2^(k+t-1)<=x/\x<2^(k+t):=by
 subst hy;have hp:0<2^k:=Nat.pow_pos (by omega);constructor
 ·rw[show k+t-1=(t-1)+k from by omega,Nat.pow_add];exact(Nat.le_div_iff_mul_le hp).1 h2
 ·rw[Nat.add_comm k t,Nat.pow_add];exact(Nat.div_lt_iff_lt_mul hp).1 h3
def IsLen (X:Int) (n:Nat):Prop:=1<=n/\n<=32/\2^(n-1)<=X.toNat/\X.toNat<2^n
theorem isLen_of {X Y:Int} {k:Nat} (hk:k<=24) (hY:Y.toNat=X.toNat / 2^k) (h:Y.toNat<lenTab.size) (h0:0<Y.toNat):IsLen X (k+lenTab[Y.toNat].toNat):=by
 obtain⟨h1,h2,h3,h4⟩:=UZ Y.toNat h h0;have:=len_fin hY h1 h3 h4;exact⟨by omega,by omega,this.1,this.2⟩
theorem len_sum (a:Int) (t:Nat) (h0:0<=a) (h1:a<=24) (ht:t<=8):wrap64 (a+wrap64 (t:Int))=((a.toNat+t:Nat):Int):=by
 rw[IntWalk.wrap64_in (t:Int) ⟨by omega,by omega⟩,IntWalk.wrap64_in _ ⟨by omega,by omega⟩];omega
def LenPost (X:Int) (w:World) (e:Ending) (w':World):Prop:=∃ n:Nat,e = .returned (.int .i64 n)/\IsLen X n/\w=w'
theorem len32_any (X : Int) (w : World) (h0 : 0 < X) (h1 : X < 4294967296) :
  Calls Tryz.prog 188 #[.int .u32 X] w (LenPost X w):=by
 by_cases c1:65536<=X
 ·have hd1:decide (65536<=X)=true:=by simp;omega
  by_cases c2:16777216<=X
  ·have hd2:decide (256<=X / 65536)=true:=by simp;omega
   have hl:(X / 65536 / 256).toNat<lenTab.size:=by rw[gJ];omega
   have L:=Lib.hid (isLen_of (X:=X) (k:=24) (Y:=X / 65536 / 256) (by omega) (by simp only[show(2:Nat)^24=16777216 from rfl];omega) hl (by omega));have hT:=Lib.hid (UZ _ hl (by omega));have hb1:0<=X / 65536 / 256:=by omega
   have hb2:X / 65536 / 256<256:=by omega
   go_enter Tryz.func188,Tryz.ntmps188
   go_wp2
   go_ret
   exact⟨_,yg (len_sum 24 _ (by omega) (by omega) hT.out.2.1),L.out,rfl⟩
  ·have hd2:decide (256<=X / 65536)=false:=by simp;omega
   have hl:(X / 65536).toNat<lenTab.size:=by rw[gJ];omega
   have L:=Lib.hid (isLen_of (X:=X) (k:=16) (Y:=X / 65536) (by omega) (by simp only[show(2:Nat)^16=65536 from rfl];omega) hl (by omega));have hT:=Lib.hid (UZ _ hl (by omega));have hb1:0<=X / 65536:=by omega
   have hb2:X / 65536<256:=by omega
   go_enter Tryz.func188,Tryz.ntmps188
   go_wp2
   go_ret
   exact⟨_,yg (len_sum 16 _ (by omega) (by omega) hT.out.2.1),L.out,rfl⟩
 ·have hd1:decide (65536<=X)=false:=by simp;omega
  by_cases c2:256<=X
  ·have hd2:decide (256<=X)=true:=by simp;omega
   have hl:(X / 256).toNat<lenTab.size:=by rw[gJ];omega
   have L:=Lib.hid (isLen_of (X:=X) (k:=8) (Y:=X / 256) (by omega) (by simp only[show(2:Nat)^8=256 from rfl];omega) hl (by omega));have hT:=Lib.hid (UZ _ hl (by omega));have hb1:0<=X / 256:=by omega
   have hb2:X / 256<256:=by omega
   go_enter Tryz.func188,Tryz.ntmps188
   go_wp2
   go_ret
   exact⟨_,yg (len_sum 8 _ (by omega) (by omega) hT.out.2.1),L.out,rfl⟩
  ·have hd2:decide (256<=X)=false:=by simp;omega
   have hl:X.toNat<lenTab.size:=by rw[gJ];omega
   have L:=Lib.hid (isLen_of (X:=X) (k:=0) (Y:=X) (by omega) (by simp) hl (by omega));have hT:=Lib.hid (UZ _ hl (by omega));have hb1:0<=X:=by omega
   have hb2:X<256:=by omega
   go_enter Tryz.func188,Tryz.ntmps188
   go_wp2
   go_ret
   exact⟨_,yg (by have:=len_sum 0 (lenTab[X.toNat]'hl).toNat (by omega) (by omega) hT.out.2.1;rw[Int.zero_add]at this;exact this),L.out,rfl⟩
def LzPost (X:Int) (w:World) (e:Ending) (w':World):Prop:=∃ s:Nat,e = .returned (.int .i64 s)/\s<=31/\Dg.B<=2*(X.toNat*2^s)/\X.toNat*2^s<Dg.B/\w=w'
theorem lz_of {x n:Nat} (h1:1<=n) (h2:n<=32) (h3:2^(n-1)<=x) (h4:x<2^n):Dg.B<=2*(x*2^(32-n))/\x*2^(32-n)<Dg.B:=by
 have hp:0<2^(32-n):=Nat.pow_pos (by omega);have e:Dg.B=2^n*2^(32-n):=by rw[<- Nat.pow_add,show n+(32-n)=32 from by omega];rfl
 have e2:2^n=2*2^(n-1):=by rw[Nat.mul_comm,<- Nat.pow_succ];congr 1;omega
 constructor
 ·rw[e,e2,Nat.mul_assoc];exact Nat.mul_le_mul_left 2 (Nat.mul_le_mul_right _ h3)
 ·rw[e];exact Nat.mul_lt_mul_of_pos_right h4 hp
theorem lz32_any (X : Int) (w : World) (h0 : 0 < X) (h1 : X < 4294967296) :
  Calls Tryz.prog 181 #[.int .u32 X] w (LzPost X w):=by
 go_enter Tryz.func181,Tryz.ntmps181
 go_wp2_with (go_at_call 188;refine(len32_any _ _ h0 h1).mono ?_;rintro e w' ⟨n,rfl,hL,rfl⟩;have HL:=Lib.hid hL;have hn1:=hL.1;have hn2:=hL.2.1;clear hL)
 go_ret
 have:=lz_of HL.out.1 HL.out.2.1 HL.out.2.2.1 HL.out.2.2.2;exact⟨32-n,yg (by omega),by omega,this.1,this.2,rfl⟩
theorem isVal_of_own {w:World} {base n:Nat} {v:Value} {ds:List Nat} (h:w.ownsRow base 119 1 v n (u32s ds)) (ho:Dg.ok ds):∃ A c,v = .slice A n c/\Dig w A n ds/\n<=c:=by
 have hl:ds.length=n:=by have:=h.1;rw[WJ]at this;omega
 rcases h.2 with⟨rfl,rfl⟩ | ⟨g,cap,cur,rfl,_,hh,hnc,_,_,htk⟩
 ·obtain rfl:ds=[]:=List.length_eq_zero_iff.1 hl;exact⟨none,0,rfl,Dig.nil w,by omega⟩
 ·refine⟨_,cap,rfl,⟨hl.symm,ho,fun _=>⟨g,0,rfl,?_,fun i hi=>?_⟩⟩,hnc⟩
  ·rcases Nat.lt_or_ge g w.heap.size with h1 | h1
   ·exact h1
   ·rw[Array.getElem?_eq_none h1]at hh;cases hh
  ·have e:cur.toList[i]? = (u32s ds)[i]? := by rw[<- htk,List.getElem?_take,if_pos (by omega)]
   simp only[World.cell?,hh,Nat.zero_add,Option.isSome_none];rw[if_neg (by simp)];have e2:cur[i]? = cur.toList[i]? := by simp
   rw[e2,e,u32s_get ds i hi];simp[hi]
theorem u32s_one (ds:List Nat):∀ u∈u32s ds,u.oneCell'=true:=by
 intro u hu;simp only[u32s,List.mem_map]at hu;obtain⟨d,_,rfl⟩:=hu;rfl
theorem W5 (A : Option Addr) (n c : Nat) (ds : List Nat) (w : World) (hd : Dig w A n ds) (hn : n ≤ LIM) :
  Calls Tryz.prog 152 #[.slice A n c] w fun e w'=>∃ A' c',e = .returned (.slice A' n c')/\Dig w' A' n ds/\n<=c'/\Below w.heap.size w w':=by
 have H:=Lib.hid hd;clear hd;obtain⟨i0,hi,hz0,hz1,hz2⟩:=info_parts gK;unfold LIM at hn;have heq:=fun(W:World)=>Lib.run_eql_slice_nil (P:=Tryz.prog) W 34 119 A n c 0 0 Tryz.underlying34;rcases A with _ | ad
 ·have h0:n=0:=by
   rcases Nat.eq_zero_or_pos n with h | h
   ·exact h
   ·obtain⟨b,o,hA,_⟩:=H.out.2.2 h;cases hA
  subst h0;obtain rfl:ds=[]:=List.length_eq_zero_iff.1 H.out.len.symm
  go_enter Tryz.func152,Tryz.ntmps152
  go_wp2
  go_ret
  exact⟨none,0,rfl,Dig.nil _,by omega,Below.refl _ _⟩
 ·have hcells:∀ W,Below w.heap.size w W->∀ j u,(u32s ds)[j]? = some u->W.cell? (ad.add j)=some u:=by
   intro W hb j u hj;have hjl:j<ds.length:=by
    rcases Nat.lt_or_ge j ds.length with h | h
    ·exact h
    ·rw[List.getElem?_eq_none (by rw[WJ];exact h)]at hj;cases hj
   obtain⟨b,o,hA,_,hc⟩:=(H.out.below hb).at_ (by have:=H.out.len;omega);injection hA with hA;subst hA;rw[u32s_get ds j hjl]at hj;rw[<- hj,<- hc j (by have:=H.out.len;omega)];unfold Addr.add;by_cases h0:j=0 <;> simp[h0]
  have HC:=Lib.hid hcells;clear hcells
  go_enter Tryz.func152,Tryz.ntmps152
  go_wp2_with (at_builtin;refine wpList_append_own _ rfl _ _ 34 rfl w.heap.size 119 i0 _ 1 4 Tryz.underlying34 hi hz0 hz1 hz2 rfl (by decide) _ 0 [] rfl (World.ownsRow_lit w #[] 0 (Nat.le_refl _) (by decide) rfl) ad n c (u32s ds) rfl (by rw[WJ];have:=H.out.len;omega) (HC.out _ ((Below.refl w.heap.size w).alloc (Nat.le_refl _) _)) (u32s_one ds) (by unfold maxLen;omega) (by omega) (by simp) ?_;intro v' w1 hown hgr hnil)
  go_ret
  rw[Nat.zero_add,List.nil_append]at hown;obtain⟨A',c',rfl,hd',hc'⟩:=isVal_of_own hown H.out.ok;exact⟨_,_,rfl,hd',hc',((Below.refl w.heap.size w).alloc (Nat.le_refl _) _).grown hgr (by simp) (fun k hk=>by have h2:some w.heap.size=some k:=hk;injection h2 with h2;omega)⟩
end Go.Proofs.YtkmbnldginonbaaGreat
/- The function divide of package bigint: quotient and remainder of two numbers by their digits, which have no leading zeros; the second one is not 0. The lengths are at most 2^39. -/
namespace Go.Proofs.YtkmbnldginonbaaGreat
open Go.RowKit
theorem IsDig.tight {w:World} {v:Value} {x L M:Nat} (h:IsDig w v x L) (hx:x<Dg.B^M):IsDig w v x M:=by
 obtain⟨A,n,c,ds,h1,h2,h3,h4,h5,h6⟩:=h;exact⟨A,n,c,ds,h1,h2,h3,by have:=Dg.length_le_of_val h5 (by rw[h6];exact hx);have:=h2.len;omega,h5,h6⟩
def DivPost (x y n m:Nat) (w:World) (e:Ending) (w':World):Prop:=∃ v1 v2,e = .returned (.tuple #[v1,v2])/\IsDig w' v1 (x / y) n/\IsDig w' v2 (x%y) m/\Below w.heap.size w w'
theorem divide_less (A A' : Option Addr) (n c n' c' : Nat) (a b : List Nat) (w : World) (ha : Dig w A n a) (hb : Dig w A' n' b) (ta : Dg.trimmed a) (tb : Dg.trimmed b) (hn : n ≤ LIM) (hn' : n' ≤ LIM) (hlt : Dg.val a < Dg.val b) :
  Calls Tryz.prog 173 #[.slice A n c,.slice A' n' c'] w (DivPost (Dg.val a) (Dg.val b) n n' w):=by
 have hm:n<=maxLen:=by unfold maxLen;unfold LIM at hn;omega
 have hm':n'<=maxLen:=by unfold maxLen;unfold LIM at hn';omega
 have HA:=Lib.hid ha;have HB:=Lib.hid hb;have TA:=Lib.hid ta;have TB:=Lib.hid tb;have HLT:=Lib.hid hlt;have C:=fun W hW=>y9 A A' n c n' c' a b W (HA.out.below (w':=W) hW) (HB.out.below hW) ta tb hm hm';rw[cmpN_lt hlt]at C;have HC:=Lib.hid C;have HN:=Lib.hid hn;have hvb:=Dg.val_lt HB.out.ok;rw[<- HB.out.len]at hvb;have HVB:=Lib.hid hvb;clear ha hb ta tb hlt C hm hm' hn hn' hvb
 go_enter Tryz.func173,Tryz.ntmps173
 go_wp2_with (first
  |(go_at_call 170;refine(HC.out _ (Below.refl _ _)).mono ?_;rintro e w1 ⟨rfl,hb1⟩)
  |(go_at_call 152;refine(W5 A n c a _ (HA.out.below hb1) HN.out).mono ?_;rintro e w2 ⟨A2,c2,rfl,hd2,hc2,hb2⟩;have HD2:=Lib.hid hd2;clear hd2))
 go_ret2
 refine⟨_,_,rfl,⟨none,0,0,[],rfl,Dig.nil _,by omega,by omega,by intro d h;simp at h,?_⟩,IsDig.tight ⟨A2,n,c2,a,rfl,HD2.out,hc2,Nat.le_refl _,TA.out,?_⟩ (Nat.lt_trans (Nat.mod_lt _ (by have:=HLT.out;omega)) HVB.out),zk hb1 hb2⟩
 ·rw[Nat.div_eq_of_lt HLT.out];rfl
 ·rw[Nat.mod_eq_of_lt HLT.out]
theorem divide_word (A A' : Option Addr) (n c n' c' : Nat) (a b : List Nat) (w : World) (ha : Dig w A n a) (hb : Dig w A' n' b) (ta : Dg.trimmed a) (tb : Dg.trimmed b) (h2 : n ≤ 2) (hn' : n' ≤ LIM) (hlt : Dg.val b ≤ Dg.val a) (h0 : 0 < Dg.val b) :
  Calls Tryz.prog 173 #[.slice A n c,.slice A' n' c'] w (DivPost (Dg.val a) (Dg.val b) n n' w):=by
 have hm:n<=maxLen:=by unfold maxLen;omega
 have hm':n'<=maxLen:=by unfold maxLen;unfold LIM at hn';omega
 have hva:=Dg.val_lt ha.ok;rw[<- ha.len]at hva;have hvb:=Dg.val_lt hb.ok;rw[<- hb.len]at hvb;have hn2:n'<=2:=by
  have:Dg.val b<Dg.B^n:=by omega
  have:=Dg.length_le_of_val tb this;rw[hb.len];omega
 have hva2:Dg.val a<Dg.B*Dg.B:=by
  have:Dg.B^n<=Dg.B^2:=Nat.pow_le_pow_right Dg.B_pos h2;rw[Nat.pow_two]at this;omega
 have HA:=Lib.hid ha;have HB:=Lib.hid hb;obtain⟨K,hK⟩:∃ K:Int,K=cmpN (Dg.val a) (Dg.val b):=⟨_,rfl⟩;have hK0:0<=K:=by
  rw[hK];rcases Nat.lt_or_ge (Dg.val b) (Dg.val a)with h | h
  ·rw[WB h];omega
  ·have:Dg.val a=Dg.val b:=by omega
   rw[this,Up];omega
 have hdK:decide (K<0)=false:=by simp;omega
 have HC:=Lib.hid (fun W hW=>y9 A A' n c n' c' a b W (HA.out.below (w':=W) hW) (HB.out.below hW) ta tb hm hm');rw[<- hK]at HC;have Wa:=fun W hW=>word_any A n c a W (HA.out.below (w':=W) hW) h2;have Wb:=fun W hW=>word_any A' n' c' b W (HB.out.below (w':=W) hW) hn2;have hxq:Dg.val a / Dg.val b<=Dg.val a:=Nat.div_le_self _ _;have hxr:=Nat.mod_lt (Dg.val a) h0;have W1:=fun W=>v7 (Dg.val a / Dg.val b) W (by omega);have W2:=fun W=>v7 (Dg.val a%Dg.val b) W (by omega);have HVA:=Lib.hid hva;have HVB:=Lib.hid hvb;have hQa:Dg.val a / Dg.val b<Dg.B^n:=by omega
 have hQr:Dg.val a%Dg.val b<Dg.B^n':=by omega
 have HQa:=Lib.hid hQa;have HQr:=Lib.hid hQr;have hB64:Dg.B*Dg.B=18446744073709551616:=rfl;have hq1:IntKind.u64.wrap (((Dg.val a:Nat):Int).tdiv (Dg.val b:Nat))=((Dg.val a / Dg.val b:Nat):Int):=by
  rw[Int.tdiv_eq_ediv_of_nonneg (by omega),<- Int.natCast_ediv];generalize Dg.val a / Dg.val b=q at *;exact IntWalk.u64_in _ ⟨by omega,by omega⟩
 have hr1:IntKind.u64.wrap (((Dg.val a:Nat):Int).tmod (Dg.val b:Nat))=((Dg.val a%Dg.val b:Nat):Int):=by
  rw[Int.tmod_eq_emod_of_nonneg (by omega),<- Int.natCast_emod];generalize Dg.val a%Dg.val b=q at *;exact IntWalk.u64_in _ ⟨by omega,by omega⟩
 have HW1:=Lib.hid W1;have HW2:=Lib.hid W2;have HWa:=Lib.hid Wa;have HWb:=Lib.hid Wb;obtain⟨x,hx⟩:∃ x,x=Dg.val a:=⟨_,rfl⟩;obtain⟨y,hy⟩:∃ x,x=Dg.val b:=⟨_,rfl⟩;rw[<- hx,<- hy]at hq1 hr1 HW1 HW2 HQa HQr ⊢
 rw[<- hx]at HWa;rw[<- hy]at HWb h0;obtain⟨X,hX⟩:∃ X:Int,X=x:=⟨_,rfl⟩;obtain⟨Y,hY⟩:∃ X:Int,X=y:=⟨_,rfl⟩;have hX0:0<=X:=by omega
 have hY0:1<=Y:=by omega
 have hdn:decide ((n:Int)<=2)=true:=by simp;omega
 have hYb:(Y == 0)=false:=by simp;omega
 have hYn:¬ Y=0:=by omega
 rw[<- hX,<- hY]at hq1 hr1;rw[<- hX]at HWa;rw[<- hY]at HWb;have hq2:X / Y=((x / y:Nat):Int):=by rw[hX,hY,Int.natCast_ediv]
 have hr2:X%Y=((x%y:Nat):Int):=by rw[hX,hY,Int.natCast_emod]
 obtain⟨q,hqq⟩:∃ q,q=x / y:=⟨_,rfl⟩;obtain⟨r,hrr⟩:∃ q,q=x%y:=⟨_,rfl⟩;rw[<- hqq]at hq1 hq2 HW1 HQa;rw[<- hrr]at hr1 hr2 HW2 HQr;have hr3:X.tmod Y=(r:Int):=by rw[Int.tmod_eq_emod_of_nonneg hX0];exact hr2
 have HQ:=Lib.hid hqq;have HR:=Lib.hid hrr;clear hqq hrr;clear ha hb ta tb hlt hm hm' hn' hva hvb hva2 hK W1 W2 Wa Wb hxq hxr hQa hQr hB64 hx hy hX hY h0 HVA HVB h2 hn2
 go_enter Tryz.func173,Tryz.ntmps173
 go_wp2_with fail
 refine(HC.out _ (Below.refl _ _)).mono ?_;rintro e w1 ⟨rfl,hb1⟩
 go_wp2_with fail
 refine(HWa.out _ hb1).mono ?_;rintro e w2 ⟨rfl,hb2⟩;have hb12:=zk hb1 hb2;clear hb1 hb2
 go_wp2_with fail
 refine(HWb.out _ hb12).mono ?_;rintro e w3 ⟨rfl,hb3⟩;have hb13:=zk hb12 hb3;clear hb12 hb3
 go_wp2_with fail
 go_region_held3 (fun _=>True) (trivial) (first | (go_at_call_of 135 (Value.int IntKind.u64 (q:Int));refine(HW1.out _).mono ?_;rintro e w4 ⟨v1,rfl,hv1,hb4⟩;have HV1:=Lib.hid hv1;clear hv1) | (go_at_call_of 135 (Value.int IntKind.u64 (r:Int));refine(HW2.out _).mono ?_;rintro e w5 ⟨v2,rfl,hv2,hb5⟩;have HV2:=Lib.hid hv2;clear hv2))
 go_wp2
 go_ret2
 have hbb:=zk (zk hb13.drew hb4) hb5;exact⟨_,_,rfl,by rw[<- HQ.out];exact(HV1.out.below hb5).tight HQa.out,by rw[<- HR.out];exact HV2.out.tight HQr.out,hbb⟩
theorem divide_short (A A' : Option Addr) (n c c' : Nat) (a b : List Nat) (w : World) (ha : Dig w A n a) (hb : Dig w A' 1 b) (ta : Dg.trimmed a) (tb : Dg.trimmed b) (h2 : 2 < n) (hn : n ≤ LIM) (hlt : Dg.val b ≤ Dg.val a) (h0 : 0 < Dg.val b) :
  Calls Tryz.prog 173 #[.slice A n c,.slice A' 1 c'] w (DivPost (Dg.val a) (Dg.val b) n 1 w):=by
 have hm:n<=maxLen:=by unfold maxLen;unfold LIM at hn;omega
 have HA:=Lib.hid ha;have HB:=Lib.hid hb;obtain⟨d,rfl⟩:=List.length_eq_one_iff.1 hb.len.symm;have hdv:Dg.val [d]=d:=by simp[Dg.val]
 rw[hdv]at hlt h0 ⊢
 have hdB:=(Dg.ok_cons.1 hb.ok).1;obtain⟨K,hK⟩:∃ K:Int,K=cmpN (Dg.val a) (Dg.val [d]):=⟨_,rfl⟩;have hK0:0<=K:=by
  rw[hK,hdv];rcases Nat.lt_or_ge d (Dg.val a)with h | h
  ·rw[WB h];omega
  ·have:Dg.val a=d:=by omega
   rw[this,Up];omega
 have hdK:decide (K<0)=false:=by simp;omega
 have HC:=Lib.hid (fun W hW=>y9 A A' n c 1 c' a [d] W (HA.out.below (w':=W) hW) (HB.out.below hW) ta tb hm (by unfold maxLen;omega));rw[<- hK]at HC;obtain⟨b1,o1,rfl,hl1,hcell1⟩:=hb.at_ (by omega);have hc0:=hcell1 0 (by omega);simp only[List.getElem?_cons_zero,Option.getD_some,Nat.add_zero]at hc0;obtain⟨D,hD⟩:∃ D:Int,D=d:=⟨_,rfl⟩;rw[<- hD]at hc0;have hD0:0<D:=by omega
 have hD1:D<4294967296:=by rw[Dg.B_eq]at hdB;omega
 have HS:=Lib.hid (fun W hW=>short_any A n c D a W (HA.out.below (w':=W) hW) hn hD0 hD1);have hdn:decide ((n:Int)<=2)=false:=by simp;omega
 have hva:=Dg.val_lt ha.ok;rw[<- ha.len]at hva;have HVA:=Lib.hid hva;have HDe:=Lib.hid hD;have hdB':d<Dg.B^1:=by rw[Nat.pow_one];exact hdB
 have HDB:=Lib.hid hdB';have HL:=Lib.hid hm;have H0:=Lib.hid h0;clear hm ha hb ta tb hlt hdv hdB hdB' hK hcell1 hD hva h0 hn
 go_enter Tryz.func173,Tryz.ntmps173
 go_wp2_with fail
 refine(HC.out _ (Below.refl _ _)).mono ?_;rintro e w1 ⟨rfl,hb1⟩;have hc1:=(hb1.cell (p:=⟨b1,o1,none⟩) hl1).trans hc0;clear hc0
 go_wp2_with fail
 refine(HS.out _ hb1).mono ?_;rintro e w2 ⟨g,q,R,rfl,hq,hR0,hR1,hval,hb2⟩;have HQ:=Lib.hid hq;have HVal:=Lib.hid hval;have hb12:=zk hb1 hb2;clear hq hval hc1 hb1 hb2
 go_wp2_with fail
 refine(zK _ _ _ q _ HQ.out HL.out (Nat.le_refl _)).mono ?_;rintro e w3 ⟨rfl,rfl⟩;obtain⟨r,rfl⟩:=Int.eq_ofNat_of_zero_le hR0;have hr64:r<Dg.B*Dg.B:=by have h1:=HDB.out;rw[Nat.pow_one]at h1;have h2:=HDe.out;have:Dg.B*1<=Dg.B*Dg.B:=Nat.mul_le_mul_left _ Dg.B_pos;omega
 have HR:=Lib.hid hr64;clear hr64
 go_wp2_with fail
 refine(v7 _ _ HR.out).mono ?_;rintro e w4 ⟨v,rfl,hv,hb3⟩;have HV:=Lib.hid hv;clear hv;have hb14:=zk hb12 hb3
 go_wp2
 go_ret2
 have hval:=HVal.out;have hd:=HDe.out;have hr:=Dg.guess_right (U:=Dg.val a) (V:=d) (W:=r) (g:=Dg.val q) (M:=0) (by rw[hval,hd];simp;omega) (by rw[hval,hd,Nat.add_mul,Nat.one_mul];simp;omega);refine⟨_,_,rfl,?_,?_,hb14⟩
 ·refine IsDig.tight ⟨_,_,_,Dg.trim q,rfl,HQ.out.trim.below hb3,?_,Nat.le_refl _,Dg.trim_trimmed q,?_⟩ (Nat.lt_of_le_of_lt (Nat.div_le_self _ _) HVA.out)
  ·have:=zf q;have:=HQ.out.len;omega
  ·rw[Dg.val_trim];exact hr.1.symm
 ·rw[hr.2];exact HV.out.tight (by have:=HDB.out;omega)
end Go.Proofs.YtkmbnldginonbaaGreat
/- The function divide of package bigint at divisors of two digits and more. The lengths are at most 2^39. -/
namespace Go.Proofs.YtkmbnldginonbaaGreat
open Go.RowKit
theorem OwnD.rebase {w:World} {base base' g n:Nat} {ds:List Nat} (h:OwnD w base g n ds) (hb:base'<=base):OwnD w base' g n ds:=by
 refine⟨h.1,h.2.1,h.2.2.1,?_⟩;rcases h.2.2.2 with h1 | ⟨g',cap,cur,h1,h2,h3⟩
 ·exact .inl h1
 ·exact .inr ⟨g',cap,cur,h1,by omega,h3⟩
theorem OwnD.other {w w':World} {base g n k:Nat} {ds:List Nat} (h:OwnD w base g n ds) (hg:w.grownBy w' (some k)) (hne:g≠k):OwnD w' base g n ds :=
 ⟨h.1,h.2.1,h.2.2.kept hg (.inr (by simpa [Value.ownBlock] using hne))⟩
theorem OwnD.grown0 {w w':World} {base g n:Nat} {ds:List Nat} (h:OwnD w base g n ds) (hg:w.grownBy w' none):OwnD w' base g n ds :=
 ⟨h.1,h.2.1,h.2.2.kept hg (.inr (by simp[Value.ownBlock]))⟩
theorem divide_long (A A' : Option Addr) (p m c c' : Nat) (a b : List Nat) (w : World) (ha : Dig w A (p + m + 2) a) (hb : Dig w A' (m + 2) b) (ta : Dg.trimmed a) (tb : Dg.trimmed b) (h2 : 2 < p + m + 2) (hn : p + m + 3 ≤ LIM) (hlt : Dg.val b ≤ Dg.val a) (h0 : 0 < Dg.val b) :
  Calls Tryz.prog 173 #[.slice A (p+m+2) c,.slice A' (m+2) c'] w (DivPost (Dg.val a) (Dg.val b) (p+m+2) (m+2) w):=by
 have hm:p+m+2<=maxLen:=by unfold maxLen;unfold LIM at hn;omega
 have hm':m+3<=maxLen:=by unfold maxLen;unfold LIM at hn;omega
 have HA:=Lib.hid ha;have HB:=Lib.hid hb;obtain⟨i0,hi,hz0,hz1,hz2⟩:=info_parts gK;obtain⟨K,hK⟩:∃ K:Int,K=cmpN (Dg.val a) (Dg.val b):=⟨_,rfl⟩;have hK0:0<=K:=by
  rw[hK];rcases Nat.lt_or_ge (Dg.val b) (Dg.val a)with h | h
  ·rw[WB h];omega
  ·have:Dg.val a=Dg.val b:=by omega
   rw[this,Up];omega
 have hdK:decide (K<0)=false:=by simp;omega
 have HC:=Lib.hid (fun W hW=>y9 A A' (p+m+2) c (m+2) c' a b W (HA.out.below (w':=W) hW) (HB.out.below hW) ta tb hm (by unfold maxLen at *;omega));rw[<- hK]at HC;obtain⟨b1,o1,rfl,hl1,hcell1⟩:=hb.at_ (by omega);have hc0:=hcell1 (m+1) (by omega);have hdB:=Dg.ok_getD hb.ok (m+1);have hml:m+1<b.length:=by have:=hb.len;omega
 have hd0:0<b[m+1]?.getD 0:=by
  rcases Nat.eq_zero_or_pos (b[m+1]?.getD 0)with h | h
  ·exfalso;have hl:b.getLast? = some b[m+1]:=by
    rw[List.getLast?_eq_getElem?,<- hb.len];exact List.getElem?_eq_getElem hml
   rw[Dg.getD_eq hml]at h;exact tb _ hl h
  ·exact h
 obtain⟨D,hD⟩:∃ D:Int,D=(b[m+1]?.getD 0:Nat):=⟨_,rfl⟩;rw[<- hD]at hc0;have hD0:0<D:=by omega
 have hD1:D<4294967296:=by rw[Dg.B_eq]at hdB;omega
 have hpm:((p:Int)+m+2)<=2^40:=by unfold LIM at hn;omega
 have hdn:decide ((p:Int)+(m:Int)+2<=2)=false:=by simp;omega
 have hdb:(((m:Int)+2) == 1)=false:=by simp;omega
 have HDe:=Lib.hid hD;have HL:=Lib.hid hm';have H0:=Lib.hid h0;have HN:=Lib.hid hn;have HTa:=Lib.hid ta;clear hml hm hm' ha hb ta tb hlt hdB hK hcell1 hD h0 hn hd0
 go_enter Tryz.func173,Tryz.ntmps173
 go_wp2_with fail
 refine(HC.out _ (Below.refl _ _)).mono ?_;rintro e w1 ⟨rfl,hb1⟩;have hc1:=(hb1.cell (p:=⟨b1,o1+(m+1),none⟩) hl1).trans hc0;clear hc0
 go_wp2_with fail
 refine(lz32_any _ _ hD0 hD1).mono ?_;rintro e w2 ⟨s,rfl,hs1,hs2,hs3,rfl⟩;have HS2:=Lib.hid hs2;have HS3:=Lib.hid hs3;clear hs2 hs3 hc1
 go_wp2_with fail
 refine(shifted_any A (p+m+2) c s a _ (HA.out.below hb1) (by have:=HN.out;omega) hs1).mono ?_;rintro e w3 ⟨g1,us,rfl,hu,huv,hb2⟩;have hb13:=zk hb1 hb2;have HU:=Lib.hid hu;have HUV:=Lib.hid huv;clear hu huv
 go_wp2_with fail
 refine(shifted_any _ (m+2) c' s b _ (HB.out.below hb13) (by have:=HN.out;omega) hs1).mono ?_;rintro e w4 ⟨g2,vs,rfl,hv,hvv,hb3⟩;have hDt:D.toNat=b[m+1]?.getD 0:=by rw[HDe.out];exact Int.toNat_natCast _
 have HM:=Lib.hid (Dg.moved HB.out.len.symm HB.out.ok (by rw[<- hDt];exact HS2.out) (by rw[<- hDt];exact HS3.out) hv.2.1 hvv);have HV:=Lib.hid hv;have HVV:=Lib.hid hvv;clear hv hvv hDt
 go_wp2_with fail
 refine(zK _ _ _ vs _ HV.out.dig HL.out (Nat.le_refl _)).mono ?_;rintro e w5 ⟨rfl,rfl⟩;rw[HM.out.1];have hb14:=zk hb13 hb3
 go_wp2_with (at_make;refine wpList_make_full _ rfl _ _ 34 rfl w.heap.size 119 i0 _ 1 Tryz.underlying34 hi hz0 hz1 .i64 .i64 _ _ (p+1) rfl rfl (by omega) (by omega) (by rw[hz2];have:=HN.out;unfold LIM at this;omega) (by have:=HN.out;unfold LIM at this;unfold maxLen;omega) hb14.size ?_;intro w6 hown hgr)
 have hv4:=HV.out.base;have hu3:=HU.out.base;have hs14:=hb1.size;have hU6:=((HU.out.below hb3).grown0 hgr).rebase (base':=w.heap.size) hs14;have hQ6:=(OwnD.made hown);have hV6:=(HV.out.dig.trim).below (w':=w6) ⟨hgr.os,hgr.tape,hgr.output,hgr.size,fun k hk=>hgr.block k hk (by simp)⟩;rw[HM.out.1]at hV6;have hb16:Below w.heap.size w w6:=hb14.grown hgr hb14.size (by simp);have hgq:g1≠w4.heap.size:=by have:=hb3.size;omega
 have hgv:g2≠g1:=by omega
 have hgvq:g2≠w4.heap.size:=by omega
 have hwq:w.heap.size<=w4.heap.size:=hb14.size;have hw1:w.heap.size<=g1:=by omega
 have hmade:Dg.Made (Dg.val a*2^s) (Dg.val vs) (p+1) (List.replicate (p+1) 0) us:=by
  have:=Dg.made_start (a:=a) (us:=us) (qs:=List.replicate (p+1) 0) (n:=p+m+2) (m:=m) (s:=s) (V:=Dg.val vs) HA.out.len.symm HA.out.ok (by omega) (by have:=HU.out.1;omega) HUV.out (by have:=HM.out.2.2.2;exact this) (by simp;omega);rwa [show p+m+2+1-(m+2)=p+1 from by omega]at this
 have HU6:=Lib.hid hU6;have HQ6:=Lib.hid hQ6;have HV6:=Lib.hid hV6;have HMade:=Lib.hid hmade;clear hv4 hu3 hs14 hU6 hQ6 hV6 hmade hb1 hb2 hb3 hb13 hown hgr HC hD0 hD1 HS2 HS3 HDe
 go_loopw [14] (fun z wr=>∃(k:Nat) (us' qs:List Nat),k<=p+1/\z = .int .i64 ((k:Int)-1)/\OwnD wr w.heap.size g1 (p+m+2+1) us'/\OwnD wr w.heap.size w4.heap.size (p+1) qs/\Dig wr (some ⟨g2,0,none⟩) (m+2) (Dg.trim vs)/\Hid (Dg.Made (Dg.val a*2^s) (Dg.val vs) k qs us')/\Below w.heap.size w wr) (fun z _=>(intOf z+1).toNat)
 case atStart=>exact⟨p+1,us,_,by omega,by go_num,HU6.out,HQ6.out,HV6.out,HMade.out,hb16⟩
 case round =>
  obtain⟨k,us',qs,hk,rfl,hO,hQ,hVd,hMd,hbw⟩:=hrel;by_cases hkp:0<k
  ·obtain⟨j,rfl⟩:∃ j,k=j+1:=⟨k-1,by omega⟩;have hpre:=Dg.made_pre (m:=m) (k:=j) (by have:=hO.1;omega) hO.2.1 hMd.out HM.out.2.2.1;have HO:=Lib.hid hO;have HQ:=Lib.hid hQ;have HVd:=Lib.hid hVd;have HPre:=Lib.hid hpre;clear hO hQ hVd hpre;have hj0:(0:Int)<=(j:Int):=by omega
   have hjp:(j:Int)<=(p:Int):=by omega
   go_wp2_with fail
   rw[show j+(m+2)+1-j=m+3 from by omega];refine(digit_any w.heap.size g1 j (p+m+2+1) _ (some ⟨g2,0,none⟩) m (m+2+1) us' (Dg.trim vs) wr HO.out HVd.out (by omega) HN.out (by intro b' o' hbo;injection hbo with hbo;injection hbo with hb1 hb2;omega) HM.out.2.1 (by rw[Dg.val_trim];exact HPre.out.1)).mono ?_;rintro e w7 ⟨us2,qd,rfl,hu2,ht2,hd2,hq2,hr2,hg2⟩;rw[Dg.val_trim]at hq2 hr2;have hV0:0<Dg.val vs:=by
    rw[HVV.out];exact Nat.mul_pos H0.out (Nat.pow_pos (by omega))
   have hstep:=Dg.made_step (m:=m) (k:=j) (q:=qd) (qs:=qs) (by have:=HO.out.1;omega) (by have:=HQ.out.1;omega) (by have:=hu2.1;have:=HO.out.1;omega) hMd.out hV0 ht2 (by rw[show j+(m+3)=j+m+3 from by omega];exact hd2) HPre.out.2 hq2 hr2;have hqB:qd<Dg.B:=by
    rw[hq2];exact Nat.div_lt_of_lt_mul HPre.out.1
   have HQ7:=HQ.out.other hg2 (Ne.symm hgq);have hoc:=HQ7.cell (i:=j) (by omega);have hof:=HQ7.frozen j;have HQ8:=Lib.hid (HQ7.set_ j qd hqB);have hgst:=(HQ7.2.2.stored j (.int .u32 qd)).2;have HU8:=Lib.hid (hu2.other (w':=w7.setCell ⟨w4.heap.size,j,none⟩ (.int .u32 qd)) hgst hgq);have HV8:=Lib.hid ((HVd.out.grown hg2 (by intro b' o' hbo;injection hbo with hbo;injection hbo with hb1 hb2;omega)).grown (w':=w7.setCell ⟨w4.heap.size,j,none⟩ (.int .u32 qd)) hgst (by intro b' o' hbo;injection hbo with hbo;injection hbo with hb1 hb2;omega));have hb7:Below w.heap.size w w7:=hbw.grown hg2 hbw.size (fun k hk=>by injection hk with hk;omega);have hb8:Below w.heap.size w (w7.setCell ⟨w4.heap.size,j,none⟩ (.int .u32 qd)):=hb7.setCell hwq _;have HStep:=Lib.hid hstep;clear hu2 ht2 hd2 hq2 hr2 hg2 hstep HQ7 hgst hqB hV0
   go_wp2_with fail
   go_roundw
   case rel=>exact⟨j,us2,_,by omega,by go_num,HU8.out,HQ8.out,HV8.out,HStep.out,hb8⟩
   case measure=>simp[intOf] <;> omega
  ·obtain rfl:k=0:=by omega
   have hend:=Dg.made_end HVV.out hMd.out;have HEnd:=Lib.hid hend;have HO:=Lib.hid hO;have HQ:=Lib.hid hQ;have hus:Dg.val (us'.take (m+2))=Dg.val us':=by
    apply Dg.val_take_of_lt;have:=hMd.out.2;rw[List.drop_zero]at this;exact Nat.lt_trans this HM.out.2.2.1
   have HUs:=Lib.hid hus;clear hO hQ hVd hus hend;have hP1:p+1<=maxLen:=by have:=HN.out;unfold LIM at this;unfold maxLen;omega
   have hM2:m+2<=maxLen:=by have:=HL.out;omega
   have HP1:=Lib.hid hP1;have HM2:=Lib.hid hM2;have hM3:m+2<=LIM:=by have:=HN.out;omega
   have HM3:=Lib.hid hM3;have HT:=Lib.hid (HO.out.dig.take (k:=m+2) (by omega));have hi0:(0:Int)<=(m:Int)+2:=by omega
   have hi1:(m:Int)+2<=(p:Int)+(m:Int)+2+1:=by omega
   clear hP1 hM2 hM3
   go_wp2_with fail
   go_region_held3 (fun _=>True) (trivial) (first | (go_at_call 140;refine(zK _ _ _ o3 _ HD3.out HM2.out (Nat.le_refl _)).mono ?_;rintro e w8 ⟨rfl,rfl⟩) | (go_at_call 140;refine(zK _ _ _ qs _ HQ.out.dig.drew HP1.out (Nat.le_refl _)).mono ?_;rintro e w8 ⟨rfl,rfl⟩) | (go_at_call 184;refine(unshifted_any _ _ _ s (us'.take (m+2)) _ HT.out.drew HM3.out hs1).mono ?_;rintro e w9 ⟨g3,o3,rfl,hd3,hv3,hb3⟩;have HD3:=Lib.hid hd3;have HV3:=Lib.hid hv3;clear hd3 hv3))
   go_wp2
   go_ret2
   have hbb:=zk hbw.drew hb3;refine⟨_,_,rfl,?_,?_,hbb⟩
   ·refine IsDig.tight (L:=p+1) ⟨_,_,_,Dg.trim qs,rfl,(HQ.out.dig.drew.trim).below hb3,?_,?_,Dg.trim_trimmed qs,by rw[Dg.val_trim];exact HEnd.out.1⟩ ?_
    ·have:=zf qs;have:=HQ.out.1;omega
    ·have:=zf qs;have:=HQ.out.1;omega
    ·refine Nat.lt_of_le_of_lt (Nat.div_le_self _ _) ?_;have:=Dg.val_lt HA.out.ok;rwa [<- HA.out.len]at this
   ·refine⟨_,_,_,Dg.trim o3,rfl,HD3.out.trim,?_,?_,Dg.trim_trimmed o3,?_⟩
    ·have:=zf o3;have:=HD3.out.len;omega
    ·have:=zf o3;have:=HD3.out.len;omega
    ·rw[Dg.val_trim,HV3.out,HUs.out];exact HEnd.out.2
theorem divide_any (A A' : Option Addr) (n c n' c' : Nat) (a b : List Nat) (w : World) (ha : Dig w A n a) (hb : Dig w A' n' b) (ta : Dg.trimmed a) (tb : Dg.trimmed b) (hn : n + 1 ≤ LIM) (hn' : n' ≤ LIM) (h0 : 0 < Dg.val b) :
  Calls Tryz.prog 173 #[.slice A n c,.slice A' n' c'] w (DivPost (Dg.val a) (Dg.val b) n n' w):=by
 rcases Nat.lt_or_ge (Dg.val a) (Dg.val b)with hlt | hlt
 ·exact divide_less A A' n c n' c' a b w ha hb ta tb (by omega) hn' hlt
 ·rcases Nat.lt_or_ge 2 n with h2 | h2
  ·match n',hb with
   | 0,hb =>
    obtain rfl:b=[]:=List.length_eq_zero_iff.1 hb.len.symm;exact absurd h0 (by simp[Dg.val])
   | 1,hb=>exact divide_short A A' n c c' a b w ha hb ta tb h2 (by omega) hlt h0
   | m+2,hb =>
    have hle:m+2<=n:=by
     have h1:=Dg.val_lt ha.ok;rw[<- ha.len]at h1;have:=Dg.length_le_of_val tb (Nat.lt_of_le_of_lt hlt h1);rw[hb.len];exact this
    obtain⟨p,rfl⟩:∃ p,n=p+m+2:=⟨n-m-2,by omega⟩;exact divide_long A A' p m c c' a b w ha hb ta tb h2 (by omega) hlt h0
  ·exact divide_word A A' n c n' c' a b w ha hb ta tb h2 hn' hlt h0
end Go.Proofs.YtkmbnldginonbaaGreat
