/- Abstract values: what a value reads as in memory, in words that no step of a function which leaves old memory alone can turn. -/
import Derived.WalkKit
import Derived.Laws.OwnMore
import Derived.Lib.Hide
import Derived.ChangeKeysEq
namespace Go.Proofs.YtkmbnldginonbaaGreat
open Go.RowKit
inductive Cell where
 | any
 | bool (b:Bool)
 | int (k:IntKind) (n:Int)
 | nil
 | row (sz n:Nat) (f:Nat->Nat->Cell)
 | p (k u sz i o:Nat)
 | gs (k u:Nat)
 | sl (k u sz o n:Nat)
 | xp (m:Nat) (f:Nat->Cell)
 | fn (F:FuncId)
 | cl (F:FuncId) (m:Nat) (f:Nat->Cell)
 | str (s:ByteArray)
structure Loc where
 u:Nat
 b:Option Nat
 n:Nat
 c:Nat
def Loc.v (l:Loc):Value := .slice (l.b.map fun b=>⟨b,0,none⟩) l.n l.c
def CRel (D : Nat → Prop) (w : World) : List Loc → Cell → Value → Prop
 | _,.any,_=>True
 | _,.bool b,v=>v = .bool b
 | _,.int k n,v=>v = .int k n
 | _,.nil,v=>v = .slice none 0 0
 | _,.row sz n f,v=>∃ A c,v = .slice A n c/\n<=c/\(0<n->∃ b o,A=some ⟨b,o,none⟩/\b<w.heap.size/\¬ D b /\
   ∀ i j,i<n->j<sz->∃ u,w.cell? ⟨b,o+(i*sz+j),none⟩=some u/\CRel D w [] (f i j) u)
 | ρ,.p k u sz i o,v=>∃ l,ρ[k]? = some l/\u<=l.u/\(l.u=u->i<l.n/\∃ b,l.b=some b/\v = .pointer (some ⟨b,i*sz+o,none⟩))
 | ρ,.gs k u,v=>∃ l,ρ[k]? = some l/\u<=l.u/\(l.u=u->v=l.v)
 | ρ,.sl k u sz o n,v=>∃ l,ρ[k]? = some l/\u<=l.u/\(l.u=u->o+n<=l.n/\∃ A c,v = .slice A n c/\n<=c/\(0<n->∃ b,l.b=some b/\A=some ⟨b,o*sz,none⟩))
 | _,.xp m f,v=>∃ b o,v = .pointer (some ⟨b,o,none⟩)/\b<w.heap.size/\¬ D b/\∀ j,j<m->∃ u,w.cell? ⟨b,o+j,none⟩=some u/\CRel D w [] (f j) u
 | _,.fn F,v=>v = .func (.func F) #[] #[]
 | _,.str s,v=>v = .string s
 | ρ,.cl F m f,v=>∃ caps:Array Value,v = .func (.func F) #[] caps/\caps.size=m/\∀ j,j<m->∃ u,caps[j]? = some u/\CRel D w ρ (f j) u
def CRels (D : Nat → Prop) (w : World) (ρ : List Loc) : List Cell → List Value → Prop
 | [],[]=>True
 | c :: cs,v :: vs=>CRel D w ρ c v/\CRels D w ρ cs vs
 | _,_=>False
inductive V where
 | c (x:Cell)
 | g (l:List Cell)
 | t2 (a b:V)
 | t3 (a b d:V)
 | t4 (a b d e:V)
 | un
def VRel (D : Nat → Prop) (w : World) (ρ : List Loc) : V → Value → Prop
 | .c x,v=>CRel D w ρ x v
 | .g l,v=>∃ vs:Array Value,v = .agg vs/\CRels D w ρ l vs.toList
 | .t2 a b,v=>∃ x y,v = .tuple #[x,y]/\VRel D w ρ a x/\VRel D w ρ b y
 | .t3 a b d,v=>∃ x y z,v = .tuple #[x,y,z]/\VRel D w ρ a x/\VRel D w ρ b y/\VRel D w ρ d z
 | .t4 a b d e,v=>∃ x y z u,v = .tuple #[x,y,z,u]/\VRel D w ρ a x/\VRel D w ρ b y/\VRel D w ρ d z/\VRel D w ρ e u
 | .un,v=>v=undef
structure Ext (D : Nat → Prop) (w w' : World) : Prop where
 size:w.heap.size<=w'.heap.size
 block:∀ b,b<w.heap.size->¬ D b->w'.heap[b]? = w.heap[b]?
theorem Ext.cell {D:Nat->Prop} {w w':World} (h:Ext D w w') {b o:Nat} (hb:b<w.heap.size) (hd:¬ D b):w'.cell? ⟨b,o,none⟩=w.cell? ⟨b,o,none⟩:=by
 simp[World.cell?,h.block b hb hd]
theorem Ext.refl (D:Nat->Prop) (w:World):Ext D w w:=⟨Nat.le_refl _,fun _ _ _=>rfl⟩
theorem Ext.of_below {D:Nat->Prop} {w w':World} (h:Below w.heap.size w w'):Ext D w w':=⟨h.size,fun b hb _=>h.block b hb⟩
def LocsLe (ρ ρ':List Loc):Prop:=∀(k:Nat) (l:Loc),ρ[k]? = some l->∃ l':Loc,ρ'[k]? = some l'/\(l'.u=l.u->l'=l)/\l.u<=l'.u
theorem CRel.step {D D' : Nat → Prop} {w w' : World} (he : Ext D w w') (hd : ∀ b, b < w.heap.size → D' b → D b) :
  ∀ {c:Cell} {ρ ρ':List Loc} {v:Value},LocsLe ρ ρ'->CRel D w ρ c v->CRel D' w' ρ' c v
 | .any,_,_,_,_,_=>trivial
 | .bool _,_,_,_,_,h=>h
 | .int _ _,_,_,_,_,h=>h
 | .nil,_,_,_,_,h=>h
 | .fn _,_,_,_,_,h=>h
 | .str _,_,_,_,_,h=>h
 | .cl F m f,_,_,_,hρ,h=>by
  obtain⟨caps,rfl,h1,h2⟩:=h;refine⟨caps,rfl,h1,fun j hj=>?_⟩;obtain⟨u,hu,hr⟩:=h2 j hj;exact⟨u,hu,CRel.step he hd hρ hr⟩
 | .row sz n f,_,_,_,_,h=>by
  obtain⟨A,c,rfl,h1,h3⟩:=h;refine⟨A,c,rfl,h1,fun hn=>?_⟩;obtain⟨b,o,hA,hb,hD,hc⟩:=h3 hn;refine⟨b,o,hA,Nat.lt_of_lt_of_le hb he.size,fun x=>hD (hd b hb x),fun i j hi hj=>?_⟩;obtain⟨u,hu,hr⟩:=hc i j hi hj;exact⟨u,(he.cell hb hD).trans hu,CRel.step he hd (fun k l hk=>by simp at hk) hr⟩
 | .xp m f,_,_,_,_,h=>by
  obtain⟨b,o,rfl,hb,hD,hc⟩:=h;refine⟨b,o,rfl,Nat.lt_of_lt_of_le hb he.size,fun x=>hD (hd b hb x),fun j hj=>?_⟩;obtain⟨u,hu,hr⟩:=hc j hj;exact⟨u,(he.cell hb hD).trans hu,CRel.step he hd (fun k l hk=>by simp at hk) hr⟩
 | .p k u sz i o,_,_,_,hρ,h=>by
  obtain⟨l,hl,h0,h1⟩:=h;obtain⟨l',hl',h2,h3⟩:=hρ k l hl;refine⟨l',hl',by omega,fun e=>?_⟩;rw[h2 (by omega)];exact h1 (by omega)
 | .gs k u,_,_,_,hρ,h=>by
  obtain⟨l,hl,h0,h1⟩:=h;obtain⟨l',hl',h2,h3⟩:=hρ k l hl;refine⟨l',hl',by omega,fun e=>?_⟩;rw[h2 (by omega)];exact h1 (by omega)
 | .sl k u sz o n,_,_,_,hρ,h=>by
  obtain⟨l,hl,h0,h1⟩:=h;obtain⟨l',hl',h2,h3⟩:=hρ k l hl;refine⟨l',hl',by omega,fun e=>?_⟩;rw[h2 (by omega)];exact h1 (by omega)
theorem LocsLe.refl (ρ:List Loc):LocsLe ρ ρ:=fun _ l h=>⟨l,h,fun _=>rfl,Nat.le_refl _⟩
theorem LocsLe.trans {a b c:List Loc} (h:LocsLe a b) (k:LocsLe b c):LocsLe a c:=fun i l hl=>by
 obtain⟨l1,h1,h2,h3⟩:=h i l hl;obtain⟨l2,h4,h5,h6⟩:=k i l1 h1;refine⟨l2,h4,fun e=>?_,Nat.le_trans h3 h6⟩;have e1:=h2 (by omega);rw[h5 (by omega),e1]
theorem LocsLe.take {a b:List Loc} {m:Nat} (h:LocsLe a b) (hm:a.length<=m):LocsLe a (b.take m):=fun i l hl=>by
 obtain⟨l1,h1,h2⟩:=h i l hl;exact⟨l1,by rw[List.getElem?_take_of_lt (Nat.lt_of_lt_of_le (List.getElem?_eq_some_iff.1 hl).1 hm)];exact h1,h2⟩
theorem LocsLe.append (ρ:List Loc) (l:Loc):LocsLe ρ (ρ++[l]):=fun k l' h=>⟨l',by
 rw[List.getElem?_append_left (List.getElem?_eq_some_iff.1 h).1];exact h,fun _=>rfl,Nat.le_refl _⟩
theorem CRels.step {D D' : Nat → Prop} {w w' : World} {ρ ρ' : List Loc} (he : Ext D w w') (hd : ∀ b, b < w.heap.size → D' b → D b) (hρ : LocsLe ρ ρ') :
  ∀ {l:List Cell} {vs:List Value},CRels D w ρ l vs->CRels D' w' ρ' l vs
 | [],[],_=>trivial
 | _ :: _,_ :: _,h=>⟨h.1.step he hd hρ,CRels.step he hd hρ h.2⟩
 | [],_ :: _,h=>h.elim
 | _ :: _,[],h=>h.elim
theorem VRel.step {D D' : Nat → Prop} {w w' : World} {ρ ρ' : List Loc} (he : Ext D w w') (hd : ∀ b, b < w.heap.size → D' b → D b) (hρ : LocsLe ρ ρ') :
  ∀ {x:V} {v:Value},VRel D w ρ x v->VRel D' w' ρ' x v
 | .c _,_,h=>CRel.step he hd hρ h
 | .g _,_,h=>by obtain⟨vs,h1,h2⟩:=h;exact⟨vs,h1,h2.step he hd hρ⟩
 | .t2 _ _,_,h=>by obtain⟨x,y,h1,h2,h3⟩:=h;exact⟨x,y,h1,h2.step he hd hρ,h3.step he hd hρ⟩
 | .t3 _ _ _,_,h=>by obtain⟨x,y,z,h1,h2,h3,h4⟩:=h;exact⟨x,y,z,h1,h2.step he hd hρ,h3.step he hd hρ,h4.step he hd hρ⟩
 | .t4 _ _ _ _,_,h=>by obtain⟨x,y,z,u,h1,h2,h3,h4,h5⟩:=h;exact⟨x,y,z,u,h1,h2.step he hd hρ,h3.step he hd hρ,h4.step he hd hρ,h5.step he hd hρ⟩
 | .un,_,h=>h
theorem CRels.length {D : Nat → Prop} {w : World} {ρ : List Loc} : ∀ {l : List Cell} {vs : List Value}, CRels D w ρ l vs → l.length = vs.length
 | [],[],_=>rfl
 | _ :: _,_ :: _,h=>by simp[CRels.length h.2]
 | [],_ :: _,h=>h.elim
 | _ :: _,[],h=>h.elim
theorem CRels.get {D : Nat → Prop} {w : World} {ρ : List Loc} : ∀ {l : List Cell} {vs : List Value}, CRels D w ρ l vs → ∀ (j : Nat) x, l[j]? = some x → ∃ v, vs[j]? = some v ∧ CRel D w ρ x v
 | [],[],_,_,_,hj=>by simp at hj
 | _ :: _,v :: _,h,0,x,hj=>by simp at hj;subst hj;exact⟨v,rfl,h.1⟩
 | _ :: _,_ :: _,h,j+1,x,hj=>by simp at hj ⊢;exact CRels.get h.2 j x hj
 | [],_ :: _,h,_,_,_=>h.elim
 | _ :: _,[],h,_,_,_=>h.elim
theorem CRels.of {D : Nat → Prop} {w : World} {ρ : List Loc} : ∀ (l : List Cell) (vs : List Value), l.length = vs.length → (∀ (j : Nat) x v, l[j]? = some x → vs[j]? = some v → CRel D w ρ x v) → CRels D w ρ l vs
 | [],[],_,_=>trivial
 | x :: l,v :: vs,hl,h=>⟨h 0 x v rfl rfl,CRels.of l vs (by simpa using hl) fun j y u h1 h2=>h (j+1) y u (by simpa using h1) (by simpa using h2)⟩
 | [],_ :: _,hl,_=>by simp at hl
 | _ :: _,[],hl,_=>by simp at hl
def wg : Value → Cell
 | .bool b => .bool b
 | .int k n => .int k n
 | .slice none 0 0 => .nil
 | .string s => .str s
 | _ => .any
theorem VW (D:Nat->Prop) (w:World) (ρ:List Loc) (v:Value):CRel D w ρ (wg v) v:=by
 unfold wg;split <;> first | rfl | trivial
def Cell.clos : Cell → Bool
 | .p .. | .gs .. | .sl .. => false
 | .cl _ m f=>(List.range m).all fun j=>(f j).clos
 | _=>true
theorem CRel.clos {D : Nat → Prop} {w : World} {ρ ρ' : List Loc} : ∀ {c : Cell} {v : Value} (_ : CRel D w ρ c v) (_ : c.clos = true), CRel D w ρ' c v
 | .any,_,_,_=>trivial
 | .bool _,_,h,_=>h
 | .int _ _,_,h,_=>h
 | .nil,_,h,_=>h
 | .fn _,_,h,_=>h
 | .str _,_,h,_=>h
 | .row ..,_,h,_=>h
 | .xp ..,_,h,_=>h
 | .cl F m f,_,h,hc=>by
  obtain⟨caps,rfl,h1,h2⟩:=h;simp only[Cell.clos,List.all_eq_true,List.mem_range]at hc;refine⟨caps,rfl,h1,fun j hj=>?_⟩;obtain⟨u,hu,hr⟩:=h2 j hj;exact⟨u,hu,CRel.clos hr (hc j hj)⟩
 | .p ..,_,_,hc=>by simp[Cell.clos]at hc
 | .gs ..,_,_,hc=>by simp[Cell.clos]at hc
 | .sl ..,_,_,hc=>by simp[Cell.clos]at hc
def Cell.noU : Cell → Bool
 | .any=>false
 | .int .u32 _=>false
 | _=>true
end Go.Proofs.YtkmbnldginonbaaGreat
/- Abstract states: the frame and the blocks of a call's own, and how they evolve. -/
namespace Go.Proofs.YtkmbnldginonbaaGreat
open Go.RowKit
structure Blk where
 t:TypeId
 sz:Nat
 n:Nat
 u:Nat
 st:Nat
 f:Nat->Nat->Cell
structure St where
 tm:Nat->V
 bl:List Blk
structure Base where
 w:World
 M:Nat->Prop
abbrev Base.heap (b:Base):Array Obj:=b.w.heap
def Base.mine (b:Base) (x:Nat):Prop:=b.heap.size<=x∨b.M x
structure BelowM (b : Base) (w : World) : Prop where
 os:w.os=b.w.os
 tape:w.tape=b.w.tape
 output:w.output=b.w.output
 size:b.heap.size<=w.heap.size
 block:∀ k,k<b.heap.size->¬ b.M k->w.heap[k]? = b.heap[k]?
theorem BelowM.trans {b:Base} {w w':World} (h:BelowM b w) (k:Below w.heap.size w w'):BelowM b w' :=
 ⟨k.os.trans h.os,k.tape.trans h.tape,k.output.trans h.output,Nat.le_trans h.size k.size,fun i hi hm=>(k.block i (Nat.lt_of_lt_of_le hi h.size)).trans (h.block i hi hm)⟩
theorem BelowM.alloc {b:Base} {w:World} (h:BelowM b w) (o:Obj):BelowM b (w.alloc o) :=
 h.trans ((Below.refl w.heap.size w).alloc (Nat.le_refl _) o)
structure Ctx where
 D0:Nat->Prop
 w0:Base
 r:Bool
 N:Nat
 ρ0:List Loc
def Dof (D0:Nat->Prop) (ρ:List Loc) (bl:List Blk) (b:Nat):Prop:=D0 b∨∃(k:Nat) (l:Loc) (B:Blk),ρ[k]? = some l/\bl[k]? = some B/\B.st=0/\l.b=some b
def BRel (D:Nat->Prop) (w:World) (B0:Base) (ρ:List Loc) (l:Loc) (B:Blk):Prop :=
 B.st<=1->l.u=B.u/\((B.n=0/\l.b=none/\l.v = .slice none 0 0)∨∃(b cap:Nat) (cs:Array Value),l.b=some b/\B0.mine b/\l.v = .slice (some ⟨b,0,none⟩) B.n cap /\
  w.heap[b]? = some (.cells cs B.t (0,0))/\cs.size=cap*B.sz/\B.n<=cap/\cap<=maxLen /\
  ∀ i j,i<B.n->j<B.sz->∃ u,cs[i*B.sz+j]? = some u/\CRel D w (if B.st=0 then ρ else []) (B.f i j) u)
structure Sat (D0 : Nat → Prop) (w0 : Base) (r : Bool) (ρ : List Loc) (bl : List Blk) (w : World) : Prop where
 below:BelowM w0 w
 d0:∀ b,D0 b->b<w0.heap.size/\¬ w0.M b
 len:ρ.length=bl.length
 at_:∀(k:Nat) (l:Loc) (B:Blk),ρ[k]? = some l->bl[k]? = some B->BRel (Dof D0 ρ bl) w w0 ρ l B
 dist:∀(i j:Nat) (li lj:Loc) (Bi Bj:Blk) (b:Nat),ρ[i]? = some li->ρ[j]? = some lj->bl[i]? = some Bi->bl[j]? = some Bj->Bi.st<=1->Bj.st<=1->li.b=some b->lj.b=some b->i=j
 noU:r=true->∀(b o:Nat) (d:Int),Dof D0 ρ bl b->w.cell? ⟨b,o,none⟩≠some (.int .u32 d)
theorem vk {i j n sz m:Nat} (hi:i<n) (hj:j<sz) (hm:n<=m):i*sz+j<m*sz:=by
 have h1:(i+1)*sz<=m*sz:=Nat.mul_le_mul_right _ (by omega);rw[Nat.succ_mul]at h1;omega
theorem yB {w:World} {b:Nat} {o:Obj} (h:w.heap[b]? = some o):b<w.heap.size:=(Array.getElem?_eq_some_iff.1 h).1
theorem Sat.lt {D0:Nat->Prop} {w0:Base} {w:World} {r:Bool} {ρ:List Loc} {bl:List Blk} (h:Sat D0 w0 r ρ bl w) {b:Nat} (hb:Dof D0 ρ bl b):b<w.heap.size:=by
 rcases hb with hb | ⟨k,l,B,h1,h2,h3,h4⟩
 ·exact Nat.lt_of_lt_of_le (h.d0 b hb).1 h.below.size
 ·rcases(h.at_ k l B h1 h2 (by omega)).2 with⟨_,h5,_⟩ | ⟨b',cap,cs,h5,_,_,h6,_⟩
  ·rw[h5]at h4;cases h4
  ·rw[h5]at h4;cases h4;exact yB h6
theorem Sat.own {D0:Nat->Prop} {w0:Base} {w:World} {r:Bool} {ρ:List Loc} {bl:List Blk} (h:Sat D0 w0 r ρ bl w) {k:Nat} {l:Loc} {B:Blk} (h1:ρ[k]? = some l) (h2:bl[k]? = some B) (h3:B.st<=1) {b:Nat} (h4:l.b=some b):w0.mine b:=by
 rcases(h.at_ k l B h1 h2 h3).2 with⟨_,h5,_⟩ | ⟨b',cap,cs,h5,h6,_⟩
 ·rw[h5]at h4;cases h4
 ·rw[h5]at h4;cases h4;exact h6
theorem BRel.step {D D':Nat->Prop} {w w':World} {B0:Base} {ρ ρ':List Loc} {l:Loc} {B:Blk} (he:Ext D w w') (hd:∀ b,b<w.heap.size->D' b->D b) (hρ:LocsLe ρ ρ') (hb:∀ b,l.b=some b->w'.heap[b]? = w.heap[b]?) (h:BRel D w B0 ρ l B):BRel D' w' B0 ρ' l B:=by
 intro hst;obtain⟨h0,h1⟩:=h hst;refine⟨h0,?_⟩;rcases h1 with h1 | ⟨b,cap,cs,e1,e2,e3,e4,e5,e6,e7,e8⟩
 ·exact .inl h1
 ·refine .inr ⟨b,cap,cs,e1,e2,e3,(hb b e1).trans e4,e5,e6,e7,fun i j hi hj=>?_⟩;obtain⟨u,hu,hr⟩:=e8 i j hi hj;refine⟨u,hu,?_⟩;by_cases hz:B.st=0
  ·rw[if_pos hz]at hr ⊢;exact hr.step he hd hρ
  ·rw[if_neg hz]at hr ⊢;exact hr.step he hd (LocsLe.refl _)
theorem Sat.ext {D0 : Nat → Prop} {w0 : Base} {w w' : World} {r : Bool} {ρ : List Loc} {bl : List Blk} (h : Sat D0 w0 r ρ bl w) (hb : Below w.heap.size w w') : Sat D0 w0 r ρ bl w' where
 below:=h.below.trans hb
 d0:=h.d0
 len:=h.len
 at_ k l B h1 h2:=by
  intro hst;exact(h.at_ k l B h1 h2).step (Ext.of_below hb) (fun _ _ x=>x) (LocsLe.refl _) (fun b e=>hb.block b (by
   rcases(h.at_ k l B h1 h2 hst).2 with⟨_,h5,_⟩ | ⟨b',cap,cs,h5,_,_,h6,_⟩
   ·rw[h5]at e;cases e
   ·rw[h5]at e;cases e;exact yB h6)) hst
 dist:=h.dist
 noU hr b o d hD:=by
  rw[(Ext.of_below (D:=fun _=>False) hb).cell (h.lt hD) (fun x=>x)];exact h.noU hr b o d hD
theorem Sat.alloc {D0 : Nat → Prop} {w0 : Base} {w : World} {r : Bool} {ρ : List Loc} {bl : List Blk} (h : Sat D0 w0 r ρ bl w) {cs : Array Value} {t sz n cap : Nat} {f : Nat → Nat → Cell} (hs : cs.size = cap * sz) (hn : n ≤ cap) (hc : cap ≤ maxLen)
  (hf:∀ i j,i<n->j<sz->∃ u,cs[i*sz+j]? = some u/\CRel (Dof D0 ρ bl) w ρ (f i j) u) (hU:r=true->∀(i:Nat) (d:Int),cs[i]? ≠ some (.int .u32 d)) :
  Sat D0 w0 r (ρ++[⟨0,some w.heap.size,n,cap⟩]) (bl++[⟨t,sz,n,0,0,f⟩]) (w.alloc (.cells cs t)) /\
  (∀ b,b<w.heap.size->Dof D0 (ρ++[⟨0,some w.heap.size,n,cap⟩]) (bl++[⟨t,sz,n,0,0,f⟩]) b->Dof D0 ρ bl b):=by
 have hD:∀ b,b<w.heap.size->Dof D0 (ρ++[⟨0,some w.heap.size,n,cap⟩]) (bl++[⟨t,sz,n,0,0,f⟩]) b->Dof D0 ρ bl b:=by
  intro b hb hx;rcases hx with hx | ⟨k,l,B,h1,h2,h3,h4⟩
  ·exact .inl hx
  ·rcases Nat.lt_or_ge k ρ.length with hk | hk
   ·rw[List.getElem?_append_left hk]at h1;rw[List.getElem?_append_left (by rw[<- h.len];exact hk)]at h2;exact .inr ⟨k,l,B,h1,h2,h3,h4⟩
   ·rw[List.getElem?_append_right hk]at h1;rcases Nat.eq_zero_or_pos (k-ρ.length)with e | e
    ·rw[e]at h1;simp at h1;subst h1;simp at h4;omega
    ·rw[List.getElem?_eq_none (by simp;omega)]at h1;cases h1
 have hE:Ext (Dof D0 ρ bl) w (w.alloc (.cells cs t)):=⟨by simp,fun b hb _=>Below.heap_alloc w _ b hb⟩;refine⟨⟨h.below.alloc _,h.d0,by simp[h.len],?_,?_,?_⟩,hD⟩
 ·intro k l B h1 h2;rcases Nat.lt_or_ge k ρ.length with hk | hk
  ·rw[List.getElem?_append_left hk]at h1;rw[List.getElem?_append_left (by rw[<- h.len];exact hk)]at h2;intro hst;refine(h.at_ k l B h1 h2).step hE hD (LocsLe.append _ _) (fun b e=>Below.heap_alloc w _ b ?_) hst;rcases(h.at_ k l B h1 h2 hst).2 with⟨_,h5,_⟩ | ⟨b',cap',cs',h5,_,_,h6,_⟩
   ·rw[h5]at e;cases e
   ·rw[h5]at e;cases e;exact yB h6
  ·rw[List.getElem?_append_right hk]at h1;rw[List.getElem?_append_right (by rw[<- h.len];exact hk),<- h.len]at h2;rcases Nat.eq_zero_or_pos (k-ρ.length)with e | e
   ·rw[e]at h1 h2;simp at h1 h2;subst h1;subst h2;intro _;refine⟨rfl,.inr ⟨_,cap,cs,rfl,.inl h.below.size,rfl,heap_alloc_new w _,hs,hn,hc,fun i j hi hj=>?_⟩⟩;obtain⟨u,hu,hr⟩:=hf i j hi hj;exact⟨u,hu,by simp only[if_true];exact hr.step hE hD (LocsLe.append _ _)⟩
   ·rw[List.getElem?_eq_none (by simp;omega)]at h1;cases h1
 ·intro i j li lj Bi Bj b h1 h2 h3 h4 h5 h6 h7 h8;have old:∀(k:Nat) (l:Loc) (B:Blk),ρ[k]? = some l->bl[k]? = some B->B.st<=1->l.b=some b->b<w.heap.size:=by
   intro k l B e1 e2 e3 e4;rcases(h.at_ k l B e1 e2 e3).2 with⟨_,h5,_⟩ | ⟨b',cap',cs',h5,_,_,h6,_⟩
   ·rw[h5]at e4;cases e4
   ·rw[h5]at e4;cases e4;exact yB h6
  rcases Nat.lt_or_ge i ρ.length with hi | hi <;> rcases Nat.lt_or_ge j ρ.length with hj | hj
  ·rw[List.getElem?_append_left hi]at h1;rw[List.getElem?_append_left hj]at h2;rw[List.getElem?_append_left (by rw[<- h.len];exact hi)]at h3;rw[List.getElem?_append_left (by rw[<- h.len];exact hj)]at h4;exact h.dist i j li lj Bi Bj b h1 h2 h3 h4 h5 h6 h7 h8
  ·rw[List.getElem?_append_left hi]at h1;rw[List.getElem?_append_left (by rw[<- h.len];exact hi)]at h3;have:=old i li Bi h1 h3 h5 h7;rw[List.getElem?_append_right hj]at h2;rcases Nat.eq_zero_or_pos (j-ρ.length)with e | e
   ·rw[e]at h2;simp at h2;subst h2;simp at h8;omega
   ·rw[List.getElem?_eq_none (by simp;omega)]at h2;cases h2
  ·rw[List.getElem?_append_left hj]at h2;rw[List.getElem?_append_left (by rw[<- h.len];exact hj)]at h4;have:=old j lj Bj h2 h4 h6 h8;rw[List.getElem?_append_right hi]at h1;rcases Nat.eq_zero_or_pos (i-ρ.length)with e | e
   ·rw[e]at h1;simp at h1;subst h1;simp at h7;omega
   ·rw[List.getElem?_eq_none (by simp;omega)]at h1;cases h1
  ·have e1:i<(ρ++[(⟨0,some w.heap.size,n,cap⟩:Loc)]).length:=(List.getElem?_eq_some_iff.1 h1).1;have e2:j<(ρ++[(⟨0,some w.heap.size,n,cap⟩:Loc)]).length:=(List.getElem?_eq_some_iff.1 h2).1;simp at e1 e2;omega
 ·intro hr b o d hb;rcases Nat.lt_or_ge b w.heap.size with hlt | hge
  ·simp only[World.cell?,Below.heap_alloc w _ b hlt];exact h.noU hr b o d (hD b hlt hb)
  ·by_cases e:b=w.heap.size
   ·subst e;simp only[World.cell?,heap_alloc_new w _];simp only[Option.isSome_none,Bool.false_eq_true,if_false];exact hU hr o d
   ·simp only[World.cell?,Array.getElem?_eq_none (show(w.alloc (.cells cs t)).heap.size<=b by simp;omega)];simp
theorem Sat.update {D0 : Nat → Prop} {w0 : Base} {w w' : World} {r : Bool} {ρ : List Loc} {bl : List Blk} (h : Sat D0 w0 r ρ bl w) {k b : Nat} {l : Loc} {B : Blk} {cs cs' : Array Value} {f' : Nat → Nat → Cell} (h1 : ρ[k]? = some l) (h2 : bl[k]? = some B) (h3 : B.st = 0) (h4 : l.b = some b)
  (hc:w.heap[b]? = some (.cells cs B.t (0,0))) (hc':w'.heap[b]? = some (.cells cs' B.t (0,0))) (hsz:cs'.size=cs.size) (ho:∀ x,x≠b->w'.heap[x]? = w.heap[x]?) (hw:w'.heap.size=w.heap.size) (hos:w'.os=w.os) (htp:w'.tape=w.tape) (hout:w'.output=w.output)
  (hf:∀ i j,i<B.n->j<B.sz->∃ u,cs'[i*B.sz+j]? = some u/\CRel (Dof D0 ρ bl) w ρ (f' i j) u) (hU:r=true->∀(i:Nat) (d:Int),cs'[i]? ≠ some (.int .u32 d)) :
  Sat D0 w0 r ρ (bl.set k { B with f:=f' }) w'/\(∀ x,Dof D0 ρ (bl.set k { B with f:=f' }) x↔Dof D0 ρ bl x)/\Ext (Dof D0 ρ bl) w w':=by
 have hkl:k<bl.length:=(List.getElem?_eq_some_iff.1 h2).1;have hb0:w0.mine b:=h.own h1 h2 (by omega) h4;have hDb:Dof D0 ρ bl b := .inr ⟨k,l,B,h1,h2,h3,h4⟩;have hD:∀ x,Dof D0 ρ (bl.set k { B with f:=f' }) x↔Dof D0 ρ bl x:=by
  intro x;constructor
  ·rintro (hx | ⟨k',l',B',e1,e2,e3,e4⟩)
   ·exact .inl hx
   ·by_cases e:k'=k
    ·subst e;rw[h1]at e1;cases e1;exact .inr ⟨k',l,B,h1,h2,h3,e4⟩
    ·rw[List.getElem?_set_ne (fun h=>e h.symm)]at e2;exact .inr ⟨k',l',B',e1,e2,e3,e4⟩
  ·rintro (hx | ⟨k',l',B',e1,e2,e3,e4⟩)
   ·exact .inl hx
   ·by_cases e:k'=k
    ·subst e;exact .inr ⟨k',l',{ B with f:=f' },e1,by rw[List.getElem?_set_self hkl],h3,e4⟩
    ·exact .inr ⟨k',l',B',e1,by rw[List.getElem?_set_ne (fun h=>e h.symm)];exact e2,e3,e4⟩
 have hE:Ext (Dof D0 ρ bl) w w':=⟨by omega,fun x _ hx=>ho x (fun e=>hx (e ▸ hDb))⟩;refine⟨⟨?_,h.d0,by simp[h.len],?_,?_,?_⟩,hD,hE⟩
 ·exact⟨hos.trans h.below.os,htp.trans h.below.tape,hout.trans h.below.output,by rw[hw];exact h.below.size,fun x hx hm=>(ho x fun e=>by
   subst e;rcases hb0 with h1 | h1
   ·omega
   ·exact hm h1).trans (h.below.block x hx hm)⟩
 ·intro k' l' B' e1 e2;by_cases e:k'=k
  ·subst e;rw[List.getElem?_set_self hkl]at e2;cases e2;rw[h1]at e1;cases e1;intro _;obtain⟨g0,g1⟩:=h.at_ k' l B h1 h2 (by omega);refine⟨g0,?_⟩;rcases g1 with⟨_,g2,_⟩ | ⟨b',cap,cs0,g2,g3,g4,g5,g6,g7,g8,_⟩
   ·rw[g2]at h4;cases h4
   ·rw[g2]at h4;cases h4;rw[hc]at g5;cases g5;refine .inr ⟨b,cap,cs',g2,g3,g4,hc',hsz.trans g6,g7,g8,fun i j hi hj=>?_⟩;obtain⟨u,hu,hr⟩:=hf i j hi hj;exact⟨u,hu,by rw[if_pos h3];exact hr.step hE (fun x _ hx=>(hD x).1 hx) (LocsLe.refl _)⟩
  ·rw[List.getElem?_set_ne (fun h=>e h.symm)]at e2;intro hst;refine(h.at_ k' l' B' e1 e2).step hE (fun x _ hx=>(hD x).1 hx) (LocsLe.refl _) (fun x hx=>ho x (fun ex=>?_)) hst;subst ex;exact e (h.dist k' k l' l B' B x e1 h1 e2 h2 hst (by omega) hx h4)
 ·intro i j li lj Bi Bj x e1 e2 e3 e4 e5 e6 e7 e8;have old:∀(m:Nat) (Bm:Blk),(bl.set k { B with f:=f' })[m]? = some Bm->Bm.st<=1->∃ Bm',bl[m]? = some Bm'/\Bm'.st<=1:=by
   intro m Bm g1 g2;by_cases e:m=k
   ·subst e;exact⟨B,h2,by omega⟩
   ·rw[List.getElem?_set_ne (fun h=>e h.symm)]at g1;exact⟨Bm,g1,g2⟩
  obtain⟨Bi',g1,g2⟩:=old i Bi e3 e5;obtain⟨Bj',g3,g4⟩:=old j Bj e4 e6;exact h.dist i j li lj Bi' Bj' x e1 e2 g1 g3 g2 g4 e7 e8
 ·intro hr x o d hx;by_cases e:x=b
  ·subst e;simp only[World.cell?,hc',Option.isSome_none,Bool.false_eq_true,if_false];exact hU hr o d
  ·simp only[World.cell?,ho x e];exact h.noU hr x o d ((hD x).1 hx)
theorem Sat.freeze {D0 : Nat → Prop} {w0 : Base} {w : World} {r : Bool} {ρ : List Loc} {bl : List Blk} (h : Sat D0 w0 r ρ bl w) {k : Nat} {B : Blk} (h2 : bl[k]? = some B) (h3 : B.st = 0) (hcl : ∀ i j, i < B.n → j < B.sz → (B.f i j).clos = true) :
  Sat D0 w0 r ρ (bl.set k { B with st:=1 }) w/\(∀ x,Dof D0 ρ (bl.set k { B with st:=1 }) x->Dof D0 ρ bl x):=by
 have hkl:k<bl.length:=(List.getElem?_eq_some_iff.1 h2).1;have hD:∀ x,Dof D0 ρ (bl.set k { B with st:=1 }) x->Dof D0 ρ bl x:=by
  rintro x (hx | ⟨k',l',B',e1,e2,e3,e4⟩)
  ·exact .inl hx
  ·by_cases e:k'=k
   ·subst e;rw[List.getElem?_set_self hkl]at e2;cases e2;cases e3
   ·rw[List.getElem?_set_ne (fun h=>e h.symm)]at e2;exact .inr ⟨k',l',B',e1,e2,e3,e4⟩
 refine⟨⟨h.below,h.d0,by simp[h.len],?_,?_,fun hr x o d hx=>h.noU hr x o d (hD x hx)⟩,hD⟩
 ·intro k' l' B' e1 e2;by_cases e:k'=k
  ·subst e;rw[List.getElem?_set_self hkl]at e2;cases e2;intro _;obtain⟨g0,g1⟩:=h.at_ k' l' B e1 h2 (by omega);refine⟨g0,?_⟩;rcases g1 with g1 | ⟨b',cap,cs0,g2,g3,g4,g5,g6,g7,g8,g9⟩
   ·exact .inl g1
   ·refine .inr ⟨b',cap,cs0,g2,g3,g4,g5,g6,g7,g8,fun i j hi hj=>?_⟩;obtain⟨u,hu,hr⟩:=g9 i j hi hj;exact⟨u,hu,(CRel.clos (ρ':=[]) hr (hcl i j hi hj)).step (Ext.refl _ _) (fun x _ hx=>hD x hx) (LocsLe.refl _)⟩
  ·rw[List.getElem?_set_ne (fun h=>e h.symm)]at e2;exact(h.at_ k' l' B' e1 e2).step (Ext.refl _ _) (fun x _ hx=>hD x hx) (LocsLe.refl _) (fun _ _=>rfl)
 ·intro i j li lj Bi Bj x e1 e2 e3 e4 e5 e6 e7 e8;have old:∀(m:Nat) (Bm:Blk),(bl.set k { B with st:=1 })[m]? = some Bm->Bm.st<=1->∃ Bm',bl[m]? = some Bm'/\Bm'.st<=1:=by
   intro m Bm g1 g2;by_cases e:m=k
   ·subst e;exact⟨B,h2,by omega⟩
   ·rw[List.getElem?_set_ne (fun h=>e h.symm)]at g1;exact⟨Bm,g1,g2⟩
  obtain⟨Bi',g1,g2⟩:=old i Bi e3 e5;obtain⟨Bj',g3,g4⟩:=old j Bj e4 e6;exact h.dist i j li lj Bi' Bj' x e1 e2 g1 g3 g2 g4 e7 e8
def Cell.lt (m : Nat) : Cell → Bool
 | .p k .. | .gs k _ | .sl k .. => k<m
 | .cl _ n f=>(List.range n).all fun j=>(f j).lt m
 | _=>true
theorem CRel.take {D : Nat → Prop} {w : World} {ρ : List Loc} {m : Nat} : ∀ {c : Cell} {v : Value} (_ : CRel D w ρ c v) (_ : c.lt m = true), CRel D w (ρ.take m) c v
 | .any,_,_,_=>trivial
 | .bool _,_,h,_=>h
 | .int _ _,_,h,_=>h
 | .nil,_,h,_=>h
 | .fn _,_,h,_=>h
 | .str _,_,h,_=>h
 | .row ..,_,h,_=>h
 | .xp ..,_,h,_=>h
 | .cl F n f,_,h,hc=>by
  obtain⟨caps,rfl,h1,h2⟩:=h;simp only[Cell.lt,List.all_eq_true,List.mem_range]at hc;refine⟨caps,rfl,h1,fun j hj=>?_⟩;obtain⟨u,hu,hr⟩:=h2 j hj;exact⟨u,hu,CRel.take hr (hc j hj)⟩
 | .p k u sz i o,_,h,hc=>by
  simp[Cell.lt]at hc;obtain⟨l,hl,h1⟩:=h;exact⟨l,by rw[List.getElem?_take_of_lt hc];exact hl,h1⟩
 | .gs k u,_,h,hc=>by
  simp[Cell.lt]at hc;obtain⟨l,hl,h1⟩:=h;exact⟨l,by rw[List.getElem?_take_of_lt hc];exact hl,h1⟩
 | .sl k u sz o n,_,h,hc=>by
  simp[Cell.lt]at hc;obtain⟨l,hl,h1⟩:=h;exact⟨l,by rw[List.getElem?_take_of_lt hc];exact hl,h1⟩
theorem Sat.take {D0 : Nat → Prop} {w0 : Base} {w : World} {r : Bool} {ρ : List Loc} {bl : List Blk} (h : Sat D0 w0 r ρ bl w) (m : Nat) (hcl : ∀ (k : Nat) (B : Blk), k < m → bl[k]? = some B → B.st = 0 → ∀ i j, i < B.n → j < B.sz → (B.f i j).lt m = true) :
  Sat D0 w0 r (ρ.take m) (bl.take m) w/\(∀ x,Dof D0 (ρ.take m) (bl.take m) x->Dof D0 ρ bl x):=by
 have g:∀ {α:Type} (L:List α) (k:Nat) (x:α),(L.take m)[k]? = some x->k<m/\L[k]? = some x:=by
  intro α L k x hx;rw[List.getElem?_take]at hx;split at hx
  ·exact⟨by assumption,hx⟩
  ·cases hx
 have hD:∀ x,Dof D0 (ρ.take m) (bl.take m) x->Dof D0 ρ bl x:=by
  rintro x (hx | ⟨k',l',B',e1,e2,e3,e4⟩)
  ·exact .inl hx
  ·exact .inr ⟨k',l',B',(g _ _ _ e1).2,(g _ _ _ e2).2,e3,e4⟩
 refine⟨⟨h.below,h.d0,by simp[h.len],?_,?_,fun hr x o d hx=>h.noU hr x o d (hD x hx)⟩,hD⟩
 ·intro k l B e1 e2 hst;obtain⟨hk,e1⟩:=g _ _ _ e1;obtain⟨_,e2⟩:=g _ _ _ e2;obtain⟨g0,g1⟩:=(h.at_ k l B e1 e2).step (Ext.refl _ _) (fun x _ hx=>hD x hx) (LocsLe.refl _) (fun _ _=>rfl) hst;refine⟨g0,?_⟩;rcases g1 with g1 | ⟨b',cap,cs0,g2,g3,g4,g5,g6,g7,g8,g9⟩
  ·exact .inl g1
  ·refine .inr ⟨b',cap,cs0,g2,g3,g4,g5,g6,g7,g8,fun i j hi hj=>?_⟩;obtain⟨u,hu,hr⟩:=g9 i j hi hj;refine⟨u,hu,?_⟩;by_cases hz:B.st=0
   ·rw[if_pos hz]at hr ⊢;exact hr.take (hcl k B hk e2 hz i j hi hj)
   ·rw[if_neg hz]at hr ⊢;exact hr
 ·intro i j li lj Bi Bj x e1 e2 e3 e4;exact h.dist i j li lj Bi Bj x (g _ _ _ e1).2 (g _ _ _ e2).2 (g _ _ _ e3).2 (g _ _ _ e4).2
end Go.Proofs.YtkmbnldginonbaaGreat
/- Abstract operations that leave the call's own blocks alone: what each yields, and that it does. -/
namespace Go.Proofs.YtkmbnldginonbaaGreat
open Go.RowKit
structure TI where
 agg:Bool
 size:Nat
 zero:List Cell
 bytes:Nat
 offs:List (Option (Nat × Nat))
 elem:Option TypeId
 ik:Option IntKind
 kd:Nat
def plainT (P:Program) (T:TypeId):Bool:=match P.underlying T with
 | some (.struct _) | some (.array _ _) | none=>false
 | some _=>true
def tiOf (P : Program) (d : TypeDesc) (i : TypeInfo) (zv : Value) : TI where
 agg:=match d with
  | .struct _ | .array _ _=>true
  | _=>false
 size:=i.size
 zero:=zv.cells.toList.map wg
 bytes:=i.bytes
 offs:=match d with
  | .struct fs=>fs.toList.map fun f=>if P.cellsOf f.type=0 then none else some (f.offset,P.cellsOf f.type)
  | _=>[]
 elem:=match d with
  | .slice e=>some e
  | _=>none
 ik:=match d with
  | .int k=>some k
  | _=>none
 kd:=match d with
  | .bool=>1
  | .string=>2
  | .struct fs=>if fs.toList.all (fun f=>plainT P f.type)then 3 else 0
  | _=>0
def yf (P:Program) (T:TypeId):Option TI :=
 match P.underlying T,P.info? T with
 | some d,some i=>match i.zero with
  | some zv=>some (tiOf P d i zv)
  | none=>none
 | _,_=>none
theorem xj {P:Program} {T:TypeId} {ti:TI} (h:yf P T=some ti):∃ d i zv,P.underlying T=some d/\P.info? T=some i/\i.zero=some zv/\ti=tiOf P d i zv:=by
 unfold yf at h;split at h
 ·rename_i d i hd hi;split at h
  ·rename_i zv hz;cases h;exact⟨d,i,zv,hd,hi,hz,rfl⟩
  ·cases h
 ·cases h
def wrF (f:FuncId):Bool:=[155,100,113].contains f||[].contains f
def frF (f:FuncId):Bool:=[151,61,48].contains f
def fzF (f:FuncId) (args:Array Operand):Bool:=[57].contains f&&match args.toList with
 | [.tmp a,.tmp b]=>a == 25&&b == 35
 | _=>false
def frS (f:FuncId):Bool:=[111].contains f
structure Env where
 P:Program
 r:Bool
 ty:TypeId->Option TI
 m0:Nat:=0
structure EnvOK (E : Env) : Prop where
 ty:∀ T ti,E.ty T=some ti->yf E.P T=some ti
def chk (b:Bool) (p:Prop):Prop:=match b with
 | true=>p
 | false=>False
theorem zp {b:Bool} {p:Prop}:chk b p↔b=true/\p:=by cases b <;> simp[chk]
def cs (b:Bool) (p q:Prop):Prop:=match b with
 | true=>p
 | false=>q
theorem cs_iff {b:Bool} {p q:Prop}:cs b p q↔(b=true->p)/\(b=false->q):=by cases b <;> simp[cs]
theorem qg {b:Bool} {p q:Prop} (h1:b=true->p) (h2:b=false->q):cs b p q:=cs_iff.2 ⟨h1,h2⟩
theorem xG {b:Bool} {p q:Prop} (h:b=true) (hp:p):cs b p q:=by subst h;exact hp
theorem jj {b:Bool} {p q:Prop} (h:b=false) (hq:q):cs b p q:=by subst h;exact hq
def gw (want b:Bool):Bool:=match want with
 | true=>b
 | false=>!b
theorem xK {want b:Bool}:gw want b=true↔b=want:=by cases want <;> cases b <;> simp[gw]
theorem jv {want b:Bool}:gw want b=false↔b=!want:=by cases want <;> cases b <;> simp[gw]
theorem gwf {b:Bool} (h:gw false b=true):b=false:=xK.1 h
theorem gwf' {b:Bool} (h:gw false b=false):b=true:=jv.1 h
theorem run_agg {P:Program} {T:TypeId} {ti:TI} (h:yf P T=some ti) (w:World):(isAgg T).run P w = .ok ti.agg w:=by
 obtain⟨d,i,zv,hd,hi,hz,rfl⟩:=xj h;simp only[isAgg,Sem.run_bind,run_underlying hd,Result.andThen,tiOf];cases d <;> rfl
theorem v8 {P:Program} {T:TypeId} {ti:TI} (h:yf P T=some ti) (w:World):(sizeOf T).run P w = .ok ti.size w:=by
 obtain⟨d,i,zv,hd,hi,hz,rfl⟩:=xj h;simp[sizeOf,typeInfo,hi,tiOf]
theorem run_zero {P:Program} {T:TypeId} {ti:TI} (h:yf P T=some ti) (w:World):∃ zv:Value,(zeroValue T).run P w = .ok zv w/\ti.zero=zv.cells.toList.map wg:=by
 obtain⟨d,i,zv,hd,hi,hz,rfl⟩:=xj h;exact⟨zv,by simp[zeroValue,typeInfo,hi,hz],rfl⟩
theorem z9 {P:Program} {T e:TypeId} {ti:TI} (h:yf P T=some ti) (he:ti.elem=some e):P.underlying T=some (.slice e):=by
 obtain⟨d,i,zv,hd,hi,hz,rfl⟩:=xj h;simp only[tiOf]at he;cases d <;> simp at he
 subst he;exact hd
theorem under_ik {P:Program} {T:TypeId} {k:IntKind} {ti:TI} (h:yf P T=some ti) (he:ti.ik=some k):P.underlying T=some (.int k):=by
 obtain⟨d,i,zv,hd,hi,hz,rfl⟩:=xj h;simp only[tiOf]at he;cases d <;> simp at he
 subst he;exact hd
theorem under_kd1 {P:Program} {T:TypeId} {ti:TI} (h:yf P T=some ti) (he:ti.kd=1):P.underlying T=some .bool:=by
 obtain⟨d,i,zv,hd,hi,hz,rfl⟩:=xj h;simp only[tiOf]at he;cases d <;> first
  |exact hd
  |(simp at he;done)
  |(simp at he;split at he <;> omega)
theorem under_kd2 {P:Program} {T:TypeId} {ti:TI} (h:yf P T=some ti) (he:ti.kd=2):P.underlying T=some .string:=by
 obtain⟨d,i,zv,hd,hi,hz,rfl⟩:=xj h;simp only[tiOf]at he;cases d <;> first
  |exact hd
  |(simp at he;done)
  |(simp at he;split at he <;> omega)
theorem under_kd3 {P:Program} {T:TypeId} {ti:TI} (h:yf P T=some ti) (he:ti.kd=3) {fld off fsz:Nat} (ho:ti.offs[fld]? = some (some (off,fsz))):∃ fs f,P.underlying T=some (.struct fs)/\fs[fld]? = some f/\f.offset=off/\plainT P f.type=true:=by
 obtain⟨d,i,zv,hd,hi,hz,rfl⟩:=xj h;cases d <;> simp[tiOf]at he ho
 rename_i fs;obtain⟨f,hf,_,e,_⟩:=ho;obtain⟨h1,h2⟩:=Array.getElem?_eq_some_iff.1 hf;refine⟨fs,f,hd,hf,e,?_⟩;rw[<- h2];exact he fld h1
theorem run_plain {P:Program} {T:TypeId} (h:plainT P T=true) (w:World):(isAgg T).run P w = .ok false w:=by
 unfold plainT at h;cases hu:P.underlying T with
 | none=>rw[hu]at h;cases h
 | some d =>
  rw[hu]at h;simp only[isAgg,Sem.run_bind,run_underlying hu,Result.andThen];cases d <;> first
   |rfl
   |cases h
theorem vP (b o n:Nat):(⟨b,o,none⟩:Addr).add n=⟨b,o+n,none⟩:=by
 unfold Addr.add;split
 ·rename_i h;subst h;rfl
 ·rfl
theorem run_field {P : Program} {T : TypeId} {ti : TI} (h : yf P T = some ti) {fld off fsz : Nat} (ho : ti.offs[fld]? = some (some (off, fsz))) (w : World) (b o : Nat) :
  (Instr.fieldAt T (.pointer (some ⟨b,o,none⟩)) fld).run P w = .ok (.pointer (some ⟨b,o+off,none⟩)) w:=by
 obtain⟨d,i,zv,hd,hi,hz,rfl⟩:=xj h;simp only[tiOf]at ho;cases d <;> simp at ho
 rename_i fs;obtain⟨f,hf,h1,h2⟩:=ho;have hs:(sizeOf f.type).run P w = .ok (P.cellsOf f.type) w:=by
  cases hI:P.info? f.type with
  | none=>simp[Program.cellsOf,hI]at h1
  | some i'=>simp[sizeOf,typeInfo,Program.cellsOf,hI]
 simp[Instr.fieldAt,run_underlying hd,hf,Instr.sureAddr,fieldPlace,hs,h1,vP,h2.1]
def valOf (agg:Bool) (vs:List Value):Value:=if agg then .agg vs.toArray else vs.headD undef
theorem run_loadAt {P : Program} {T : TypeId} {ti : TI} (h : yf P T = some ti) (h1 : ti.agg = true ∨ ti.size = 1) {w : World} {b o : Nat} {vs : List Value} (hl : vs.length = ti.size) (hc : ∀ (j : Nat) v, vs[j]? = some v → w.cell? ⟨b, o + j, none⟩ = some v) :
  (Instr.loadAt T (.pointer (some ⟨b,o,none⟩))).run P w = .ok (valOf ti.agg vs) w:=by
 have hv:(loadVar T ⟨b,o,none⟩).run P w = .ok (valOf ti.agg vs) w:=by
  cases ha:ti.agg with
  | true =>
   have hx:=run_loadCells_list (P:=P) w ⟨b,o,none⟩ vs (fun j v hj=>by rw[vP];exact hc j v hj);rw[hl]at hx;simp[loadVar,run_agg h,ha,v8 h,hx,valOf,Result.andThen]
  | false =>
   have hs:ti.size=1:=by simpa [ha] using h1
   rw[hs]at hl;obtain⟨v,rfl⟩:=List.length_eq_one_iff.1 hl;have:=hc 0 v rfl;simp only[Nat.add_zero]at this;simp[loadVar,run_agg h,ha,valOf,this,Result.andThen]
 simp[Instr.loadAt,Instr.sureAddr,hv]
def gF (agg:Bool) (l:List Cell):V :=
 match agg,l with
 | true,l => .g l
 | false,[x] => .c x
 | false,_ => .c .any
theorem ofCells_rel {D:Nat->Prop} {w:World} {ρ:List Loc} {l:List Cell} {vs:List Value} (agg:Bool) (h:CRels D w ρ l vs):VRel D w ρ (gF agg l) (valOf agg vs):=by
 cases agg with
 | true=>exact⟨vs.toArray,rfl,h⟩
 | false =>
  cases l with
  | nil=>trivial
  | cons x t =>
   cases t with
   | nil =>
    cases vs with
    | nil=>exact h.elim
    | cons v r=>exact h.1
   | cons y r=>trivial
def St.ev (σ : St) : Operand → V
 | .tmp t=>σ.tm t
 | .const v => .c (wg v)
 | .func f => .c (.fn f)
 | .global _ => .c .any
theorem kX {D:Nat->Prop} {w:World} {ρ:List Loc} {σ:St} {a:Act} (h:∀ t,VRel D w ρ (σ.tm t) (a.tmps.getD t undef)) (x:Operand):VRel D w ρ (σ.ev x) (a.eval x):=by
 cases x with
 | tmp t=>exact h t
 | const v=>exact VW _ _ _ v
 | func f=>rfl
 | global g=>trivial
def inR : IntKind → Int → Prop
 | .i64,n => -9223372036854775808<=n/\n<9223372036854775808
 | .u64,n=>0<=n/\n<18446744073709551616
 | .u32,n=>0<=n/\n<4294967296
 | k,n=>k.wrap n=n
theorem inR_wrap {k:IntKind} {n:Int} (h:inR k n):k.wrap n=n:=by
 cases k <;> first
  |exact h
  |(simp only[inR]at h;simp[IntKind.wrap,IntKind.bits,IntKind.signed];omega)
def arB (k:IntKind) (n:Int) (K:V->Prop):Prop:=match k with
 | .u64 | .u32 | .u16 | .u8=>K (.c (.int k (k.wrap n)))
 | _=>inR k n/\K (.c (.int k n))
theorem arB_wrap {k:IntKind} {n:Int} {K:V->Prop} (h:arB k n K):K (.c (.int k (k.wrap n))):=by
 unfold arB at h;split at h
 ·exact h
 ·exact h
 ·exact h
 ·exact h
 ·rw[inR_wrap h.1];exact h.2
def intBin (op:BinOp) (k:IntKind) (a b:Int) (K:V->Prop):Prop :=
 match op with
 | .add=>arB k (a+b) K
 | .sub=>arB k (a-b) K
 | .mul=>arB k (a*b) K
 | .quo=>b≠0/\inR k (a.tdiv b)/\K (.c (.int k (a.tdiv b)))
 | .rem=>b≠0/\K (.c (.int k (a.tmod b)))
 | .eql=>K (.c (.bool (decide (a=b))))
 | .neq=>K (.c (.bool (!decide (a=b))))
 | .lss=>K (.c (.bool (decide (a<b))))
 | .leq=>K (.c (.bool (decide (a<=b))))
 | .gtr=>K (.c (.bool (decide (b<a))))
 | .geq=>K (.c (.bool (decide (b<=a))))
 | .shl=>0<=b/\K (.c (.int k (k.wrap (a*2^min b.toNat k.bits))))
 | .shr=>0<=b/\K (.c (.int k (a.fdiv (2^min b.toNat k.bits))))
 | .and=>K (.c (.int k (k.wrap (BitVec.ofInt k.bits a &&& BitVec.ofInt k.bits b).toNat)))
 | .or=>K (.c (.int k (k.wrap (BitVec.ofInt k.bits a ||| BitVec.ofInt k.bits b).toNat)))
 | .xor=>K (.c (.int k (k.wrap (BitVec.ofInt k.bits a ^^^ BitVec.ofInt k.bits b).toNat)))
 | _=>False
def shiftB : BinOp → Bool
 | .shl | .shr=>true
 | _=>false
theorem intBin_sound {P : Program} {op : BinOp} {k k' : IntKind} (hk : (decide (k = k') || shiftB op) = true) {a b : Int} {K : V → Prop} (h : intBin op k a b K) (T : TypeId) (x y : Operand) (w : World) :
  ∃ c:Cell,K (.c c)/\∃ v:Value,(∀ D ρ,CRel D w ρ c v)/\(∀ w D ρ,CRel D w ρ c v)/\∀ w,(do eqGuard op T x y (.int k a) (.int k' b);binOp op T (.int k a) (.int k' b):Sem Value).run P w = .ok v w:=by
 have hs:shiftB op=false->k=k':=fun e=>by rw[e,Bool.or_false]at hk;exact of_decide_eq_true hk
 cases op <;> simp only[intBin]at h <;> first | (obtain rfl:=hs rfl) | skip
 case add=>exact⟨_,arB_wrap h,.int k (k.wrap (a+b)),fun _ _=>rfl,fun _ _ _=>rfl,fun w=>by simp[eqGuard,binOp,Op.intArith]⟩
 case sub=>exact⟨_,arB_wrap h,.int k (k.wrap (a-b)),fun _ _=>rfl,fun _ _ _=>rfl,fun w=>by simp[eqGuard,binOp,Op.intArith]⟩
 case mul=>exact⟨_,arB_wrap h,.int k (k.wrap (a*b)),fun _ _=>rfl,fun _ _ _=>rfl,fun w=>by simp[eqGuard,binOp,Op.intArith]⟩
 case quo=>exact⟨_,h.2.2,.int k (a.tdiv b),fun _ _=>rfl,fun _ _ _=>rfl,fun w=>by simp[eqGuard,binOp,Op.intDiv,h.1,inR_wrap h.2.1]⟩
 case rem=>exact⟨_,h.2,.int k (a.tmod b),fun _ _=>rfl,fun _ _ _=>rfl,fun w=>by simp[eqGuard,binOp,Op.intDiv,h.1]⟩
 case eql=>exact⟨_,h,.bool (decide (a=b)),fun _ _=>rfl,fun _ _ _=>rfl,fun w=>by simp[eqGuard,binOp,Op.intCmp];rfl⟩
 case neq=>exact⟨_,h,.bool (!decide (a=b)),fun _ _=>rfl,fun _ _ _=>rfl,fun w=>by simp[eqGuard,binOp,Op.intCmp];rfl⟩
 case lss=>exact⟨_,h,.bool (decide (a<b)),fun _ _=>rfl,fun _ _ _=>rfl,fun w=>by simp[eqGuard,binOp,Op.intCmp]⟩
 case leq=>exact⟨_,h,.bool (decide (a<=b)),fun _ _=>rfl,fun _ _ _=>rfl,fun w=>by simp[eqGuard,binOp,Op.intCmp]⟩
 case gtr=>exact⟨_,h,.bool (decide (b<a)),fun _ _=>rfl,fun _ _ _=>rfl,fun w=>by simp[eqGuard,binOp,Op.intCmp]⟩
 case geq=>exact⟨_,h,.bool (decide (b<=a)),fun _ _=>rfl,fun _ _ _=>rfl,fun w=>by simp[eqGuard,binOp,Op.intCmp]⟩
 case shl =>
  obtain⟨h1,h4⟩:=h;exact⟨_,h4,.int k (k.wrap (a*2^min b.toNat k.bits)),fun _ _=>rfl,fun _ _ _=>rfl,fun w=>by simp[eqGuard,binOp,Op.shift,Int.not_lt.2 h1]⟩
 case shr =>
  obtain⟨h1,h4⟩:=h;exact⟨_,h4,.int k (a.fdiv (2^min b.toNat k.bits)),fun _ _=>rfl,fun _ _ _=>rfl,fun w=>by simp[eqGuard,binOp,Op.shift,Int.not_lt.2 h1]⟩
 case and=>exact⟨_,h,.int k (k.wrap (BitVec.ofInt k.bits a &&& BitVec.ofInt k.bits b).toNat),fun _ _=>rfl,fun _ _ _=>rfl,fun w=>by simp[eqGuard,binOp,Op.intBits]⟩
 case or=>exact⟨_,h,.int k (k.wrap (BitVec.ofInt k.bits a ||| BitVec.ofInt k.bits b).toNat),fun _ _=>rfl,fun _ _ _=>rfl,fun w=>by simp[eqGuard,binOp,Op.intBits]⟩
 case xor=>exact⟨_,h,.int k (k.wrap (BitVec.ofInt k.bits a ^^^ BitVec.ofInt k.bits b).toNat),fun _ _=>rfl,fun _ _ _=>rfl,fun w=>by simp[eqGuard,binOp,Op.intBits]⟩
end Go.Proofs.YtkmbnldginonbaaGreat
namespace Go.Proofs.YtkmbnldginonbaaGreat
open Go.RowKit
def VRels (D : Nat → Prop) (w : World) (ρ : List Loc) : List V → List Value → Prop
 | [],[]=>True
 | x :: xs,v :: vs=>VRel D w ρ x v/\VRels D w ρ xs vs
 | _,_=>False
def x8 (P:Program) (f:FuncId):Bool:=match P.funcs[f]? with
 | some fn => fn.body.isSome && !(fn.name == "runtime.NumGoroutine")
 | none=>false
def FnOK (P:Program) (r:Bool) (f:FuncId) (args:List V) (X:V):Prop :=
 x8 P f=true/\∀(D:Nat->Prop) (w:World) (vs:List Value),(∀ b,D b->b<w.heap.size)->(r=true->∀(b o:Nat) (d:Int),D b->w.cell? ⟨b,o,none⟩≠some (.int .u32 d))->VRels D w [] args vs ->
  Calls P f vs.toArray w fun e w'=>∃ v,e = .returned v/\VRel D w' [] X v/\Below w.heap.size w w'
theorem FnOK.weak {P:Program} {r:Bool} {f:FuncId} {args:List V} {X:V} (h:FnOK P false f args X):FnOK P r f args X :=
 ⟨h.1,fun D w vs h1 _ h3=>h.2 D w vs h1 (fun e=>by cases e) h3⟩
def V.clos : V → Bool
 | .c x=>x.clos
 | .g l=>l.all Cell.clos
 | _=>false
theorem CRels.clos {D : Nat → Prop} {w : World} {ρ ρ' : List Loc} : ∀ {l : List Cell} {vs : List Value}, CRels D w ρ l vs → l.all Cell.clos = true → CRels D w ρ' l vs
 | [],[],_,_=>trivial
 | _ :: _,_ :: _,h,hc=>by
  simp only[List.all_cons,Bool.and_eq_true]at hc;exact⟨h.1.clos hc.1,CRels.clos h.2 hc.2⟩
 | [],_ :: _,h,_=>h.elim
 | _ :: _,[],h,_=>h.elim
theorem VRel.clos {D:Nat->Prop} {w:World} {ρ ρ':List Loc} {x:V} {v:Value} (h:VRel D w ρ x v) (hc:x.clos=true):VRel D w ρ' x v:=by
 cases x with
 | c x=>exact CRel.clos h hc
 | g l=>obtain⟨vs,h1,h2⟩:=h;exact⟨vs,h1,h2.clos hc⟩
 | t2 a b=>simp[V.clos]at hc
 | t3 a b d=>simp[V.clos]at hc
 | t4 a b d e=>simp[V.clos]at hc
 | un=>simp[V.clos]at hc
def St.closeC (bl : List Blk) : Cell → Cell
 | .gs k u=>match bl[k]? with
  | some B=>if B.st == 1&&B.u == u then .row B.sz B.n B.f else .gs k u
  | none => .gs k u
 | .sl k u sz o n=>match bl[k]? with
  | some B=>if B.st == 1&&(B.u == u&&B.sz == sz)then .row sz n fun i j=>B.f (o+i) j else .sl k u sz o n
  | none => .sl k u sz o n
 | .p k u sz i o=>match bl[k]? with
  | some B=>if B.st == 1&&(B.u == u&&B.sz == sz)then .xp (sz-o) fun j=>B.f i (o+j)else .p k u sz i o
  | none => .p k u sz i o
 | .cl F n f => .cl F n fun j=>if j<n then St.closeC bl (f j)else .any
 | c=>c
def St.close (bl : List Blk) : V → V
 | .c x => .c (St.closeC bl x)
 | .g l => .g (l.map (St.closeC bl))
 | x=>x
theorem Sat.frozen {D0:Nat->Prop} {w0:Base} {w:World} {r:Bool} {ρ:List Loc} {bl:List Blk} (h:Sat D0 w0 r ρ bl w) {k:Nat} {l:Loc} {B:Blk} (h1:ρ[k]? = some l) (h2:bl[k]? = some B) (h3:B.st=1) {b:Nat} (h4:l.b=some b):¬ Dof D0 ρ bl b:=by
 rintro (hx | ⟨k',l',B',e1,e2,e3,e4⟩)
 ·have e1:=h.d0 b hx;rcases h.own h1 h2 (by omega) h4 with e2 | e2
  ·omega
  ·exact e1.2 e2
 ·have:=h.dist k k' l l' B B' b h1 e1 h2 e2 (by omega) (by omega) h4 e4;subst this;rw[h2]at e2;cases e2;omega
theorem loc_n {D0:Nat->Prop} {w0:Base} {w:World} {r:Bool} {ρ:List Loc} {bl:List Blk} (hs:Sat D0 w0 r ρ bl w) {k:Nat} {l:Loc} {B:Blk} (h1:ρ[k]? = some l) (h2:bl[k]? = some B) (h3:B.st<=1):l.n=B.n:=by
 rcases(hs.at_ k l B h1 h2 h3).2 with⟨g1,_,g3⟩ | ⟨b,cap,cs,_,_,g3,_⟩
 ·unfold Loc.v at g3;injection g3 with e1 e2 e3;omega
 ·unfold Loc.v at g3;injection g3 with e1 e2 e3
theorem v5 {D0 : Nat → Prop} {w0 : Base} {w : World} {r : Bool} {ρ : List Loc} {bl : List Blk} (h : Sat D0 w0 r ρ bl w) : ∀ {c : Cell} {v : Value} (_ : CRel (Dof D0 ρ bl) w ρ c v), CRel (Dof D0 ρ bl) w ρ (St.closeC bl c) v
 | .cl F n f,v,hc=>by
  obtain⟨caps,rfl,h1,h2⟩:=hc;refine⟨caps,rfl,h1,fun j hj=>?_⟩;obtain⟨u,hu,hr⟩:=h2 j hj;exact⟨u,hu,by show CRel _ _ _ (if j<n then St.closeC bl (f j)else .any) u;rw[if_pos hj];exact v5 h hr⟩
 | .p k u sz i o,v,hc=>by
  have hc0:=hc;obtain⟨l,hl,hu,hv⟩:=hc;simp only[St.closeC];split
  ·rename_i B hB;split
   ·rename_i hst;simp only[Bool.and_eq_true,beq_iff_eq]at hst;have hln:=loc_n h hl hB (by omega);obtain⟨g0,g1⟩:=h.at_ k l B hl hB (by omega);obtain⟨hi,b',e1,e2⟩:=hv (by omega);rcases g1 with⟨g1,g2,_⟩ | ⟨b,cap,cs,g1,g2,g3,g4,g5,g6,g7,g8⟩
    ·rw[g2]at e1;cases e1
    ·rw[g1]at e1;cases e1;refine⟨b',i*sz+o,e2,yB g4,h.frozen hl hB hst.1 g1,fun j hj=>?_⟩;obtain⟨x,hx,hr⟩:=g8 i (o+j) (by omega) (by omega);rw[if_neg (by omega)]at hr;refine⟨x,?_,hr⟩;simp only[World.cell?,g4];rw[show i*sz+o+j=i*B.sz+(o+j)by rw[hst.2.2];omega];simpa using hx
   ·exact hc0
  ·exact hc0
 | .gs k u,v,hc=>by
  obtain⟨l,hl,hu,hv⟩:=hc;simp only[St.closeC];split
  ·rename_i B hB;split
   ·rename_i hst;simp only[Bool.and_eq_true,beq_iff_eq]at hst;obtain⟨g0,g1⟩:=h.at_ k l B hl hB (by omega);have hv':=hv (by omega);rcases g1 with⟨g1,g2,g3⟩ | ⟨b,cap,cs,g1,g2,g3,g4,g5,g6,g7,g8⟩
    ·exact⟨none,0,by rw[hv',g3,g1],by omega,fun hn=>by omega⟩
    ·refine⟨_,cap,hv'.trans g3,g6,fun hn=>⟨b,0,rfl,yB g4,h.frozen hl hB hst.1 g1,fun i j hi hj=>?_⟩⟩;obtain⟨x,hx,hr⟩:=g8 i j hi hj;rw[if_neg (by omega)]at hr;exact⟨x,by simp only[World.cell?,g4,Nat.zero_add];simpa using hx,hr⟩
   ·exact⟨l,hl,hu,hv⟩
  ·exact⟨l,hl,hu,hv⟩
 | .sl k u sz o n,v,hc=>by
  obtain⟨l,hl,hu,hv⟩:=hc;simp only[St.closeC];split
  ·rename_i B hB;split
   ·rename_i hst;simp only[Bool.and_eq_true,beq_iff_eq]at hst;have hln:=loc_n h hl hB (by omega);obtain⟨g0,g1⟩:=h.at_ k l B hl hB (by omega);obtain⟨e0,A,c,e1,e2,e4⟩:=hv (by omega);refine⟨A,c,e1,e2,fun hn=>?_⟩;obtain⟨b,e5,e6⟩:=e4 hn;rcases g1 with⟨g1,g2,g3⟩ | ⟨b',cap,cs,g1,g2,g3,g4,g5,g6,g7,g8⟩
    ·omega
    ·rw[g1]at e5;cases e5;refine⟨b,o*sz,e6,yB g4,h.frozen hl hB hst.1 g1,fun i j hi hj=>?_⟩;obtain⟨x,hx,hr⟩:=g8 (o+i) j (by omega) (by omega);rw[if_neg (by omega)]at hr;refine⟨x,?_,hr⟩;simp only[World.cell?,g4];have:o*sz+(i*sz+j)=(o+i)*B.sz+j:=by rw[hst.2.2,Nat.add_mul];omega
     rw[this];simpa using hx
   ·exact⟨l,hl,hu,hv⟩
  ·exact⟨l,hl,hu,hv⟩
 | .any,_,hc=>hc
 | .bool _,_,hc=>hc
 | .int _ _,_,hc=>hc
 | .nil,_,hc=>hc
 | .fn _,_,hc=>hc
 | .str _,_,hc=>hc
 | .row ..,_,hc=>hc
 | .xp ..,_,hc=>hc
theorem gX {D0 : Nat → Prop} {w0 : Base} {w : World} {r : Bool} {ρ : List Loc} {bl : List Blk} (h : Sat D0 w0 r ρ bl w) : ∀ {l : List Cell} {vs : List Value}, CRels (Dof D0 ρ bl) w ρ l vs → CRels (Dof D0 ρ bl) w ρ (l.map (St.closeC bl)) vs
 | [],[],_=>trivial
 | _ :: _,_ :: _,hc=>⟨v5 h hc.1,gX h hc.2⟩
 | [],_ :: _,hc=>hc.elim
 | _ :: _,[],hc=>hc.elim
theorem wP {D0:Nat->Prop} {w0:Base} {w:World} {r:Bool} {ρ:List Loc} {bl:List Blk} (h:Sat D0 w0 r ρ bl w) {x:V} {v:Value} (hc:VRel (Dof D0 ρ bl) w ρ x v):VRel (Dof D0 ρ bl) w ρ (St.close bl x) v:=by
 cases x with
 | c x=>exact v5 h hc
 | g l=>obtain⟨vs,h1,h2⟩:=hc;exact⟨vs,h1,gX h h2⟩
 | _=>exact hc
def St.one (bl : List Blk) : Cell → Bool
 | .any=>false
 | .p k u .. | .gs k u | .sl k u .. => match bl[k]? with
  | some B=>B.u == u&&B.st.ble 1
  | none=>false
 | _=>true
theorem WV {D0:Nat->Prop} {w0:Base} {w:World} {r:Bool} {ρ:List Loc} {bl:List Blk} (h:Sat D0 w0 r ρ bl w) {D:Nat->Prop} {c:Cell} {v:Value} (h1:St.one bl c=true) (hc:CRel D w ρ c v):v.oneCell'=true/\v.cells=#[v]:=by
 cases c with
 | any=>simp[St.one]at h1
 | bool b=>cases hc;exact⟨rfl,rfl⟩
 | int k n=>cases hc;exact⟨rfl,rfl⟩
 | nil=>cases hc;exact⟨rfl,rfl⟩
 | fn F=>cases hc;exact⟨rfl,rfl⟩
 | str s=>cases hc;exact⟨rfl,rfl⟩
 | cl F m f=>obtain⟨caps,rfl,_⟩:=hc;exact⟨rfl,rfl⟩
 | row sz n f=>obtain⟨A,c,rfl,_⟩:=hc;exact⟨rfl,rfl⟩
 | xp m f=>obtain⟨b,o,rfl,_⟩:=hc;exact⟨rfl,rfl⟩
 | p k u sz i o =>
  obtain⟨l,hl,hu,hv⟩:=hc;simp only[St.one]at h1;split at h1
  ·rename_i B hB;simp at h1;obtain⟨g0,_⟩:=h.at_ k l B hl hB h1.2;obtain⟨_,b,_,rfl⟩:=hv (by omega);exact⟨rfl,rfl⟩
  ·cases h1
 | gs k u =>
  obtain⟨l,hl,hu,hv⟩:=hc;simp only[St.one]at h1;split at h1
  ·rename_i B hB;simp at h1;obtain⟨g0,_⟩:=h.at_ k l B hl hB h1.2;rw[hv (by omega)];exact⟨rfl,rfl⟩
  ·cases h1
 | sl k u sz o n =>
  obtain⟨l,hl,hu,hv⟩:=hc;simp only[St.one]at h1;split at h1
  ·rename_i B hB;simp at h1;obtain⟨g0,_⟩:=h.at_ k l B hl hB h1.2;obtain⟨_,A,c,rfl,_⟩:=hv (by omega);exact⟨rfl,rfl⟩
  ·cases h1
def k8 (bl : List Blk) (offs : List (Option (Nat × Nat))) (cs : List Cell) : List (Nat × V) → Option (List Cell)
 | []=>some cs
 | (i,x) :: rest=>match offs[i]? with
  | some (some (off,fsz))=>match x with
   | .c y=>if St.one bl y&&(fsz == 1&&(off+1).ble cs.length)then k8 bl offs (cs.take off++[y]++cs.drop (off+1)) rest else none
   | .g l=>if fsz == l.length&&(off+l.length).ble cs.length then k8 bl offs (cs.take off++l++cs.drop (off+l.length)) rest else none
   | _=>none
  | _=>none
def vv (bl : List Blk) : V → Option Nat
 | .c (.row _ n _)=>some n
 | .c .nil=>some 0
 | .c (.sl k u _ _ n)=>match bl[k]? with
  | some B=>if B.u == u&&B.st.ble 1 then some n else none
  | none=>none
 | .c (.gs k u)=>match bl[k]? with
  | some B=>if B.u == u&&B.st.ble 1 then some B.n else none
  | none=>none
 | _=>none
def strA : V → Option Nat
 | .c (.str s)=>some s.size
 | _=>none
def xZ : V → Nat → Option V
 | .t2 a _,0=>some a
 | .t2 _ b,1=>some b
 | .t3 a _ _,0=>some a
 | .t3 _ b _,1=>some b
 | .t3 _ _ d,2=>some d
 | .t4 a _ _ _,0=>some a
 | .t4 _ b _ _,1=>some b
 | .t4 _ _ d _,2=>some d
 | .t4 _ _ _ e,3=>some e
 | _,_=>none
def kg (σ : St) : Operand → Option FuncId
 | .func f=>some f
 | .tmp t=>match σ.tm t with
  | .c (.fn f)=>some f
  | _=>none
 | _=>none

def capsA (σ : St) : Operand → Option (FuncId × List Cell)
 | .tmp t=>match σ.tm t with
  | .c (.cl f n c)=>some (f,(List.range n).map c)
  | _=>none
 | _=>none
def szA (bl : List Blk) : V → Option Nat
 | .c (.row sz _ _)=>some sz
 | .c (.sl _ _ sz _ _)=>some sz
 | .c (.gs k _)=>(bl[k]?).map (·.sz)
 | _=>none
def sliceA (bl:List Blk) (x:V) (lo hi:Option V) (K:V->Prop):Prop :=
 match (match lo with | none=>some 0 | some (V.c (.int .i64 n))=>some n | _=>none),(match hi with | none=>(vv bl x).map Int.ofNat | some (V.c (.int .i64 n))=>some n | _=>none)with
 | some l,some h=>0<=l/\l<=h/\match x with
  | .c (.row sz n f)=>h<=n/\K (.c (.row sz (h-l).toNat fun i j=>f (l.toNat+i) j))
  | .c (.gs k u)=>match bl[k]? with
   | some B=>chk (B.u == u&&B.st.ble 1) (h<=B.n/\K (.c (.sl k u B.sz l.toNat (h-l).toNat)))
   | none=>False
  | .c (.sl k u sz o n)=>match bl[k]? with
   | some B=>chk (B.u == u&&B.st.ble 1) (h<=n/\K (.c (.sl k u sz (o+l.toNat) (h-l).toNat)))
   | none=>False
  | _=>False
 | _,_=>False
def boolBin (op:BinOp) (a b:Bool) (K:V->Prop):Prop:=match op with
 | .eql=>K (.c (.bool (a == b)))
 | .neq=>K (.c (.bool (!(a == b))))
 | _=>False
def nilBin (op:BinOp) (K:V->Prop):Prop:=match op with
 | .eql=>K (.c (.bool false))
 | .neq=>K (.c (.bool true))
 | _=>False
def capC (σ:St) (l:List Operand) (j:Nat):Cell:=match l[j]? with
 | some x=>match σ.ev x with
  | .c c=>c
  | _ => .any
 | none => .any
def dop (E:Env) (o:Oper) (σ:St) (K:V->Prop):Prop :=
 match o.op with
 | .move x | .assign x=>K (σ.ev x)
 | .pick c a b=>match σ.ev c with
  | .c (.bool t)=>cs t (K (σ.ev a)) (K (σ.ev b))
  | _=>False
 | .load T x=>match E.ty T with
  | some ti=>chk (ti.agg||ti.size == 1) (match σ.ev x with
   | .c (.p k u sz i o)=>match σ.bl[k]? with
    | some B=>chk (B.u == u&&(B.sz == sz&&(B.st.ble 1&&(o+ti.size).ble sz))) (K (gF ti.agg ((List.range ti.size).map fun j=>B.f i (o+j))))
    | none=>False
   | .c (.xp m f)=>chk (ti.size.ble m) (K (gF ti.agg ((List.range ti.size).map f)))
   | _=>False)
  | none=>False
 | .fieldAddr T x fld=>match E.ty T with
  | some ti=>match ti.offs[fld]? with
   | some (some (off,_))=>match σ.ev x with
    | .c (.p k u sz i o)=>match σ.bl[k]? with
     | some B=>chk (B.u == u&&B.st.ble 1) (K (.c (.p k u sz i (o+off))))
     | none=>False
    | .c (.xp m f)=>chk (off.ble m) (K (.c (.xp (m-off) fun j=>f (off+j))))
    | _=>False
   | _=>False
  | none=>False
 | .indexAddr T x ix=>match E.ty T with
  | some ti=>match ti.elem with
   | some e=>match E.ty e,σ.ev ix with
    | some te,.c (.int _ n)=>0<=n/\match σ.ev x with
     | .c (.row sz m f)=>n<m/\chk (te.size == sz) (K (.c (.xp sz (f n.toNat))))
     | .c (.gs k u)=>match σ.bl[k]? with
      | some B=>n<B.n/\chk (B.u == u&&(B.st.ble 1&&te.size == B.sz)) (K (.c (.p k u B.sz n.toNat 0)))
      | none=>False
     | .c (.sl k u sz o m)=>match σ.bl[k]? with
      | some B=>n<m/\chk (B.u == u&&(B.st.ble 1&&te.size == sz)) (K (.c (.p k u sz (o+n.toNat) 0)))
      | none=>False
     | _=>False
    | _,_=>False
   | none=>False
  | none=>False
 | .build T parts=>match E.ty T with
  | some ti=>match k8 σ.bl ti.offs ti.zero (parts.toList.map fun q=>(q.1,σ.ev q.2))with
   | some l=>chk (!ti.offs.isEmpty&&ti.offs.all Option.isSome) (K (.g l))
   | none=>False
  | none=>False
 | .binOp op T x y _=>match σ.ev x,σ.ev y with
  | .c (.int k a),.c (.int k' b)=>chk (decide (k=k')||shiftB op) (intBin op k a b K)
  | .c (.bool a),.c (.bool b)=>match E.ty T with
   | some ti=>chk (ti.kd == 1) (boolBin op a b K)
   | none=>False
  | .c (.row _ n _),.c .nil=>match E.ty T with
   | some ti=>chk ti.elem.isSome (0<n/\nilBin op K)
   | none=>False
  | _,_=>False
 | .unOp op _ x=>match op,σ.ev x with
  | .not,.c (.bool b)=>K (.c (.bool !b))
  | .neg,.c (.int k n)=>K (.c (.int k (k.wrap (-n))))
  | .xor,.c (.int k n)=>K (.c (.int k (k.wrap (BitVec.ofInt k.bits (if k.signed then -1 else k.max) ^^^ BitVec.ofInt k.bits n).toNat)))
  | _,_=>False
 | .convert S T x=>match E.ty S,E.ty T,σ.ev x with
  | some ts,some ti,.c (.int _ n)=>match ts.ik,ti.ik with
   | some _,some k=>K (.c (.int k (k.wrap n)))
   | _,_=>False
  | _,_,_=>False
 | .extract x i=>match xZ (σ.ev x) i with
  | some v=>K v
  | none=>False
 | .slice T x lo hi none=>match E.ty T with
  | some ti=>match ti.elem with
   | some e=>match E.ty e with
    | some te=>chk (match szA σ.bl (σ.ev x)with | some z=>z == te.size | none=>false) (sliceA σ.bl (σ.ev x) (lo.map σ.ev) (hi.map σ.ev) K)
    | none=>False
   | none=>False
  | none=>False
 | .call { callee := .builtin .len,args,argTypes }=>match args.toList,argTypes.toList with
  | [x],[T]=>match E.ty T,vv σ.bl (σ.ev x)with
   | some ti,some n=>chk ti.elem.isSome (K (.c (.int .i64 n)))
   | some ti,none=>match strA (σ.ev x)with
    | some n=>chk (ti.kd == 2) (K (.c (.int .i64 n)))
    | none=>False
   | _,_=>False
  | _,_=>False
 | .call { callee := .builtin .max,args,.. }=>match args.toList.map σ.ev with
  | [.c (.int k a),.c (.int _ b)]=>K (.c (.int k (if b > a then b else a)))
  | [.c (.int k a),.c (.int _ b),.c (.int _ c)]=>K (.c (.int k (if c > (if b > a then b else a)then c else(if b > a then b else a))))
  | _=>False
 | .call { callee := .builtin .min,args,.. }=>match args.toList.map σ.ev with
  | [.c (.int k a),.c (.int _ b)]=>K (.c (.int k (if b<a then b else a)))
  | _=>False
 | .call { callee := .value g,args,.. }=>match kg σ g with
  | some f=>chk ((args.toList.map fun x=>St.close σ.bl (σ.ev x)).all V.clos) (∃ X,FnOK E.P E.r f (args.toList.map fun x=>St.close σ.bl (σ.ev x)) X/\K X)
  | none=>match capsA σ g with
   | some (f,cs)=>chk (((args.toList.map fun x=>St.close σ.bl (σ.ev x))++cs.map fun c=>V.c (St.closeC σ.bl c)).all V.clos) (∃ X,FnOK E.P E.r f ((args.toList.map fun x=>St.close σ.bl (σ.ev x))++cs.map fun c=>V.c (St.closeC σ.bl c)) X/\K X)
   | none=>False
 | .index T (.const (.string s)) ix=>match E.ty T,σ.ev ix with
  | some ti,.c (.int _ n)=>chk (ti.kd == 2) (0<=n/\match s[n.toNat]? with
   | some b=>K (.c (.int .u8 (b.toNat:Int)))
   | none=>False)
  | _,_=>False
 | .makeFunc (.func f) first captured=>chk (first.size == 0) (K (.c (.cl f captured.size (capC σ captured.toList))))
 | .field T x fld=>match E.ty T with
  | some ti=>match ti.offs[fld]?,σ.ev x with
   | some (some (off,_)),.g l=>match l[off]? with
    | some c=>chk (ti.kd == 3) (K (.c c))
    | none=>False
   | _,_=>False
  | none=>False
 | .nilCheck x=>match σ.ev x with
  | .c (.p k u sz i o)=>match σ.bl[k]? with
   | some B=>chk (B.u == u&&B.st.ble 1) (K (.c (.p k u sz i o)))
   | none=>False
  | .c (.xp m f)=>K (.c (.xp m f))
  | _=>False
 | _=>False

def Cell.ment : Cell → Nat → Nat → Prop
 | .p k u ..,k',u' | .gs k u,k',u' | .sl k u ..,k',u'=>k=k'/\u=u'
 | .cl _ n f,k',u'=>∃ j,j<n/\(f j).ment k' u'
 | _,_,_=>False
def V.ment : V → Nat → Nat → Prop
 | .c x,k,u=>x.ment k u
 | .g l,k,u=>∃ c∈l,c.ment k u
 | .t2 a b,k,u=>a.ment k u∨b.ment k u
 | .t3 a b d,k,u=>a.ment k u∨b.ment k u∨d.ment k u
 | .t4 a b d e,k,u=>a.ment k u∨b.ment k u∨d.ment k u∨e.ment k u
 | .un,_,_=>False
def needB : Op → Bool
 | .move _ | .assign _ | .pick .. | .extract .. | .binOp .. | .unOp .. | .convert .. | .alloc _ | .makeSlice .. => false
 | _=>true
def Vj (bl bl':List Blk) (x:V):Prop:=∀ k u,x.ment k u->∀ B,bl[k]? = some B->B.st<=1->B.u=u->bl'[k]? = some B
def Agree (o:Oper) (σ:St) (bl:List Blk):Prop:=needB o.op=true->∀ x∈o.op.operands,Vj σ.bl bl (σ.ev x)
theorem Agree.refl (o:Oper) (σ:St):Agree o σ σ.bl:=fun _ _ _ _ _ _ _ h _ _=>h
theorem one_congr {bl bl':List Blk} {c:Cell} (h:Vj bl bl' (.c c)) (h1:St.one bl c=true):St.one bl' c=true:=by
 cases c <;> first
  |exact h1
  |(
   simp only[St.one]at h1 ⊢
   split at h1
   ·rename_i B hB;simp only[Bool.and_eq_true,beq_iff_eq,Nat.ble_eq]at h1;rw[h _ _ ⟨rfl,rfl⟩ B hB h1.2 h1.1];simp[h1]
   ·cases h1)
theorem vQ {bl bl' : List Blk} : ∀ {c : Cell} (_ : Vj bl bl' (.c c)) (_ : (St.closeC bl c).clos = true), St.closeC bl' c = St.closeC bl c
 | .any,_,_=>rfl
 | .bool _,_,_=>rfl
 | .int _ _,_,_=>rfl
 | .nil,_,_=>rfl
 | .fn _,_,_=>rfl
 | .str _,_,_=>rfl
 | .row ..,_,_=>rfl
 | .xp ..,_,_=>rfl
 | .cl F n f,h,h1=>by
  simp only[St.closeC,Cell.clos,List.all_eq_true,List.mem_range]at h1;simp only[St.closeC,Cell.cl.injEq,true_and];funext j;by_cases hj:j<n
  ·have h2:=h1 j hj;rw[if_pos hj]at h2;rw[if_pos hj,if_pos hj];exact vQ (fun k u hm=>h k u ⟨j,hj,hm⟩) h2
  ·rw[if_neg hj,if_neg hj]
 | .p k u sz i o,h,h1=>by
  simp only[St.closeC]at h1 ⊢
  split at h1
  ·rename_i B hB;split at h1
   ·rename_i hst;have hst':=hst;simp only[Bool.and_eq_true,beq_iff_eq]at hst';rw[h _ _ ⟨rfl,rfl⟩ B hB (by omega) hst'.2.1]
   ·simp[Cell.clos]at h1
  ·simp[Cell.clos]at h1
 | .gs k u,h,h1=>by
  simp only[St.closeC]at h1 ⊢
  split at h1
  ·rename_i B hB;split at h1
   ·rename_i hst;have hst':=hst;simp only[Bool.and_eq_true,beq_iff_eq]at hst';rw[h _ _ ⟨rfl,rfl⟩ B hB (by omega) hst'.2]
   ·simp[Cell.clos]at h1
  ·simp[Cell.clos]at h1
 | .sl k u sz o n,h,h1=>by
  simp only[St.closeC]at h1 ⊢
  split at h1
  ·rename_i B hB;split at h1
   ·rename_i hst;have hst':=hst;simp only[Bool.and_eq_true,beq_iff_eq]at hst';rw[h _ _ ⟨rfl,rfl⟩ B hB (by omega) hst'.2.1]
   ·simp[Cell.clos]at h1
  ·simp[Cell.clos]at h1
theorem y8 {bl bl':List Blk} {x:V} (h:Vj bl bl' x) (h1:(St.close bl x).clos=true):St.close bl' x=St.close bl x:=by
 cases x with
 | c x=>simp only[St.close];rw[vQ h h1]
 | g l =>
  simp only[St.close,V.g.injEq];refine List.map_congr_left fun c hc=>vQ (fun k u hm=>h k u ⟨c,hc,hm⟩) ?_;exact List.all_eq_true.1 h1 _ (List.mem_map_of_mem hc)
 | _=>rfl
theorem lenA_congr {bl bl':List Blk} {x:V} (h:Vj bl bl' x) {n:Nat} (h1:vv bl x=some n):vv bl' x=some n:=by
 cases x with
 | c x =>
  cases x <;> first
   |exact h1
   |(
    simp only[vv]at h1 ⊢
    split at h1
    ·rename_i B hB;split at h1
     ·rename_i hst;have hst':=hst;simp only[Bool.and_eq_true,beq_iff_eq,Nat.ble_eq]at hst';rw[h _ _ ⟨rfl,rfl⟩ B hB hst'.2 hst'.1];simp only[hst,if_true];exact h1
     ·cases h1
    ·cases h1)
 | g l=>exact h1
 | t2 a b=>exact h1
 | t3 a b d=>exact h1
 | t4 a b d e=>exact h1
 | un=>exact h1
theorem Ww {bl bl' : List Blk} {offs : List (Option (Nat × Nat))} : ∀ (parts : List (Nat × V)) (cs : List Cell) {l : List Cell}, (∀ q ∈ parts, Vj bl bl' q.2) → k8 bl offs cs parts = some l → k8 bl' offs cs parts = some l
 | [],_,_,_,h=>h
 | (i,x) :: parts,cs,l,h,hf=>by
  have ih:=fun cs=>Ww (offs:=offs) (l:=l) parts cs fun q hq=>h q (by simp[hq]);have hx:=h (i,x) (by simp);simp only[k8]at hf ⊢
  split at hf
  ·rename_i off fsz ho;split at hf
   ·rename_i y;split at hf
    ·rename_i hc;have hc':=hc;simp only[Bool.and_eq_true]at hc';rw[if_pos (by simp only[Bool.and_eq_true];exact⟨one_congr hx hc'.1,hc'.2⟩)];exact ih _ hf
    ·cases hf
   ·split at hf
    ·rename_i hc;rw[if_pos hc];exact ih _ hf
    ·cases hf
   ·cases hf
  ·cases hf
def Steps1 (P:Program) (D0:Nat->Prop) (w0:Base) (r:Bool) (o:Oper) (σ:St) (X:V):Prop :=
 ∀(ρ:List Loc) (bl:List Blk) (a:Act) (w:World),Sat D0 w0 r ρ bl w->Agree o σ bl->(∀ x∈o.op.operands,VRel (Dof D0 ρ bl) w ρ (σ.ev x) (a.eval x))->∀(next:Act->World->Prop) (Q:Exit->Act->World->Prop),
  (∀ v w',Below w.heap.size w w'->VRel (Dof D0 ρ bl) w' ρ X v->next (a.put o.dst v) w')->o.wp P a w next Q
theorem qp {P : Program} {D0 : Nat → Prop} {w0 : Base} {r : Bool} {o : Oper} {σ : St} {X : V}
  (h:∀(ρ:List Loc) (bl:List Blk) (a:Act) (w:World),Sat D0 w0 r ρ bl w->Agree o σ bl->(∀ x∈o.op.operands,VRel (Dof D0 ρ bl) w ρ (σ.ev x) (a.eval x))->∃ v,(execOp a.eval o).run P w = .ok (.value v) w/\VRel (Dof D0 ρ bl) w ρ X v):Steps1 P D0 w0 r o σ X:=by
 intro ρ bl a w hs hag hx next Q hn
 obtain⟨v,h1,h2⟩:=h ρ bl a w hs hag hx;unfold Oper.wp;rw[h1];exact hn v w (Below.refl _ _) h2
theorem load_p {P : Program} {D0 : Nat → Prop} {w0 : Base} {w : World} {r : Bool} {ρ : List Loc} {bl : List Blk} (hs : Sat D0 w0 r ρ bl w) {T : TypeId} {ti : TI} (ht : yf P T = some ti) (h1 : ti.agg = true ∨ ti.size = 1) {k u sz i o : Nat} {B : Blk} (hB : bl[k]? = some B) (hu : B.u = u) (hsz : B.sz = sz) (hst : B.st ≤ 1) (ho : o + ti.size ≤ sz) {v : Value} (hv : CRel (Dof D0 ρ bl) w ρ (.p k u sz i o) v) :
  ∃ x,(Instr.loadAt T v).run P w = .ok x w/\VRel (Dof D0 ρ bl) w ρ (gF ti.agg ((List.range ti.size).map fun j=>B.f i (o+j))) x:=by
 obtain⟨l,hl,hul,hp⟩:=hv;have hln:=loc_n hs hl hB hst;obtain⟨g0,g1⟩:=hs.at_ k l B hl hB (by omega);rcases g1 with⟨g1,_,_⟩ | ⟨b,cap,cs,g1,g2,g3,g4,g5,g6,g7,g8⟩
 ·have:=(hp (by omega)).1;omega
 obtain⟨hi,b',e1,e2⟩:=hp (by omega);rw[hln]at hi;rw[g1]at e1;cases e1;subst e2;have hlt:i*B.sz+o+ti.size<=cs.size:=by
  rw[g5];have:(i+1)*B.sz<=cap*B.sz:=Nat.mul_le_mul_right _ (by omega);rw[Nat.succ_mul]at this;omega
 obtain⟨vs,hvs⟩:∃ vs,vs=(List.range ti.size).map fun j=>cs.getD (i*B.sz+o+j) undef:=⟨_,rfl⟩;have hlen:vs.length=ti.size:=by rw[hvs];simp
 have hc:∀(j:Nat) v,vs[j]? = some v->w.cell? ⟨b,i*sz+o+j,none⟩=some v:=by
  intro j v hj;have hjl:j<ti.size:=by rw[<- hlen];exact(List.getElem?_eq_some_iff.1 hj).1
  rw[hvs]at hj;rw[List.getElem?_map,List.getElem?_range hjl]at hj;simp only[Option.map_some,Option.some.injEq]at hj;simp only[World.cell?,g4,Option.isSome_none,Bool.false_eq_true,if_false];rw[<- hj,<- hsz,Array.getElem?_eq_getElem (by omega)];simp[Array.getD,show i*B.sz+o+j<cs.size by omega]
 refine⟨_,run_loadAt ht h1 hlen hc,ofCells_rel _ (CRels.of _ _ (by rw[hlen];simp) fun j x v hx hv=>?_)⟩;have hjl:j<ti.size:=by rw[<- hlen];exact(List.getElem?_eq_some_iff.1 hv).1
 rw[List.getElem?_map,List.getElem?_range hjl]at hx;simp only[Option.map_some,Option.some.injEq]at hx;subst hx;obtain⟨y,hy,hr⟩:=g8 i (o+j) hi (by omega);have hr:CRel (Dof D0 ρ bl) w ρ (B.f i (o+j)) y:=by
  by_cases hz:B.st=0
  ·rw[if_pos hz]at hr;exact hr
  ·rw[if_neg hz]at hr;exact hr.step (Ext.refl _ w) (fun _ _ x=>x) (fun k l hk=>by simp at hk)
 have:=hc j v hv;simp only[World.cell?,g4,Option.isSome_none,Bool.false_eq_true,if_false]at this;rw[<- hsz,show i*B.sz+o+j=i*B.sz+(o+j)by omega,hy]at this;cases this;exact hr
theorem load_x {P : Program} {D : Nat → Prop} {w : World} {ρ : List Loc} {T : TypeId} {ti : TI} (ht : yf P T = some ti) (h1 : ti.agg = true ∨ ti.size = 1) {m : Nat} {f : Nat → Cell} (hm : ti.size ≤ m) {v : Value} (hv : CRel D w ρ (.xp m f) v) :
  ∃ x,(Instr.loadAt T v).run P w = .ok x w/\VRel D w [] (gF ti.agg ((List.range ti.size).map f)) x:=by
 obtain⟨b,o,rfl,hb,hD,hc⟩:=hv;have hx:∀ n,n<=m->∃ vs:List Value,vs.length=n/\(∀(j:Nat) v,vs[j]? = some v->w.cell? ⟨b,o+j,none⟩=some v)/\CRels D w [] ((List.range n).map f) vs:=by
  intro n;induction n with
  | zero=>intro _;exact⟨[],rfl,fun j v h=>by simp at h,trivial⟩
  | succ n ih =>
   intro hn;obtain⟨vs,e1,e2,e3⟩:=ih (by omega);obtain⟨u,hu,hr⟩:=hc n (by omega);refine⟨vs++[u],by simp[e1],fun j v hj=>?_,CRels.of _ _ (by simp[e1]) fun j x v hx hv=>?_⟩
   ·rcases Nat.lt_or_ge j vs.length with h | h
    ·rw[List.getElem?_append_left h]at hj;exact e2 j v hj
    ·rw[List.getElem?_append_right h]at hj;rcases Nat.eq_zero_or_pos (j-vs.length)with e | e
     ·rw[e]at hj;simp at hj;subst hj;rw[show j=n by omega];exact hu
     ·rw[List.getElem?_eq_none (by simp;omega)]at hj;cases hj
   ·rcases Nat.lt_or_ge j vs.length with h | h
    ·rw[List.getElem?_append_left h]at hv;rw[List.range_succ,List.map_append,List.getElem?_append_left (by simp;omega)]at hx;obtain⟨y,hy,hyr⟩:=e3.get j x hx;rw[hv]at hy;cases hy;exact hyr
    ·rw[List.getElem?_append_right h]at hv;rw[List.range_succ,List.map_append,List.getElem?_append_right (by simp;omega)]at hx;rcases Nat.eq_zero_or_pos (j-vs.length)with e | e
     ·rw[e]at hv;simp at hv;subst hv;rw[show j-(List.map f (List.range n)).length=0 by simp;omega]at hx;simp at hx;subst hx;exact hr
     ·rw[List.getElem?_eq_none (by simp;omega)]at hv;cases hv
 obtain⟨vs,e1,e2,e3⟩:=hx ti.size hm;exact⟨_,run_loadAt ht h1 e1 e2,ofCells_rel _ e3⟩
theorem VRel.nil_rho {D:Nat->Prop} {w:World} {ρ:List Loc} {x:V} {v:Value} (h:VRel D w [] x v):VRel D w ρ x v :=
 h.step (Ext.refl D w) (fun _ _ x=>x) (fun k l hk=>by simp at hk)
theorem VRels.map {D : Nat → Prop} {w : World} {ρ : List Loc} {g : Operand → V} {e : Operand → Value} : ∀ (l : List Operand), (∀ x ∈ l, VRel D w ρ (g x) (e x)) → VRels D w ρ (l.map g) (l.map e)
 | [],_=>trivial
 | x :: l,h=>⟨h x (by simp),VRels.map l fun y hy=>h y (by simp[hy])⟩
theorem VRels.clos {D : Nat → Prop} {w : World} {ρ ρ' : List Loc} : ∀ {l : List V} {vs : List Value}, VRels D w ρ l vs → l.all V.clos = true → VRels D w ρ' l vs
 | [],[],_,_=>trivial
 | _ :: _,_ :: _,h,hc=>by
  simp only[List.all_cons,Bool.and_eq_true]at hc;exact⟨h.1.clos hc.1,VRels.clos h.2 hc.2⟩
 | [],_ :: _,h,_=>h.elim
 | _ :: _,[],h,_=>h.elim
theorem VRels.append {D : Nat → Prop} {w : World} {ρ : List Loc} : ∀ {l l' : List V} {vs vs' : List Value}, VRels D w ρ l vs → VRels D w ρ l' vs' → VRels D w ρ (l ++ l') (vs ++ vs')
 | [],_,[],_,_,h=>h
 | _ :: _,_,_ :: _,_,h,h'=>⟨h.1,VRels.append h.2 h'⟩
 | [],_,_ :: _,_,h,_=>h.elim
 | _ :: _,_,[],_,h,_=>h.elim
theorem VRels.cells {D : Nat → Prop} {w : World} {ρ : List Loc} {g : Cell → Cell} : ∀ {l : List Cell} {vs : List Value}, CRels D w ρ (l.map g) vs → VRels D w ρ (l.map fun c => V.c (g c)) vs
 | [],[],_=>trivial
 | _ :: _,_ :: _,h=>⟨h.1,VRels.cells h.2⟩
 | [],_ :: _,h=>h.elim
 | _ :: _,[],h=>h.elim
theorem V8 {D:Nat->Prop} {w:World} {ρ:List Loc} {σ:St} {a:Act} {g:Operand} {f:FuncId} (h:kg σ g=some f) (hx:VRel D w ρ (σ.ev g) (a.eval g)):a.eval g = .func (.func f) #[] #[]:=by
 cases g with
 | func x=>simp[kg]at h;subst h;rfl
 | tmp t =>
  simp only[kg]at h;split at h
  ·rename_i f' hf;cases h;simp only[St.ev,hf]at hx;exact hx
  ·cases h
 | const v=>simp[kg]at h
 | global x=>simp[kg]at h
theorem exec_callc {P : Program} {a : Act} {w : World} {o : Oper} {g : Operand} {args : Array Operand} {ts : Array TypeId} {f : FuncId} {caps : Array Value} (ho : o.op = .call { callee := .value g, args := args, argTypes := ts }) (hg : a.eval g = .func (.func f) #[] caps) (hb : x8 P f = true) :
  (execOp a.eval o).run P w = .ok (.enter f (args.map a.eval++caps)) w:=by
 simp only[x8]at hb;split at hb
 ·rename_i fn hf;simp only[Bool.and_eq_true,Bool.not_eq_true',Option.isSome_iff_exists]at hb;obtain⟨⟨c,hc⟩,hn⟩:=hb;have:(execOp a.eval o)=(do let d <- resolve a.eval { callee := .value g,args:=args,argTypes:=ts } o.type;invoke d.target d.args):=by
   unfold execOp;rw[ho]
  rw[this];have hn' : ¬ fn.name = "runtime.NumGoroutine" := by simpa using hn
  simp[resolve,hg,Deferred.ofValue,invoke,callFunc,hf,hn',hc]
 ·cases hb
theorem caps_eval {D:Nat->Prop} {w:World} {ρ:List Loc} {σ:St} {a:Act} {g:Operand} {f:FuncId} {cs:List Cell} (h:capsA σ g=some (f,cs)) (hx:VRel D w ρ (σ.ev g) (a.eval g)):(∃ n c,σ.ev g = .c (.cl f n c)/\cs=(List.range n).map c)/\∃ caps:Array Value,a.eval g = .func (.func f) #[] caps/\CRels D w ρ cs caps.toList:=by
 cases g with
 | tmp t =>
  simp only[capsA]at h;split at h
  ·rename_i f' n c hf;cases h;simp only[St.ev,hf]at hx;obtain⟨caps,h1,h2,h3⟩:=hx;refine⟨⟨n,c,hf,rfl⟩,caps,h1,CRels.of _ _ (by simp[h2]) fun j x v hx hv=>?_⟩;rw[List.getElem?_map]at hx;rcases Nat.lt_or_ge j n with hj | hj
   ·rw[List.getElem?_range hj]at hx;simp at hx;subst hx;obtain⟨u,hu,hr⟩:=h3 j hj;rw[Array.getElem?_toList,hu]at hv;cases hv;exact hr
   ·rw[List.getElem?_eq_none (by simp;omega)]at hx;cases hx
  ·cases h
 | func x=>simp[capsA]at h
 | const v=>simp[capsA]at h
 | global x=>simp[capsA]at h
theorem WP {P : Program} {a : Act} {w : World} {o : Oper} {g : Operand} {args : Array Operand} {ts : Array TypeId} {f : FuncId} (ho : o.op = .call { callee := .value g, args := args, argTypes := ts }) (hg : a.eval g = .func (.func f) #[] #[]) (hb : x8 P f = true) :
  (execOp a.eval o).run P w = .ok (.enter f (args.map a.eval)) w:=by
 simp only[x8]at hb;split at hb
 ·rename_i fn hf;simp only[Bool.and_eq_true,Bool.not_eq_true',Option.isSome_iff_exists]at hb;obtain⟨⟨c,hc⟩,hn⟩:=hb;have:(execOp a.eval o)=(do let d <- resolve a.eval { callee := .value g,args:=args,argTypes:=ts } o.type;invoke d.target d.args):=by
   unfold execOp;rw[ho]
  rw[this];have hn' : ¬ fn.name = "runtime.NumGoroutine" := by simpa using hn
  simp[resolve,hg,Deferred.ofValue,invoke,callFunc,hf,hn',hc]
 ·cases hb
theorem len_rel {D0:Nat->Prop} {w0:Base} {w:World} {r:Bool} {ρ:List Loc} {bl:List Blk} (hs:Sat D0 w0 r ρ bl w) {x:V} {v:Value} {n:Nat} (h:vv bl x=some n) (hx:VRel (Dof D0 ρ bl) w ρ x v):∃ A c,v = .slice A n c/\n<=c:=by
 cases x with
 | c x =>
  cases x <;> simp only[vv]at h <;> first | (cases h;done) | skip
  case row sz m f=>cases h;obtain⟨A,c,h1,h2,_⟩:=hx;exact⟨A,c,h1,h2⟩
  case nil=>cases h;exact⟨none,0,hx,Nat.le_refl _⟩
  case sl k u sz o m =>
   obtain⟨l,hl,hu,hv⟩:=hx;split at h
   ·rename_i B hB;split at h
    ·rename_i hst;simp only[Bool.and_eq_true,beq_iff_eq,Nat.ble_eq]at hst;cases h;obtain⟨g0,g1⟩:=hs.at_ k l B hl hB hst.2;obtain⟨_,A,c,e1,e2,_⟩:=hv (by omega);exact⟨A,c,e1,e2⟩
    ·cases h
   ·cases h
  case gs k u =>
   obtain⟨l,hl,hu,hv⟩:=hx;split at h
   ·rename_i B hB;split at h
    ·rename_i hst;simp only[Bool.and_eq_true,beq_iff_eq,Nat.ble_eq]at hst;cases h;obtain⟨g0,g1⟩:=hs.at_ k l B hl hB hst.2;have hv':=hv (by omega);rcases g1 with⟨g1,g2,g3⟩ | ⟨b,cap,cs,g1,g2,g3,g4,g5,g6,g7,g8⟩
     ·exact⟨none,0,by rw[hv',g3,g1],by omega⟩
     ·exact⟨_,cap,hv'.trans g3,g6⟩
    ·cases h
   ·cases h
 | g l=>simp[vv]at h
 | t2 a b=>simp[vv]at h
 | t3 a b d=>simp[vv]at h
 | t4 a b d e=>simp[vv]at h
 | un=>simp[vv]at h
theorem loc_u {D0:Nat->Prop} {w0:Base} {w:World} {r:Bool} {ρ:List Loc} {bl:List Blk} (hs:Sat D0 w0 r ρ bl w) {k:Nat} {l:Loc} {B:Blk} (h1:ρ[k]? = some l) (h2:bl[k]? = some B) (h3:B.st<=1):l.u=B.u:=(hs.at_ k l B h1 h2 h3).1
theorem CRels.append {D : Nat → Prop} {w : World} {ρ : List Loc} : ∀ {l : List Cell} {vs : List Value} {l' : List Cell} {vs' : List Value}, CRels D w ρ l vs → CRels D w ρ l' vs' → CRels D w ρ (l ++ l') (vs ++ vs')
 | [],[],_,_,_,h=>h
 | _ :: _,_ :: _,_,_,h,k=>⟨h.1,CRels.append h.2 k⟩
 | [],_ :: _,_,_,h,_=>h.elim
 | _ :: _,[],_,_,h,_=>h.elim
theorem CRels.take {D : Nat → Prop} {w : World} {ρ : List Loc} : ∀ {l : List Cell} {vs : List Value} (n : Nat), CRels D w ρ l vs → CRels D w ρ (l.take n) (vs.take n)
 | [],[],_,_=>by simp[CRels]
 | _ :: _,_ :: _,0,_=>trivial
 | _ :: _,_ :: _,n+1,h=>⟨h.1,CRels.take n h.2⟩
 | [],_ :: _,_,h=>h.elim
 | _ :: _,[],_,h=>h.elim
theorem CRels.drop {D : Nat → Prop} {w : World} {ρ : List Loc} : ∀ {l : List Cell} {vs : List Value} (n : Nat), CRels D w ρ l vs → CRels D w ρ (l.drop n) (vs.drop n)
 | [],[],_,_=>by simp[CRels]
 | _ :: _,_ :: _,0,h=>h
 | _ :: _,_ :: _,n+1,h=>CRels.drop n h.2
 | [],_ :: _,_,h=>h.elim
 | _ :: _,[],_,h=>h.elim
theorem fold_seg (off:Nat):∀(vs:List Value) (k:Nat) (cells:Array Value),off+k+vs.length<=cells.size ->
  ((vs.zipIdx k).foldl (fun cs p=>cs.setIfInBounds (off+p.2) p.1) cells).toList=cells.toList.take (off+k)++vs++cells.toList.drop (off+k+vs.length)
 | [],k,cells,_=>by simp
 | v :: vs,k,cells,h=>by
  simp only[List.zipIdx_cons,List.foldl_cons];rw[fold_seg off vs (k+1) _ (by simp at h ⊢;omega)];have e:=list_seg_step cells.toList (off+k) v vs (by simp at h ⊢;omega);simpa [Array.toList_setIfInBounds,Nat.add_assoc] using e
theorem run_places {P : Program} (fs : Array Field) (h : ∀ f ∈ fs.toList, P.cellsOf f.type ≠ 0) (w : World) :
  (fs.mapM fun f=>do pure (f.offset,<- sizeOf f.type):Sem (Array (Nat × Nat))).run P w = .ok (fs.toList.map fun f=>(f.offset,P.cellsOf f.type)).toArray w:=by
 have key:∀ l:List Field,(∀ f∈l,P.cellsOf f.type≠0)->(l.mapM fun f=>Functor.map (Prod.mk f.offset) (sizeOf f.type):Sem (List (Nat × Nat))).run P w = .ok (l.map fun f=>(f.offset,P.cellsOf f.type)) w:=by
  intro l;induction l with
  | nil=>intro _;rfl
  | cons f l ih =>
   intro hl;have hs:(sizeOf f.type).run P w = .ok (P.cellsOf f.type) w:=by
    have h1:=hl f (by simp);cases hI:P.info? f.type with
    | none=>simp[Program.cellsOf,hI]at h1
    | some i'=>simp[sizeOf,typeInfo,Program.cellsOf,hI]
   have ih':=ih fun g hg=>hl g (by simp[hg]);simp[List.mapM_cons,hs,ih',Result.andThen]
 rw[Array.mapM_eq_mapM_toList];simp[key fs.toList h,Result.andThen]
theorem fill_rel {D0 : Nat → Prop} {w0 : Base} {w : World} {r : Bool} {ρ : List Loc} {bl : List Blk} (hs : Sat D0 w0 r ρ bl w) {D : Nat → Prop} {offs : List (Option (Nat × Nat))} {place : Nat → Option (Nat × Nat)} (hp : ∀ (i off fsz : Nat), offs[i]? = some (some (off, fsz)) → place i = some (off, fsz)) {g : Operand → V} {e : Operand → Value} :
  ∀(parts:List (Nat × Operand)) (cs cs':List Cell) (cells:Array Value),k8 bl offs cs (parts.map fun q=>(q.1,g q.2))=some cs'->(∀ q∈parts,VRel D w ρ (g q.2) (e q.2))->CRels D w ρ cs cells.toList ->
   ∃ cells',Instr.fill place cells (parts.map fun q=>(q.1,e q.2))=some cells'/\CRels D w ρ cs' cells'.toList
 | [],cs,cs',cells,h,_,hc=>by simp[k8]at h;subst h;exact⟨cells,rfl,hc⟩
 | (i,x) :: parts,cs,cs',cells,h,hg,hc=>by
  simp only[List.map_cons,k8]at h;split at h
  ·rename_i off fsz ho;have hx:=hg (i,x) (by simp);have step:∀(l:List Cell) (v:Value),e x=v->v.cells.size=fsz->fsz=l.length->off+l.length<=cs.length->CRels D w ρ l v.cells.toList->k8 bl offs (cs.take off++l++cs.drop (off+l.length)) (parts.map fun q=>(q.1,g q.2))=some cs' ->
     ∃ cells',Instr.fill place cells (((i,x) :: parts).map fun q=>(q.1,e q.2))=some cells'/\CRels D w ρ cs' cells'.toList:=by
    intro l v ev e1 e2 e3 e4 e5;have hlen:=hc.length;simp only[Array.length_toList]at hlen;have hseg:=fold_seg off v.cells.toList 0 cells (by simp only[Array.length_toList];omega);obtain⟨cells',h1,h2⟩:=fill_rel hs hp parts _ cs' (v.cells.zipIdx.foldl (fun cs (p:Value × Nat)=>cs.setIfInBounds (off+p.2) p.1) cells) e5 (fun q hq=>hg q (by simp[hq])) (by
     rw[<- Array.foldl_toList,Array.toList_zipIdx,hseg];have el:v.cells.toList.length=l.length:=e4.length.symm;simp only[Nat.add_zero,el];exact((hc.take off).append e4).append (hc.drop _))
    refine⟨cells',?_,h2⟩;simp only[List.map_cons,Instr.fill,hp i off fsz ho,ev];rw[if_neg (by simp;omega)];exact h1
   split at h
   ·rename_i y hy;split at h
    ·rename_i hcond;simp only[Bool.and_eq_true,beq_iff_eq,Nat.ble_eq]at hcond;rw[hy]at hx;obtain⟨h1,h2,h3⟩:=hcond;have hcell:(e x).cells=#[e x]:=by
      exact(WV hs h1 hx).2
     refine step [y] (e x) rfl (by rw[hcell];simp[h2]) (by simp[h2]) (by simpa using h3) (by rw[hcell];exact⟨hx,trivial⟩) (by simpa using h)
    ·cases h
   ·rename_i l hl;split at h
    ·rename_i hcond;simp only[Bool.and_eq_true,beq_iff_eq,Nat.ble_eq]at hcond;rw[hl]at hx;obtain⟨vs,e1,e2⟩:=hx;have hlen:=e2.length;simp only[Array.length_toList]at hlen;exact step l (e x) rfl (by rw[e1];simp only[Value.cells];omega) hcond.1 hcond.2 (by rw[e1];exact e2) h
    ·cases h
   ·cases h
  ·cases h
theorem toNat_lt {n:Int} {m:Nat} (h0:0<=n) (h:n<(m:Int)):n.toNat<m:=by omega
theorem run_index {P : Program} {T e : TypeId} {ti te : TI} (ht : yf P T = some ti) (he : ti.elem = some e) (hte : yf P e = some te) {k : IntKind} {n : Int} {b o len c : Nat} (h0 : 0 ≤ n) (h1 : n < (len : Int)) (w : World) :
  (Instr.indexAt T (.slice (some ⟨b,o,none⟩) len c) (.int k n)).run P w = .ok (.pointer (some ⟨b,o+n.toNat*te.size,none⟩)) w:=by
 have hs:=fun w=>v8 hte w;simp[Instr.indexAt,asIntOf,run_underlying (z9 ht he),h0,h1,hs,vP]
theorem run_slice {P : Program} {T e : TypeId} {te : TI} (hu : P.underlying T = some (.slice e)) (hte : yf P e = some te) {A : Option Addr} {n c l h : Nat} {lo hi : Option Value} (hlo : lo = none ∧ l = 0 ∨ lo = some (.int .i64 l)) (hhi : hi = none ∧ h = n ∨ hi = some (.int .i64 h)) (h1 : l ≤ h) (h2 : h ≤ c) (w : World) :
  (Instr.sliceAt T (.slice A n c) lo hi none).run P w = .ok (.slice (if c=l then A else A.map (·.add (l*te.size))) (h-l) (c-l)) w:=by
 have hs:=fun w=>v8 hte w;have e1:((l:Int)<=(h:Int)):=by omega
 have e2:((h:Int)<=(c:Int)):=by omega
 rcases hlo with⟨rfl,rfl⟩ | rfl <;> rcases hhi with⟨rfl,rfl⟩ | rfl <;>
  simp[Instr.sliceAt,Instr.slice,Instr.sliceBounds,Instr.sliceBound,asIntOf,run_underlying hu,hs,h1,h2]
theorem slice_val {A:Option Addr} {b o l h n c sz:Nat} (hA:0<n->A=some ⟨b,o,none⟩) (h1:l<=h) (h2:h<=n) (h3:n<=c) (hn:0<h-l):(if c=l then A else A.map (·.add (l*sz)))=some ⟨b,o+l*sz,none⟩:=by
 rw[if_neg (by omega),hA (by omega)];simp[vP]
theorem slice_bounds {D : Nat → Prop} {w : World} {ρ : List Loc} {σ : St} {a : Act} {lo : Option Operand} {m : Int} (h : (match lo.map σ.ev with | none => some (0 : Int) | some (V.c (.int .i64 n)) => some n | _ => none) = some m) (hm : 0 ≤ m) (hr : ∀ x, lo = some x → VRel D w ρ (σ.ev x) (a.eval x)) :
  lo.map a.eval=none/\m.toNat=0∨lo.map a.eval=some (.int .i64 (m.toNat:Int)):=by
 cases lo with
 | none=>simp at h;subst h;exact .inl ⟨rfl,rfl⟩
 | some x =>
  right;simp only[Option.map_some]at h ⊢
  split at h
  ·rename_i h0;cases h0
  ·rename_i n hn;cases h;have:=hr x rfl;rw[Option.some.inj hn]at this;rw[show a.eval x = .int .i64 m from this,Int.toNat_of_nonneg hm]
  ·cases h
theorem slice_boundh {D : Nat → Prop} {w : World} {ρ : List Loc} {σ : St} {a : Act} {hi : Option Operand} {m : Int} {n0 : Nat} {q : Option Int} (hq : ∀ z, q = some z → z = n0) (h : (match hi.map σ.ev with | none => q | some (V.c (.int .i64 n)) => some n | _ => none) = some m) (hm : 0 ≤ m) (hr : ∀ x, hi = some x → VRel D w ρ (σ.ev x) (a.eval x)) :
  hi.map a.eval=none/\m.toNat=n0∨hi.map a.eval=some (.int .i64 (m.toNat:Int)):=by
 cases hi with
 | none=>simp at h;exact .inl ⟨rfl,by rw[hq m h];rfl⟩
 | some x =>
  right;simp only[Option.map_some]at h ⊢
  split at h
  ·rename_i h0;cases h0
  ·rename_i n hn;cases h;have:=hr x rfl;rw[Option.some.inj hn]at this;rw[show a.eval x = .int .i64 m from this,Int.toNat_of_nonneg hm]
  ·cases h
theorem x5 {o:Oper} {c:Call} (hx:o.op = .call c) {x:Operand} (h:x∈c.args.toList):x∈o.op.operands:=by
 rw[hx];simp only[Op.operands,Call.operands];exact Array.mem_append.2 (.inr (Array.mem_toList_iff.1 h))
set_option maxHeartbeats 1000000 in
theorem U5 {E:Env} (hE:EnvOK E) {o:Oper} {σ:St} {K:V->Prop} (h:dop E o σ K):∃ X,K X/\∀ D0 w0,Steps1 E.P D0 w0 E.r o σ X:=by
 unfold dop at h;split at h
 case h_1 x hx | h_2 x hx =>
  refine⟨_,h,fun D0 w0=>qp fun ρ bl a w hs hag hr=>⟨a.eval x,?_,hr x (by rw[hx];simp[Op.operands])⟩⟩;simp[execOp,hx]
 case h_3 c x y hx =>
  split at h
  ·rename_i t ht;have hb:∀(D0:Nat->Prop) (w0:Base) (ρ:List Loc) (bl:List Blk) (a:Act) (w:World),(∀ x∈o.op.operands,VRel (Dof D0 ρ bl) w ρ (σ.ev x) (a.eval x))->a.eval c = .bool t:=by
    intro D0 w0 ρ bl a w hr;have:=hr c (by rw[hx];simp[Op.operands]);rw[ht]at this;exact this
   have h:=cs_iff.1 h;cases t with
   | true =>
    refine⟨_,h.1 rfl,fun D0 w0=>qp fun ρ bl a w hs hag hr=>⟨a.eval x,?_,hr x (by rw[hx];simp[Op.operands])⟩⟩;simp[execOp,hx,hb D0 w0 ρ bl a w hr,asBool]
   | false =>
    refine⟨_,h.2 rfl,fun D0 w0=>qp fun ρ bl a w hs hag hr=>⟨a.eval y,?_,hr y (by rw[hx];simp[Op.operands])⟩⟩;simp[execOp,hx,hb D0 w0 ρ bl a w hr,asBool]
  ·exact h.elim
 case h_4 T x hx =>
  split at h
  ·rename_i ti ht;have ht:=hE.ty _ _ ht;obtain⟨h1,h⟩:=zp.1 h;simp only[Bool.or_eq_true,beq_iff_eq]at h1;split at h
   ·rename_i k u sz i o' hv;split at h
    ·rename_i B hB;obtain⟨g0,g6⟩:=zp.1 h;simp only[Bool.and_eq_true,beq_iff_eq,Nat.ble_eq]at g0;obtain⟨g1,g2,g3,g5⟩:=g0;refine⟨_,g6,fun D0 w0=>qp fun ρ bl a w hs hag hr=>?_⟩;have hB:=hag (by rw[hx];rfl) x (by rw[hx];simp[Op.operands]) k u (by rw[hv];exact⟨rfl,rfl⟩) B hB (by omega) (by omega);have hr':=hr x (by rw[hx];simp[Op.operands]);rw[hv]at hr';obtain⟨y,hy,hyr⟩:=load_p hs ht h1 hB g1 g2 g3 g5 hr';exact⟨y,by simp[execOp,hx,hy],hyr⟩
    ·exact h.elim
   ·rename_i m f hv;obtain⟨g0,h⟩:=zp.1 h;refine⟨_,h,fun D0 w0=>qp fun ρ bl a w hs hag hr=>?_⟩;have hr':=hr x (by rw[hx];simp[Op.operands]);rw[hv]at hr';obtain⟨y,hy,hyr⟩:=load_x ht h1 (Nat.le_of_ble_eq_true g0) hr';exact⟨y,by simp[execOp,hx,hy],hyr.nil_rho⟩
   ·exact h.elim
  ·exact h.elim
 case h_5 T x fld hx =>
  split at h
  ·rename_i ti ht;have ht:=hE.ty _ _ ht;split at h
   ·rename_i off fsz ho;split at h
    ·rename_i k u sz i o' hv;split at h
     ·rename_i B hB;obtain⟨g0,g3⟩:=zp.1 h;simp only[Bool.and_eq_true,beq_iff_eq,Nat.ble_eq]at g0;obtain⟨g1,g2⟩:=g0;refine⟨_,g3,fun D0 w0=>qp fun ρ bl a w hs hag hr=>?_⟩;have hB:=hag (by rw[hx];rfl) x (by rw[hx];simp[Op.operands]) k u (by rw[hv];exact⟨rfl,rfl⟩) B hB (by omega) (by omega);have hr':=hr x (by rw[hx];simp[Op.operands]);rw[hv]at hr';obtain⟨l,hl,hu,hp⟩:=hr';have hlu:=loc_u hs hl hB g2;obtain⟨hil,b,e1,e2⟩:=hp (by omega);refine⟨.pointer (some ⟨b,i*sz+o'+off,none⟩),?_,⟨l,hl,hu,fun _=>⟨hil,b,e1,by rw[Nat.add_assoc]⟩⟩⟩;simp[execOp,hx,e2,run_field ht ho]
     ·exact h.elim
    ·rename_i m f hv;obtain⟨g0,h⟩:=zp.1 h;have g0:=Nat.le_of_ble_eq_true g0;refine⟨_,h,fun D0 w0=>qp fun ρ bl a w hs hag hr=>?_⟩;have hr':=hr x (by rw[hx];simp[Op.operands]);rw[hv]at hr';obtain⟨b,o',e1,e2,e3,e4⟩:=hr';refine⟨.pointer (some ⟨b,o'+off,none⟩),by simp[execOp,hx,e1,run_field ht ho],⟨b,o'+off,rfl,e2,e3,fun j hj=>?_⟩⟩;rw[Nat.add_assoc];exact e4 (off+j) (by omega)
    ·exact h.elim
   ·exact h.elim
  ·exact h.elim
 case h_6 T x ix hx =>
  split at h
  ·rename_i ti ht;split at h
   ·rename_i e he;split at h
    ·rename_i te kk n hte hn;have ht:=hE.ty _ _ ht;have hte:=hE.ty _ _ hte;obtain⟨h0,h⟩:=h;have hix:∀(D0:Nat->Prop) (w0:Base) (ρ:List Loc) (bl:List Blk) (a:Act) (w:World),(∀ x∈o.op.operands,VRel (Dof D0 ρ bl) w ρ (σ.ev x) (a.eval x))->a.eval ix = .int kk n:=by
      intro D0 w0 ρ bl a w hr;have:=hr ix (by rw[hx];simp[Op.operands]);rw[hn]at this;exact this
     split at h
     ·rename_i sz m f hv;obtain⟨g1,h⟩:=h;obtain⟨g2,g3⟩:=zp.1 h;have g2:te.size=sz:=by simpa using g2
      refine⟨_,g3,fun D0 w0=>qp fun ρ bl a w hs hag hr=>?_⟩;have hr':=hr x (by rw[hx];simp[Op.operands]);rw[hv]at hr';obtain⟨A,c,e1,e2,e4⟩:=hr';obtain⟨b,o',rfl,e5,e6,e7⟩:=e4 (by omega);refine⟨.pointer (some ⟨b,o'+n.toNat*te.size,none⟩),by simp[execOp,hx,e1,hix D0 w0 ρ bl a w hr,run_index ht he hte h0 g1],⟨b,_,rfl,e5,e6,fun j hj=>?_⟩⟩;obtain⟨y,hy,hyr⟩:=e7 n.toNat j (toNat_lt h0 g1) hj;exact⟨y,by rw[g2,Nat.add_assoc];exact hy,hyr⟩
     ·rename_i k u hv;split at h
      ·rename_i B hB;obtain⟨g4,h⟩:=h;obtain⟨g0,g5⟩:=zp.1 h;simp only[Bool.and_eq_true,beq_iff_eq,Nat.ble_eq]at g0;obtain⟨g1,g2,g3⟩:=g0;refine⟨_,g5,fun D0 w0=>qp fun ρ bl a w hs hag hr=>?_⟩;have hB:=hag (by rw[hx];rfl) x (by rw[hx];simp[Op.operands]) k u (by rw[hv];exact⟨rfl,rfl⟩) B hB (by omega) (by omega);have hr':=hr x (by rw[hx];simp[Op.operands]);rw[hv]at hr';obtain⟨l,hl,hu,hp⟩:=hr';have hln:=loc_n hs hl hB g2;obtain⟨q0,q1⟩:=hs.at_ k l B hl hB g2;have hp':=hp (by omega);rcases q1 with⟨q1,_,_⟩ | ⟨b,cap,cs,q1,q2,q3,_⟩
       ·omega
       ·refine⟨.pointer (some ⟨b,n.toNat*te.size,none⟩),?_,⟨l,hl,hu,fun _=>⟨by omega,b,q1,by rw[g3];rfl⟩⟩⟩;have:=run_index (P:=E.P) ht he hte (k:=kk) (b:=b) (o:=0) (c:=cap) h0 g4 w;rw[Nat.zero_add]at this;simp[execOp,hx,hp',q3,hix D0 w0 ρ bl a w hr,this]
      ·exact h.elim
     ·rename_i k u sz o' m hv;split at h
      ·rename_i B hB;obtain⟨g4,h⟩:=h;obtain⟨g0,g5⟩:=zp.1 h;simp only[Bool.and_eq_true,beq_iff_eq,Nat.ble_eq]at g0;obtain⟨g1,g2,g3⟩:=g0;refine⟨_,g5,fun D0 w0=>qp fun ρ bl a w hs hag hr=>?_⟩;have hB:=hag (by rw[hx];rfl) x (by rw[hx];simp[Op.operands]) k u (by rw[hv];exact⟨rfl,rfl⟩) B hB (by omega) (by omega);have hr':=hr x (by rw[hx];simp[Op.operands]);rw[hv]at hr';obtain⟨l,hl,hu,hp⟩:=hr';have hlu:=loc_u hs hl hB g2;obtain⟨hon,A,c,e1,e2,e4⟩:=hp (by omega);obtain⟨b,e5,rfl⟩:=e4 (by omega);refine⟨.pointer (some ⟨b,o'*sz+n.toNat*te.size,none⟩),by simp[execOp,hx,e1,hix D0 w0 ρ bl a w hr,run_index ht he hte h0 g4],⟨l,hl,hu,fun _=>⟨by omega,b,e5,by rw[g3,Nat.add_mul];rfl⟩⟩⟩
      ·exact h.elim
     ·exact h.elim
    ·exact h.elim
   ·exact h.elim
  ·exact h.elim
 case h_7 T parts hx =>
  split at h
  ·rename_i ti ht;split at h
   ·rename_i l hl;have ht:=hE.ty _ _ ht;obtain⟨h0,h3⟩:=zp.1 h;simp only[Bool.and_eq_true,Bool.not_eq_true',List.isEmpty_eq_false_iff]at h0;obtain⟨h1,h2⟩:=h0;refine⟨_,h3,fun D0 w0=>qp fun ρ bl a w hs hag hr=>?_⟩;have hpm:∀ q∈parts.toList,q.2∈o.op.operands:=fun q hq=>by rw[hx];simp only[Op.operands];simp;exact⟨q.1,by simpa using hq⟩
    have hl:=Ww (bl':=bl) _ _ (fun q hq=>by
     obtain⟨q',hq',rfl⟩:=List.mem_map.1 hq;exact hag (by rw[hx];rfl) q'.2 (hpm q' hq')) hl
    obtain⟨d,i,zv,hd,hi,hz,hti⟩:=xj ht;have hfs:∃ fs,d = .struct fs:=by
     rw[hti]at h1;simp only[tiOf]at h1;cases d <;> first | exact⟨_,rfl⟩ | exact absurd rfl h1
    obtain⟨fs,rfl⟩:=hfs;have hoffs:ti.offs=fs.toList.map fun f=>if E.P.cellsOf f.type=0 then none else some (f.offset,E.P.cellsOf f.type):=by rw[hti];rfl
    have hne:∀ f∈fs.toList,E.P.cellsOf f.type≠0:=by
     intro f hf he;rw[hoffs,List.all_map,List.all_eq_true]at h2;have:=h2 f hf;simp[he]at this
    have hzero:ti.zero=zv.cells.toList.map wg:=by rw[hti];rfl
    have hp:∀(i off fsz:Nat),ti.offs[i]? = some (some (off,fsz))->((fs.toList.map fun f=>(f.offset,E.P.cellsOf f.type)).toArray)[i]? = some (off,fsz):=by
     intro i off fsz hj;rw[hoffs,List.getElem?_map]at hj;simp only[List.getElem?_toArray,List.getElem?_map];cases hf:fs.toList[i]? with
     | none=>rw[hf]at hj;simp at hj
     | some f =>
      rw[hf]at hj;have:=hne f (List.mem_of_getElem? hf);simp[this]at hj;simp[hj.1,hj.2]
    have hz0:CRels (Dof D0 ρ bl) w ρ ti.zero zv.cells.toList:=by
     rw[hzero];exact CRels.of _ _ (by simp) fun j x v h1 h2=>by
      rw[List.getElem?_map,h2]at h1;simp at h1;subst h1;exact VW _ _ _ v
    obtain⟨cells',e1,e2⟩:=fill_rel hs hp (g:=σ.ev) (e:=a.eval) parts.toList ti.zero l zv.cells hl (fun q hq=>hr q.2 (by rw[hx];simp only[Op.operands];simp;exact⟨q.1,by simpa using hq⟩)) hz0;refine⟨.agg cells',?_,⟨cells',rfl,e2⟩⟩;have hpl:=run_places (P:=E.P) fs hne w;have hzv:(zeroValue T).run E.P w = .ok zv w:=by simp[zeroValue,typeInfo,hi,hz]
    have hex:execOp a.eval o=(do let y <- Instr.build T (parts.map fun(i,x)=>(i,a.eval x));pure (.value y)):=by unfold execOp;rw[hx]
    rw[hex];have hb:(Instr.build T (parts.map fun(i,x)=>(i,a.eval x))).run E.P w = .ok (.agg cells') w:=by
     unfold Instr.build;simp only[Sem.run_bind,hzv,Result.andThen,run_underlying hd,hpl];have:(parts.map fun(i,x)=>(i,a.eval x)).toList=parts.toList.map fun q=>(q.1,a.eval q.2):=by simp
     rw[this];simp only[e1];rfl
    simp[hb]
   ·exact h.elim
  ·exact h.elim
 case h_8 op T x y T2 hx =>
  split at h
  ·rename_i k a' k' b' h1 h2;obtain⟨hk,hbin⟩:=zp.1 h;obtain⟨c,hc,v,_,hv,hrun⟩:=intBin_sound hk hbin T x y (default:World) (P:=E.P);refine⟨_,hc,fun D0 w0=>qp fun ρ bl a w hs hag hr=>?_⟩;have e1:=hr x (by rw[hx];simp[Op.operands]);have e2:=hr y (by rw[hx];simp[Op.operands]);rw[h1]at e1;rw[h2]at e2;refine⟨v,?_,hv _ _ _⟩;have hex:execOp a.eval o=(do let z <- (do eqGuard op T x y (a.eval x) (a.eval y);binOp op T (a.eval x) (a.eval y):Sem Value);pure (.value z)):=by unfold execOp;rw[hx]
   rw[hex,show a.eval x = .int k a' from e1,show a.eval y = .int k' b' from e2];have:=hrun w;rw[Sem.run_bind,this];rfl
  ·rename_i a' b' h1 h2;split at h
   ·rename_i ti ht;have ht:=hE.ty _ _ ht;obtain⟨hk,h⟩:=zp.1 h;have hu:=under_kd1 ht (by simpa using hk);have run0:∀(d:Nat) (w:World),(Op.equalIn (d+1) T (.bool a') (.bool b')).run E.P w = .ok (a' == b') w:=fun d w=>by simp[Op.equalIn,run_underlying hu]
    have run:∀ w:World,(Op.equal T (.bool a') (.bool b')).run E.P w = .ok (a' == b') w:=run0 9999;have hev:∀(ρ:List Loc) (D:Nat->Prop) (a:Act) (w:World),(∀ x∈o.op.operands,VRel D w ρ (σ.ev x) (a.eval x))->a.eval x = .bool a'/\a.eval y = .bool b':=by
     intro ρ D a w hr;have e1:=hr x (by rw[hx];simp[Op.operands]);have e2:=hr y (by rw[hx];simp[Op.operands]);rw[h1]at e1;rw[h2]at e2;exact⟨e1,e2⟩
    unfold boolBin at h;split at h
    ·refine⟨_,h,fun D0 w0=>qp fun ρ bl a w hs hag hr=>?_⟩;obtain⟨e1,e2⟩:=hev _ _ _ _ hr;exact⟨.bool (a' == b'),by simp[execOp,hx,e1,e2,eqGuard,binOp,run],rfl⟩
    ·refine⟨_,h,fun D0 w0=>qp fun ρ bl a w hs hag hr=>?_⟩;obtain⟨e1,e2⟩:=hev _ _ _ _ hr;exact⟨.bool (!(a' == b')),by simp[execOp,hx,e1,e2,eqGuard,binOp,run],rfl⟩
    ·exact h.elim
   ·exact h.elim
  ·rename_i sz n f h1 h2;split at h
   ·rename_i ti ht;have ht:=hE.ty _ _ ht;obtain⟨hk,h0,h⟩:=zp.1 h;obtain⟨e,he⟩:=Option.isSome_iff_exists.1 hk;have hu:=z9 ht he;have run0:∀(d:Nat) (w:World) (b:Addr) (c:Nat),(Op.equalIn (d+1) T (.slice (some b) n c) (.slice none 0 0)).run E.P w = .ok false w:=fun d w b c=>by simp[Op.equalIn,run_underlying hu]
    have run:∀(w:World) (b:Addr) (c:Nat),(Op.equal T (.slice (some b) n c) (.slice none 0 0)).run E.P w = .ok false w:=run0 9999;have hev:∀(ρ:List Loc) (D:Nat->Prop) (a:Act) (w:World),(∀ x∈o.op.operands,VRel D w ρ (σ.ev x) (a.eval x))->∃ b c,a.eval x = .slice (some b) n c/\a.eval y = .slice none 0 0:=by
     intro ρ D a w hr;have e1:=hr x (by rw[hx];simp[Op.operands]);have e2:=hr y (by rw[hx];simp[Op.operands]);rw[h1]at e1;rw[h2]at e2;obtain⟨A,c,q1,_,q2⟩:=e1;obtain⟨b,o',rfl,_⟩:=q2 h0;exact⟨_,c,q1,e2⟩
    unfold nilBin at h;split at h
    ·refine⟨_,h,fun D0 w0=>qp fun ρ bl a w hs hag hr=>?_⟩;obtain⟨b,c,e1,e2⟩:=hev _ _ _ _ hr;exact⟨.bool false,by simp[execOp,hx,e1,e2,eqGuard,binOp,run],rfl⟩
    ·refine⟨_,h,fun D0 w0=>qp fun ρ bl a w hs hag hr=>?_⟩;obtain⟨b,c,e1,e2⟩:=hev _ _ _ _ hr;exact⟨.bool true,by simp[execOp,hx,e1,e2,eqGuard,binOp,run],rfl⟩
    ·exact h.elim
   ·exact h.elim
  ·exact h.elim
 case h_9 op T x hx =>
  split at h
  ·rename_i b h1;refine⟨_,h,fun D0 w0=>qp fun ρ bl a w hs hag hr=>?_⟩;have e1:=hr x (by rw[hx];simp[Op.operands]);rw[h1]at e1;exact⟨.bool (!b),by simp[execOp,hx,show a.eval x = .bool b from e1,Op.unary],rfl⟩
  ·rename_i k n h1;refine⟨_,h,fun D0 w0=>qp fun ρ bl a w hs hag hr=>?_⟩;have e1:=hr x (by rw[hx];simp[Op.operands]);rw[h1]at e1;exact⟨.int k (k.wrap (-n)),by simp[execOp,hx,show a.eval x = .int k n from e1,Op.unary,Op.intArith],rfl⟩
  ·rename_i k n h1;refine⟨_,h,fun D0 w0=>qp fun ρ bl a w hs hag hr=>?_⟩;have e1:=hr x (by rw[hx];simp[Op.operands]);rw[h1]at e1;exact⟨.int k (k.wrap (BitVec.ofInt k.bits (if k.signed then -1 else k.max) ^^^ BitVec.ofInt k.bits n).toNat),by simp[execOp,hx,show a.eval x = .int k n from e1,Op.unary,Op.intBits],rfl⟩
  ·exact h.elim
 case h_10 S T x hx =>
  split at h
  ·rename_i ts ti kk n hts hti h1;split at h
   ·rename_i k1 k h2 h3;have hts:=hE.ty _ _ hts;have hti:=hE.ty _ _ hti;refine⟨_,h,fun D0 w0=>qp fun ρ bl a w hs hag hr=>?_⟩;have e1:=hr x (by rw[hx];simp[Op.operands]);rw[h1]at e1;exact⟨.int k (k.wrap n),by simp[execOp,hx,show a.eval x = .int kk n from e1,convert,run_underlying (under_ik hts h2),run_underlying (under_ik hti h3),Conv.intToInt],rfl⟩
   ·exact h.elim
  ·exact h.elim
 case h_11 x i hx =>
  split at h
  ·rename_i v hv;refine⟨_,h,fun D0 w0=>qp fun ρ bl a w hs hag hr=>?_⟩;have e1:=hr x (by rw[hx];simp[Op.operands]);cases hq:σ.ev x with
   | c y=>rw[hq]at hv;simp[xZ]at hv
   | g l=>rw[hq]at hv;simp[xZ]at hv
   | un=>rw[hq]at hv;simp[xZ]at hv
   | t2 p q =>
    rw[hq]at hv e1;obtain⟨y,z,e2,e3,e4⟩:=e1;match i,hv with
    | 0,hv=>simp[xZ]at hv;subst hv;exact⟨y,by simp[execOp,hx,e2,Instr.extract],e3⟩
    | 1,hv=>simp[xZ]at hv;subst hv;exact⟨z,by simp[execOp,hx,e2,Instr.extract],e4⟩
    | _+2,hv=>simp[xZ]at hv
   | t3 p q s =>
    rw[hq]at hv e1;obtain⟨y,z,u,e2,e3,e4,e5⟩:=e1;match i,hv with
    | 0,hv=>simp[xZ]at hv;subst hv;exact⟨y,by simp[execOp,hx,e2,Instr.extract],e3⟩
    | 1,hv=>simp[xZ]at hv;subst hv;exact⟨z,by simp[execOp,hx,e2,Instr.extract],e4⟩
    | 2,hv=>simp[xZ]at hv;subst hv;exact⟨u,by simp[execOp,hx,e2,Instr.extract],e5⟩
    | _+3,hv=>simp[xZ]at hv
   | t4 p q s t =>
    rw[hq]at hv e1;obtain⟨y,z,u,t',e2,e3,e4,e5,e6⟩:=e1;match i,hv with
    | 0,hv=>simp[xZ]at hv;subst hv;exact⟨y,by simp[execOp,hx,e2,Instr.extract],e3⟩
    | 1,hv=>simp[xZ]at hv;subst hv;exact⟨z,by simp[execOp,hx,e2,Instr.extract],e4⟩
    | 2,hv=>simp[xZ]at hv;subst hv;exact⟨u,by simp[execOp,hx,e2,Instr.extract],e5⟩
    | 3,hv=>simp[xZ]at hv;subst hv;exact⟨t',by simp[execOp,hx,e2,Instr.extract],e6⟩
    | _+4,hv=>simp[xZ]at hv
  ·exact h.elim
 case h_13 args argTypes hx =>
  split at h
  ·rename_i x T h1 h2;split at h
   ·rename_i ti n ht hn;have ht:=hE.ty _ _ ht;obtain⟨g0,h⟩:=zp.1 h;refine⟨_,h,fun D0 w0=>qp fun ρ bl a w hs hag hr=>?_⟩;have e1:=hr x (x5 hx (by simp[h1]));have hn:=lenA_congr (hag (by rw[hx];rfl) x (x5 hx (by simp[h1]))) hn;obtain⟨A,c,e2,e3⟩:=len_rel hs hn e1;obtain⟨e,he⟩:=Option.isSome_iff_exists.1 g0;refine⟨.int .i64 n,?_,rfl⟩;have ha:args=#[x]:=by rw[<- Array.toList_inj];simpa using h1
    have hT:argTypes=#[T]:=by rw[<- Array.toList_inj];simpa using h2
    simp[execOp,hx,resolve,invoke,builtin,Builtin.len_,ha,hT,e2,run_underlying (z9 ht he),goInt]
   ·rename_i ti ht hn;have ht:=hE.ty _ _ ht;split at h
    ·rename_i n hs;obtain⟨g0,h⟩:=zp.1 h;refine⟨_,h,fun D0 w0=>qp fun ρ bl a w _ hag hr=>?_⟩;have e1:=hr x (x5 hx (by simp[h1]));unfold strA at hs;split at hs
     ·rename_i s hv;cases hs;rw[hv]at e1;have e2:a.eval x = .string s:=e1;refine⟨.int .i64 s.size,?_,rfl⟩;have ha:args=#[x]:=by rw[<- Array.toList_inj];simpa using h1
      have hT:argTypes=#[T]:=by rw[<- Array.toList_inj];simpa using h2
      simp[execOp,hx,resolve,invoke,builtin,Builtin.len_,ha,hT,e2,run_underlying (under_kd2 ht (by simpa using g0)),goInt]
     ·cases hs
    ·exact h.elim
   ·exact h.elim
  ·exact h.elim
 case h_14 args ts hx =>
  split at h
  ·rename_i k a' k' b' h1;refine⟨_,h,fun D0 w0=>qp fun ρ bl a w hs hag hr=>?_⟩;obtain⟨x,y,ha,hx1,hy1⟩:∃ x y,args.toList=[x,y]/\σ.ev x = .c (.int k a')/\σ.ev y = .c (.int k' b'):=by
    match hh:args.toList,h1 with
    | [x,y],h1=>simp at h1;exact⟨x,y,rfl,h1.1,h1.2⟩
    | [],h1=>simp at h1
    | [_],h1=>simp at h1
    | _ :: _ :: _ :: _,h1=>simp at h1
   have e1:=hr x (x5 hx (by simp[ha]));have e2:=hr y (x5 hx (by simp[ha]));rw[hx1]at e1;rw[hy1]at e2;refine⟨.int k (if b' > a' then b' else a'),?_,rfl⟩;have ha':args=#[x,y]:=by rw[<- Array.toList_inj];simpa using ha
   simp[execOp,hx,resolve,invoke,builtin,Builtin.max_,Builtin.max2,ha',show a.eval x = .int k a' from e1,show a.eval y = .int k' b' from e2]
  ·rename_i k a' k' b' k2 c' h1;refine⟨_,h,fun D0 w0=>qp fun ρ bl a w hs hag hr=>?_⟩;obtain⟨x,y,z,ha,hx1,hy1,hz1⟩:∃ x y z,args.toList=[x,y,z]/\σ.ev x = .c (.int k a')/\σ.ev y = .c (.int k' b')/\σ.ev z = .c (.int k2 c'):=by
    match hh:args.toList,h1 with
    | [x,y,z],h1=>simp at h1;exact⟨x,y,z,rfl,h1.1,h1.2.1,h1.2.2⟩
    | [],h1=>simp at h1
    | [_],h1=>simp at h1
    | [_,_],h1=>simp at h1
    | _ :: _ :: _ :: _ :: _,h1=>simp at h1
   have e1:=hr x (x5 hx (by simp[ha]));have e2:=hr y (x5 hx (by simp[ha]));have e3:=hr z (x5 hx (by simp[ha]));rw[hx1]at e1;rw[hy1]at e2;rw[hz1]at e3;refine⟨.int k (if c' > (if b' > a' then b' else a')then c' else(if b' > a' then b' else a')),?_,rfl⟩;have ha':args=#[x,y,z]:=by rw[<- Array.toList_inj];simpa using ha
   simp[execOp,hx,resolve,invoke,builtin,Builtin.max_,Builtin.max2,ha',show a.eval x = .int k a' from e1,show a.eval y = .int k' b' from e2,show a.eval z = .int k2 c' from e3]
  ·exact h.elim
 case h_15 args ts hx =>
  split at h
  ·rename_i k a' k' b' h1;refine⟨_,h,fun D0 w0=>qp fun ρ bl a w hs hag hr=>?_⟩;obtain⟨x,y,ha,hx1,hy1⟩:∃ x y,args.toList=[x,y]/\σ.ev x = .c (.int k a')/\σ.ev y = .c (.int k' b'):=by
    match hh:args.toList,h1 with
    | [x,y],h1=>simp at h1;exact⟨x,y,rfl,h1.1,h1.2⟩
    | [],h1=>simp at h1
    | [_],h1=>simp at h1
    | _ :: _ :: _ :: _,h1=>simp at h1
   have e1:=hr x (x5 hx (by simp[ha]));have e2:=hr y (x5 hx (by simp[ha]));rw[hx1]at e1;rw[hy1]at e2;refine⟨.int k (if b'<a' then b' else a'),?_,rfl⟩;have ha':args=#[x,y]:=by rw[<- Array.toList_inj];simpa using ha
   simp[execOp,hx,resolve,invoke,builtin,Builtin.min_,Builtin.min2,ha',show a.eval x = .int k a' from e1,show a.eval y = .int k' b' from e2]
  ·exact h.elim
 case h_16 g args ts hx =>
  split at h
  ·rename_i f hf;obtain⟨hcl,X,⟨hb,hok⟩,hK⟩:=zp.1 h;refine⟨X,hK,fun D0 w0 ρ bl a w hs hag hr next Q hn=>?_⟩;have hg:=V8 hf (hr g (by rw[hx];simp[Op.operands,Call.operands]));unfold Oper.wp;rw[WP hx hg hb,Oper.upon_enter];have hcl2:(args.toList.map fun x=>St.close bl (σ.ev x))=args.toList.map fun x=>St.close σ.bl (σ.ev x):=List.map_congr_left fun x hxm=>y8 (hag (by rw[hx];rfl) x (x5 hx hxm)) (List.all_eq_true.1 hcl _ (List.mem_map_of_mem hxm));have hvs:VRels (Dof D0 ρ bl) w [] (args.toList.map fun x=>St.close σ.bl (σ.ev x)) (args.toList.map a.eval):=by
    rw[<- hcl2]at hcl ⊢
    exact
    (VRels.map args.toList fun x hxm=>wP hs (hr x (x5 hx hxm))).clos hcl
   have:=hok (Dof D0 ρ bl) w _ (fun b hb=>hs.lt hb) (fun hr b o d hD=>hs.noU hr b o d hD) hvs;rw[show(args.toList.map a.eval).toArray=args.map a.eval by rw[<- Array.toList_map,Array.toArray_toList]]at this;refine this.mono ?_;rintro e w' ⟨v,rfl,hv,hb⟩;exact hn v w' hb hv.nil_rho
  ·split at h
   ·rename_i f cs hf;obtain⟨hcl,X,⟨hb,hok⟩,hK⟩:=zp.1 h;refine⟨X,hK,fun D0 w0 ρ bl a w hs hag hr next Q hn=>?_⟩;have hgm:g∈o.op.operands:=by rw[hx];simp[Op.operands,Call.operands]
    obtain⟨⟨n,c,hev,hcs⟩,caps,hg,hcaps⟩:=caps_eval hf (hr g hgm);unfold Oper.wp;rw[exec_callc hx hg hb,Oper.upon_enter];rw[List.all_append,Bool.and_eq_true]at hcl;obtain⟨hcla,hclc⟩:=hcl;have hcl2:(args.toList.map fun x=>St.close bl (σ.ev x))=args.toList.map fun x=>St.close σ.bl (σ.ev x):=List.map_congr_left fun x hxm=>y8 (hag (by rw[hx];rfl) x (x5 hx hxm)) (List.all_eq_true.1 hcla _ (List.mem_map_of_mem hxm));have hcc:cs.map (St.closeC bl)=cs.map (St.closeC σ.bl):=List.map_congr_left fun y hy=>vQ (fun k u hm=>hag (by rw[hx];rfl) g hgm k u (by
     rw[hev];rw[hcs]at hy;obtain⟨j,hj,rfl⟩:=List.mem_map.1 hy;exact⟨j,List.mem_range.1 hj,hm⟩)) (List.all_eq_true.1 hclc _ (List.mem_map_of_mem hy))
    have hvs:VRels (Dof D0 ρ bl) w [] (args.toList.map fun x=>St.close σ.bl (σ.ev x)) (args.toList.map a.eval):=by
     rw[<- hcl2]at hcla ⊢
     exact(VRels.map args.toList fun x hxm=>wP hs (hr x (x5 hx hxm))).clos hcla
    have hvc:VRels (Dof D0 ρ bl) w [] (cs.map fun c=>V.c (St.closeC σ.bl c)) caps.toList:=by
     have h1:=gX hs hcaps;rw[hcc]at h1;have h2:(cs.map (St.closeC σ.bl)).all Cell.clos=true:=by
      rw[List.all_eq_true]at hclc ⊢
      intro y hy;obtain⟨z,hz,rfl⟩:=List.mem_map.1 hy;exact hclc _ (List.mem_map_of_mem hz)
     exact VRels.cells (h1.clos h2)
    have hvv:=hvs.append hvc;have:=hok (Dof D0 ρ bl) w _ (fun b hb=>hs.lt hb) (fun hr b o d hD=>hs.noU hr b o d hD) hvv;rw[show(args.toList.map a.eval++caps.toList).toArray=args.map a.eval++caps by
     rw[<- Array.toList_map,<- Array.toList_append,Array.toArray_toList]]at this
    refine this.mono ?_;rintro e w' ⟨v,rfl,hv,hb⟩;exact hn v w' hb hv.nil_rho
   ·exact h.elim
 case h_12 T x lo hi hx =>
  split at h
  ·rename_i ti ht;split at h
   ·rename_i e he;split at h
    ·rename_i te hte;have ht:=hE.ty _ _ ht;have hte:=hE.ty _ _ hte;obtain⟨hsz,h⟩:=zp.1 h;have hsz:szA σ.bl (σ.ev x)=some te.size:=by
      split at hsz
      ·rename_i z hz;rw[hz];simpa using hsz
      ·cases hsz
     have hu:=z9 ht he;unfold sliceA at h;split at h
     ·rename_i l' h' hl hh;obtain⟨h0,h1,h⟩:=h;have mlo:∀ y,lo=some y->y∈o.op.operands:=fun y hy=>by rw[hx];simp[Op.operands,hy]
      have mhi:∀ y,hi=some y->y∈o.op.operands:=fun y hy=>by rw[hx];simp[Op.operands,hy]
      have mx:x∈o.op.operands:=by rw[hx];simp[Op.operands]
      have hex:∀ a:Act,execOp a.eval o=(do let z <- Instr.sliceAt T (a.eval x) (lo.map a.eval) (hi.map a.eval) none;pure (.value z)):=by
       intro a;unfold execOp;rw[hx];rfl
      have key:∀(D0:Nat->Prop) (w0:Base) (ρ:List Loc) (bl:List Blk) (a:Act) (w:World) (A:Option Addr) (n c:Nat),(∀ x∈o.op.operands,VRel (Dof D0 ρ bl) w ρ (σ.ev x) (a.eval x))->a.eval x = .slice A n c->vv σ.bl (σ.ev x)=some n->h'.toNat<=n->n<=c ->
        (execOp a.eval o).run E.P w = .ok (.value (.slice (if c=l'.toNat then A else A.map (·.add (l'.toNat*te.size))) (h'.toNat-l'.toNat) (c-l'.toNat))) w:=by
       intro D0 w0 ρ bl a w A n c hr hev hn hle hnc;have b1:=slice_bounds (a:=a) hl h0 (fun y hy=>hr y (mlo y hy));have b2:=slice_boundh (a:=a) (n0:=n) (fun z hz=>by rw[hn]at hz;simp at hz;omega) hh (by omega) (fun y hy=>hr y (mhi y hy));rw[hex,hev];have:=run_slice (P:=E.P) hu hte (A:=A) (n:=n) (c:=c) b1 b2 (by omega) (by omega) w;rw[Sem.run_bind,this];rfl
      split at h
      ·rename_i sz n f hv;obtain⟨g1,g2⟩:=h;have hte':sz=te.size:=by rw[hv]at hsz;simpa [szA] using hsz
       refine⟨_,g2,fun D0 w0=>qp fun ρ bl a w hs hag hr=>?_⟩;have hr':=hr x mx;rw[hv]at hr';obtain⟨A,c,e1,e2,e4⟩:=hr';refine⟨_,key D0 w0 ρ bl a w A n c hr e1 (by rw[hv];rfl) (by omega) e2,⟨_,_,by rw[show(h'-l').toNat=h'.toNat-l'.toNat by omega],by omega,fun hn=>?_⟩⟩;obtain⟨b,o',hA,e5,e6,e7⟩:=e4 (by omega);refine⟨b,o'+l'.toNat*te.size,slice_val (n:=n) (h:=h'.toNat) (fun _=>hA) (by omega) (by omega) e2 (by omega),e5,e6,fun i j hi hj=>?_⟩;obtain⟨y,hy,hyr⟩:=e7 (l'.toNat+i) j (by omega) hj;exact⟨y,by rw[<- hy,hte',Nat.add_mul];congr 2;omega,hyr⟩
      ·rename_i k u hv;split at h
       ·rename_i B hB;obtain⟨g0,h⟩:=zp.1 h;simp only[Bool.and_eq_true,beq_iff_eq,Nat.ble_eq]at g0;obtain⟨g1,g2⟩:=g0;obtain⟨g3,g4⟩:=h;have hte':B.sz=te.size:=by rw[hv]at hsz;simpa [szA,hB] using hsz
        refine⟨_,g4,fun D0 w0=>qp fun ρ bl a w hs hag hr=>?_⟩;have hln0:vv σ.bl (σ.ev x)=some B.n:=by rw[hv];simp[vv,hB,g1,g2]
        have hB:=hag (by rw[hx];rfl) x mx k u (by rw[hv];exact⟨rfl,rfl⟩) B hB (by omega) (by omega);have hr':=hr x mx;rw[hv]at hr';have hln:vv bl (σ.ev x)=some B.n:=by rw[hv];simp[vv,hB,g1,g2]
        obtain⟨A,c,e1,e2⟩:=len_rel hs (hv ▸ hln) hr';obtain⟨l,hlk,hlu,hp⟩:=hr';have hln2:=loc_n hs hlk hB g2;obtain⟨q0,q1⟩:=hs.at_ k l B hlk hB g2;refine⟨_,key D0 w0 ρ bl a w A B.n c hr e1 hln0 (by omega) e2,⟨l,hlk,hlu,fun _=>⟨by omega,_,_,by rw[show(h'-l').toNat=h'.toNat-l'.toNat by omega],by omega,fun hn=>?_⟩⟩⟩;have hp':=hp (by omega);rcases q1 with⟨q1,_,_⟩ | ⟨b,cap,cs,q1,q2,q3,_⟩
        ·omega
        ·rw[q3,e1]at hp';injection hp' with z1 z2 z3;refine⟨b,q1,?_⟩;have:=slice_val (n:=B.n) (h:=h'.toNat) (c:=c) (sz:=te.size) (l:=l'.toNat) (fun _=>z1) (by omega) (by omega) e2 (by omega);rw[Nat.zero_add]at this;rw[hte'];exact this
       ·exact h.elim
      ·rename_i k u sz o' n hv;split at h
       ·rename_i B hB;obtain⟨g0,h⟩:=zp.1 h;simp only[Bool.and_eq_true,beq_iff_eq,Nat.ble_eq]at g0;obtain⟨g1,g2⟩:=g0;obtain⟨g3,g4⟩:=h;have hte':sz=te.size:=by rw[hv]at hsz;simpa [szA] using hsz
        refine⟨_,g4,fun D0 w0=>qp fun ρ bl a w hs hag hr=>?_⟩;have hln0:vv σ.bl (σ.ev x)=some n:=by rw[hv];simp[vv,hB,g1,g2]
        have hB:=hag (by rw[hx];rfl) x mx k u (by rw[hv];exact⟨rfl,rfl⟩) B hB (by omega) (by omega);have hr':=hr x mx;rw[hv]at hr';obtain⟨l,hlk,hlu,hp⟩:=hr';have hlu':=loc_u hs hlk hB g2;obtain⟨hon,A,c,e1,e2,e4⟩:=hp (by omega);refine⟨_,key D0 w0 ρ bl a w A n c hr e1 hln0 (by omega) e2,⟨l,hlk,hlu,fun _=>⟨by omega,_,_,by rw[show(h'-l').toNat=h'.toNat-l'.toNat by omega],by omega,fun hn=>?_⟩⟩⟩;obtain⟨b,q1,q2⟩:=e4 (by omega);refine⟨b,q1,?_⟩;have:=slice_val (n:=n) (h:=h'.toNat) (c:=c) (sz:=te.size) (l:=l'.toNat) (fun _=>q2) (by omega) (by omega) e2 (by omega);rw[this,hte',Nat.add_mul]
       ·exact h.elim
      ·exact h.elim
     ·exact h.elim
    ·exact h.elim
   ·exact h.elim
  ·exact h.elim
 case h_17 T s ix hx =>
  split at h
  ·rename_i ti kk n ht h1;have ht:=hE.ty _ _ ht;obtain⟨hk,h0,h⟩:=zp.1 h;have hu:=under_kd2 ht (by simpa using hk);split at h
   ·rename_i b hb;refine⟨_,h,fun D0 w0=>qp fun ρ bl a w hs hag hr=>?_⟩;have e1:=hr ix (by rw[hx];simp[Op.operands]);rw[h1]at e1;have e1:a.eval ix = .int kk n:=e1;have ec:a.eval (.const (.string s)) = .string s:=rfl;exact⟨.int .u8 (b.toNat:Int),by simp[execOp,hx,e1,ec,Instr.index,asIntOf,run_underlying hu,h0,hb],rfl⟩
   ·exact h.elim
  ·exact h.elim
 case h_18 f first captured hx =>
  obtain⟨hk,h⟩:=zp.1 h;refine⟨_,h,fun D0 w0=>qp fun ρ bl a w hs hag hr=>?_⟩;have hf:first=#[]:=by simpa using hk
  refine⟨.func (.func f) #[] (captured.map a.eval),by simp[execOp,hx,Instr.makeFunc,hf],captured.map a.eval,rfl,by simp,fun j hj=>?_⟩;refine⟨a.eval captured[j],by simp[hj],?_⟩;have hc:captured.toList[j]? = some captured[j]:=by simp[hj]
  unfold capC;rw[hc];simp only;have:=hr captured[j] (by rw[hx];simp[Op.operands,hf]);split
  ·rename_i c hcv;rw[hcv]at this;exact this
  ·trivial
 case h_19 T x fld hx =>
  split at h
  ·rename_i ti ht;have ht:=hE.ty _ _ ht;split at h
   ·rename_i off fsz l ho hv;split at h
    ·rename_i c hc;obtain⟨hk,h⟩:=zp.1 h;obtain⟨fs,f,hu,hf,hof,hp⟩:=under_kd3 ht (by simpa using hk) ho;refine⟨_,h,fun D0 w0=>qp fun ρ bl a w hs hag hr=>?_⟩;have e1:=hr x (by rw[hx];simp[Op.operands]);rw[hv]at e1;obtain⟨vs,e2,e3⟩:=e1;obtain⟨y,hy,hyr⟩:=CRels.get e3 _ _ hc;have hy':vs[off]? = some y:=by simpa using hy
     exact⟨y,by simp[execOp,hx,e2,Instr.field,asAgg,part,run_underlying hu,hf,run_plain hp,hof,hy'],hyr⟩
    ·exact h.elim
   ·exact h.elim
  ·exact h.elim
 case h_20 x hx =>
  split at h
  ·rename_i k u sz i o' hv;split at h
   ·rename_i B hB;obtain⟨g0,g3⟩:=zp.1 h;simp only[Bool.and_eq_true,beq_iff_eq,Nat.ble_eq]at g0;obtain⟨g1,g2⟩:=g0;refine⟨_,g3,fun D0 w0=>qp fun ρ bl a w hs hag hr=>?_⟩;have hB:=hag (by rw[hx];rfl) x (by rw[hx];simp[Op.operands]) k u (by rw[hv];exact⟨rfl,rfl⟩) B hB (by omega) (by omega);have hr':=hr x (by rw[hx];simp[Op.operands]);rw[hv]at hr';obtain⟨l,hl,hu,hp⟩:=hr';have hlu:=loc_u hs hl hB g2;obtain⟨hil,b,e1,e2⟩:=hp (by omega);exact⟨.pointer (some ⟨b,i*sz+o',none⟩),by simp[execOp,hx,e2],⟨l,hl,hu,fun _=>⟨hil,b,e1,rfl⟩⟩⟩
   ·exact h.elim
  ·rename_i m f hv;refine⟨_,h,fun D0 w0=>qp fun ρ bl a w hs hag hr=>?_⟩;have hr':=hr x (by rw[hx];simp[Op.operands]);rw[hv]at hr';obtain⟨b,o',e1,e2,e3,e4⟩:=hr';exact⟨.pointer (some ⟨b,o',none⟩),by simp[execOp,hx,e1],⟨b,o',rfl,e2,e3,e4⟩⟩
  ·exact h.elim
 case h_21=>exact h.elim
end Go.Proofs.YtkmbnldginonbaaGreat
