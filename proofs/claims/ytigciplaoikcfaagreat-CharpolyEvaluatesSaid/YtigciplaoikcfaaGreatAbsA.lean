/- Abstract values: what a value reads as in memory, in words that no step of a function which leaves old memory alone can turn. -/
import Derived.WalkKit
import Derived.Laws.OwnMore
import Derived.Lib.Hide
namespace Go.Proofs.YtigciplaoikcfaaGreat
open Go.RowKit
/-- What is known of a value of one cell. -/
inductive Cell where
  | any
  | bool (b : Bool)
  | int (k : IntKind) (n : Int)
  | nil
  | row (sz n : Nat) (f : Nat → Nat → Cell)
  | p (k u sz i o : Nat)
  | gs (k u : Nat)
  | sl (k u sz o n : Nat)
  | xp (m : Nat) (f : Nat → Cell)
  | fn (F : FuncId)
  | cl (F : FuncId) (m : Nat) (f : Nat → Cell)
  | str (s : ByteArray)
/-- Where a block of the call's own lies: its version, its number, the slice that is the whole of it. -/
structure Loc where
  u : Nat
  b : Option Nat
  n : Nat
  c : Nat
def Loc.v (l : Loc) : Value := .slice (l.b.map fun b => ⟨b, 0, none⟩) l.n l.c
def CRel (D : Nat → Prop) (w : World) : List Loc → Cell → Value → Prop
  | _, .any, _ => True
  | _, .bool b, v => v = .bool b
  | _, .int k n, v => v = .int k n
  | _, .nil, v => v = .slice none 0 0
  | _, .row sz n f, v => ∃ A c, v = .slice A n c ∧ n ≤ c ∧ (0 < n → ∃ b o, A = some ⟨b, o, none⟩ ∧ b < w.heap.size ∧ ¬ D b ∧
      ∀ i j, i < n → j < sz → ∃ u, w.cell? ⟨b, o + (i * sz + j), none⟩ = some u ∧ CRel D w [] (f i j) u)
  | ρ, .p k u sz i o, v => ∃ l, ρ[k]? = some l ∧ u ≤ l.u ∧ (l.u = u → i < l.n ∧ ∃ b, l.b = some b ∧ v = .pointer (some ⟨b, i * sz + o, none⟩))
  | ρ, .gs k u, v => ∃ l, ρ[k]? = some l ∧ u ≤ l.u ∧ (l.u = u → v = l.v)
  | ρ, .sl k u sz o n, v => ∃ l, ρ[k]? = some l ∧ u ≤ l.u ∧ (l.u = u → o + n ≤ l.n ∧ ∃ A c, v = .slice A n c ∧ n ≤ c ∧ (0 < n → ∃ b, l.b = some b ∧ A = some ⟨b, o * sz, none⟩))
  | _, .xp m f, v => ∃ b o, v = .pointer (some ⟨b, o, none⟩) ∧ b < w.heap.size ∧ ¬ D b ∧ ∀ j, j < m → ∃ u, w.cell? ⟨b, o + j, none⟩ = some u ∧ CRel D w [] (f j) u
  | _, .fn F, v => v = .func (.func F) #[] #[]
  | _, .str s, v => v = .string s
  | ρ, .cl F m f, v => ∃ caps : Array Value, v = .func (.func F) #[] caps ∧ caps.size = m ∧ ∀ j, j < m → ∃ u, caps[j]? = some u ∧ CRel D w ρ (f j) u
def CRels (D : Nat → Prop) (w : World) (ρ : List Loc) : List Cell → List Value → Prop
  | [], [] => True
  | c :: cs, v :: vs => CRel D w ρ c v ∧ CRels D w ρ cs vs
  | _, _ => False
/-- What is known of a value: one cell, a struct, two or three results. -/
inductive V where
  | c (x : Cell)
  | g (l : List Cell)
  | t2 (a b : V)
  | t3 (a b d : V)
  | t4 (a b d e : V)
def VRel (D : Nat → Prop) (w : World) (ρ : List Loc) : V → Value → Prop
  | .c x, v => CRel D w ρ x v
  | .g l, v => ∃ vs : Array Value, v = .agg vs ∧ CRels D w ρ l vs.toList
  | .t2 a b, v => ∃ x y, v = .tuple #[x, y] ∧ VRel D w ρ a x ∧ VRel D w ρ b y
  | .t3 a b d, v => ∃ x y z, v = .tuple #[x, y, z] ∧ VRel D w ρ a x ∧ VRel D w ρ b y ∧ VRel D w ρ d z
  | .t4 a b d e, v => ∃ x y z u, v = .tuple #[x, y, z, u] ∧ VRel D w ρ a x ∧ VRel D w ρ b y ∧ VRel D w ρ d z ∧ VRel D w ρ e u
/-- What stood, but for the blocks D, stands. -/
structure Ext (D : Nat → Prop) (w w' : World) : Prop where
  size : w.heap.size ≤ w'.heap.size
  block : ∀ b, b < w.heap.size → ¬ D b → w'.heap[b]? = w.heap[b]?
theorem Ext.cell {D : Nat → Prop} {w w' : World} (h : Ext D w w') {b o : Nat} (hb : b < w.heap.size) (hd : ¬ D b) : w'.cell? ⟨b, o, none⟩ = w.cell? ⟨b, o, none⟩ := by
  simp [World.cell?, h.block b hb hd]
theorem Ext.refl (D : Nat → Prop) (w : World) : Ext D w w := ⟨Nat.le_refl _, fun _ _ _ => rfl⟩
theorem Ext.trans {D D' : Nat → Prop} {a b c : World} (h : Ext D a b) (k : Ext D' b c) (hd : ∀ x, x < a.heap.size → D' x → D x) : Ext D a c :=
  ⟨Nat.le_trans h.size k.size, fun x hx hn => (k.block x (Nat.lt_of_lt_of_le hx h.size) (fun e => hn (hd x hx e))).trans (h.block x hx hn)⟩
theorem Ext.of_below {D : Nat → Prop} {w w' : World} (h : Below w.heap.size w w') : Ext D w w' := ⟨h.size, fun b hb _ => h.block b hb⟩
/-- Locations that only grow, each with its version. -/
def LocsLe (ρ ρ' : List Loc) : Prop := ∀ (k : Nat) (l : Loc), ρ[k]? = some l → ∃ l' : Loc, ρ'[k]? = some l' ∧ (l'.u = l.u → l' = l) ∧ l.u ≤ l'.u
/-- The one step law: other worlds, fewer closed blocks, more blocks of one's own. -/
theorem CRel.step {D D' : Nat → Prop} {w w' : World} (he : Ext D w w') (hd : ∀ b, b < w.heap.size → D' b → D b) :
    ∀ {c : Cell} {ρ ρ' : List Loc} {v : Value}, LocsLe ρ ρ' → CRel D w ρ c v → CRel D' w' ρ' c v
  | .any, _, _, _, _, _ => trivial
  | .bool _, _, _, _, _, h => h
  | .int _ _, _, _, _, _, h => h
  | .nil, _, _, _, _, h => h
  | .fn _, _, _, _, _, h => h
  | .str _, _, _, _, _, h => h
  | .cl F m f, _, _, _, hρ, h => by
    obtain ⟨caps, rfl, h1, h2⟩ := h
    refine ⟨caps, rfl, h1, fun j hj => ?_⟩
    obtain ⟨u, hu, hr⟩ := h2 j hj
    exact ⟨u, hu, CRel.step he hd hρ hr⟩
  | .row sz n f, _, _, _, _, h => by
    obtain ⟨A, c, rfl, h1, h3⟩ := h
    refine ⟨A, c, rfl, h1, fun hn => ?_⟩
    obtain ⟨b, o, hA, hb, hD, hc⟩ := h3 hn
    refine ⟨b, o, hA, Nat.lt_of_lt_of_le hb he.size, fun x => hD (hd b hb x), fun i j hi hj => ?_⟩
    obtain ⟨u, hu, hr⟩ := hc i j hi hj
    exact ⟨u, (he.cell hb hD).trans hu, CRel.step he hd (fun k l hk => by simp at hk) hr⟩
  | .xp m f, _, _, _, _, h => by
    obtain ⟨b, o, rfl, hb, hD, hc⟩ := h
    refine ⟨b, o, rfl, Nat.lt_of_lt_of_le hb he.size, fun x => hD (hd b hb x), fun j hj => ?_⟩
    obtain ⟨u, hu, hr⟩ := hc j hj
    exact ⟨u, (he.cell hb hD).trans hu, CRel.step he hd (fun k l hk => by simp at hk) hr⟩
  | .p k u sz i o, _, _, _, hρ, h => by
    obtain ⟨l, hl, h0, h1⟩ := h
    obtain ⟨l', hl', h2, h3⟩ := hρ k l hl
    refine ⟨l', hl', by omega, fun e => ?_⟩
    rw [h2 (by omega)]; exact h1 (by omega)
  | .gs k u, _, _, _, hρ, h => by
    obtain ⟨l, hl, h0, h1⟩ := h
    obtain ⟨l', hl', h2, h3⟩ := hρ k l hl
    refine ⟨l', hl', by omega, fun e => ?_⟩
    rw [h2 (by omega)]; exact h1 (by omega)
  | .sl k u sz o n, _, _, _, hρ, h => by
    obtain ⟨l, hl, h0, h1⟩ := h
    obtain ⟨l', hl', h2, h3⟩ := hρ k l hl
    refine ⟨l', hl', by omega, fun e => ?_⟩
    rw [h2 (by omega)]; exact h1 (by omega)
theorem LocsLe.refl (ρ : List Loc) : LocsLe ρ ρ := fun _ l h => ⟨l, h, fun _ => rfl, Nat.le_refl _⟩
theorem LocsLe.trans {a b c : List Loc} (h : LocsLe a b) (k : LocsLe b c) : LocsLe a c := fun i l hl => by
  obtain ⟨l1, h1, h2, h3⟩ := h i l hl
  obtain ⟨l2, h4, h5, h6⟩ := k i l1 h1
  refine ⟨l2, h4, fun e => ?_, Nat.le_trans h3 h6⟩
  have e1 := h2 (by omega)
  rw [h5 (by omega), e1]
theorem LocsLe.take {a b : List Loc} {m : Nat} (h : LocsLe a b) (hm : a.length ≤ m) : LocsLe a (b.take m) := fun i l hl => by
  obtain ⟨l1, h1, h2⟩ := h i l hl
  exact ⟨l1, by rw [List.getElem?_take_of_lt (Nat.lt_of_lt_of_le (List.getElem?_eq_some_iff.1 hl).1 hm)]; exact h1, h2⟩
theorem LocsLe.append (ρ : List Loc) (l : Loc) : LocsLe ρ (ρ ++ [l]) := fun k l' h => ⟨l', by
  rw [List.getElem?_append_left (List.getElem?_eq_some_iff.1 h).1]; exact h, fun _ => rfl, Nat.le_refl _⟩
theorem CRels.step {D D' : Nat → Prop} {w w' : World} {ρ ρ' : List Loc} (he : Ext D w w') (hd : ∀ b, b < w.heap.size → D' b → D b) (hρ : LocsLe ρ ρ') :
    ∀ {l : List Cell} {vs : List Value}, CRels D w ρ l vs → CRels D' w' ρ' l vs
  | [], [], _ => trivial
  | _ :: _, _ :: _, h => ⟨h.1.step he hd hρ, CRels.step he hd hρ h.2⟩
  | [], _ :: _, h => h.elim
  | _ :: _, [], h => h.elim
theorem VRel.step {D D' : Nat → Prop} {w w' : World} {ρ ρ' : List Loc} (he : Ext D w w') (hd : ∀ b, b < w.heap.size → D' b → D b) (hρ : LocsLe ρ ρ') :
    ∀ {x : V} {v : Value}, VRel D w ρ x v → VRel D' w' ρ' x v
  | .c _, _, h => CRel.step he hd hρ h
  | .g _, _, h => by obtain ⟨vs, h1, h2⟩ := h; exact ⟨vs, h1, h2.step he hd hρ⟩
  | .t2 _ _, _, h => by obtain ⟨x, y, h1, h2, h3⟩ := h; exact ⟨x, y, h1, h2.step he hd hρ, h3.step he hd hρ⟩
  | .t3 _ _ _, _, h => by obtain ⟨x, y, z, h1, h2, h3, h4⟩ := h; exact ⟨x, y, z, h1, h2.step he hd hρ, h3.step he hd hρ, h4.step he hd hρ⟩
  | .t4 _ _ _ _, _, h => by obtain ⟨x, y, z, u, h1, h2, h3, h4, h5⟩ := h; exact ⟨x, y, z, u, h1, h2.step he hd hρ, h3.step he hd hρ, h4.step he hd hρ, h5.step he hd hρ⟩
theorem CRels.length {D : Nat → Prop} {w : World} {ρ : List Loc} : ∀ {l : List Cell} {vs : List Value}, CRels D w ρ l vs → l.length = vs.length
  | [], [], _ => rfl
  | _ :: _, _ :: _, h => by simp [CRels.length h.2]
  | [], _ :: _, h => h.elim
  | _ :: _, [], h => h.elim
theorem CRels.get {D : Nat → Prop} {w : World} {ρ : List Loc} : ∀ {l : List Cell} {vs : List Value}, CRels D w ρ l vs → ∀ (j : Nat) x, l[j]? = some x → ∃ v, vs[j]? = some v ∧ CRel D w ρ x v
  | [], [], _, _, _, hj => by simp at hj
  | _ :: _, v :: _, h, 0, x, hj => by simp at hj; subst hj; exact ⟨v, rfl, h.1⟩
  | _ :: _, _ :: _, h, j + 1, x, hj => by simp at hj ⊢; exact CRels.get h.2 j x hj
  | [], _ :: _, h, _, _, _ => h.elim
  | _ :: _, [], h, _, _, _ => h.elim
theorem CRels.of {D : Nat → Prop} {w : World} {ρ : List Loc} : ∀ (l : List Cell) (vs : List Value), l.length = vs.length → (∀ (j : Nat) x v, l[j]? = some x → vs[j]? = some v → CRel D w ρ x v) → CRels D w ρ l vs
  | [], [], _, _ => trivial
  | x :: l, v :: vs, hl, h => ⟨h 0 x v rfl rfl, CRels.of l vs (by simpa using hl) fun j y u h1 h2 => h (j + 1) y u (by simpa using h1) (by simpa using h2)⟩
  | [], _ :: _, hl, _ => by simp at hl
  | _ :: _, [], hl, _ => by simp at hl
/-- A constant. -/
def cellOf : Value → Cell
  | .bool b => .bool b
  | .int k n => .int k n
  | .slice none 0 0 => .nil
  | .string s => .str s
  | _ => .any
theorem cellOf_rel (D : Nat → Prop) (w : World) (ρ : List Loc) (v : Value) : CRel D w ρ (cellOf v) v := by
  unfold cellOf
  split <;> first | rfl | trivial
/-- A cell without a word of blocks of one's own. -/
def Cell.clos : Cell → Bool
  | .p .. | .gs .. | .sl .. => false
  | .cl _ m f => (List.range m).all fun j => (f j).clos
  | _ => true
theorem CRel.clos {D : Nat → Prop} {w : World} {ρ ρ' : List Loc} : ∀ {c : Cell} {v : Value} (_ : CRel D w ρ c v) (_ : c.clos = true), CRel D w ρ' c v
  | .any, _, _, _ => trivial
  | .bool _, _, h, _ => h
  | .int _ _, _, h, _ => h
  | .nil, _, h, _ => h
  | .fn _, _, h, _ => h
  | .str _, _, h, _ => h
  | .row .., _, h, _ => h
  | .xp .., _, h, _ => h
  | .cl F m f, _, h, hc => by
    obtain ⟨caps, rfl, h1, h2⟩ := h
    simp only [Cell.clos, List.all_eq_true, List.mem_range] at hc
    refine ⟨caps, rfl, h1, fun j hj => ?_⟩
    obtain ⟨u, hu, hr⟩ := h2 j hj
    exact ⟨u, hu, CRel.clos hr (hc j hj)⟩
  | .p .., _, _, hc => by simp [Cell.clos] at hc
  | .gs .., _, _, hc => by simp [Cell.clos] at hc
  | .sl .., _, _, hc => by simp [Cell.clos] at hc
/-- A cell that holds no digit. -/
def Cell.noU : Cell → Bool
  | .any => false
  | .int .u32 _ => false
  | _ => true
end Go.Proofs.YtigciplaoikcfaaGreat
