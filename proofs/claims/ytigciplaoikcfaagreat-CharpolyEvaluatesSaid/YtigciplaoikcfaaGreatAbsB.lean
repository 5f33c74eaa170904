/- Abstract states: the frame and the blocks of a call's own, and how they evolve. -/
import Derived.Test.YtigciplaoikcfaaGreatAbsA
namespace Go.Proofs.YtigciplaoikcfaaGreat
open Go.RowKit
/-- A block of the call's own: elements of sz cells; st 0: it may be written, 1: it will not be written again, 2: it is forgotten. -/
structure Blk where
  t : TypeId
  sz : Nat
  n : Nat
  u : Nat
  st : Nat
  f : Nat → Nat → Cell
structure St where
  tm : Nat → V
  bl : List Blk
/-- Where a call starts: the world, and the old blocks that are handed to it to write. -/
structure Base where
  w : World
  M : Nat → Prop
abbrev Base.heap (b : Base) : Array Obj := b.w.heap
def Base.mine (b : Base) (x : Nat) : Prop := b.heap.size ≤ x ∨ b.M x
/-- What stood, but for the blocks that are handed over, stands. -/
structure BelowM (b : Base) (w : World) : Prop where
  os : w.os = b.w.os
  tape : w.tape = b.w.tape
  output : w.output = b.w.output
  size : b.heap.size ≤ w.heap.size
  block : ∀ k, k < b.heap.size → ¬ b.M k → w.heap[k]? = b.heap[k]?
theorem BelowM.trans {b : Base} {w w' : World} (h : BelowM b w) (k : Below w.heap.size w w') : BelowM b w' :=
  ⟨k.os.trans h.os, k.tape.trans h.tape, k.output.trans h.output, Nat.le_trans h.size k.size, fun i hi hm => (k.block i (Nat.lt_of_lt_of_le hi h.size)).trans (h.block i hi hm)⟩
theorem BelowM.alloc {b : Base} {w : World} (h : BelowM b w) (o : Obj) : BelowM b (w.alloc o) :=
  h.trans ((Below.refl w.heap.size w).alloc (Nat.le_refl _) o)
structure Ctx where
  D0 : Nat → Prop
  w0 : Base
  r : Bool
  N : Nat
  ρ0 : List Loc
def Dof (D0 : Nat → Prop) (ρ : List Loc) (bl : List Blk) (b : Nat) : Prop := D0 b ∨ ∃ (k : Nat) (l : Loc) (B : Blk), ρ[k]? = some l ∧ bl[k]? = some B ∧ B.st = 0 ∧ l.b = some b
def BRel (D : Nat → Prop) (w : World) (B0 : Base) (ρ : List Loc) (l : Loc) (B : Blk) : Prop :=
  B.st ≤ 1 → l.u = B.u ∧ ((B.n = 0 ∧ l.b = none ∧ l.v = .slice none 0 0) ∨ ∃ (b cap : Nat) (cs : Array Value), l.b = some b ∧ B0.mine b ∧ l.v = .slice (some ⟨b, 0, none⟩) B.n cap ∧
    w.heap[b]? = some (.cells cs B.t (0, 0)) ∧ cs.size = cap * B.sz ∧ B.n ≤ cap ∧ cap ≤ maxLen ∧
    ∀ i j, i < B.n → j < B.sz → ∃ u, cs[i * B.sz + j]? = some u ∧ CRel D w (if B.st = 0 then ρ else []) (B.f i j) u)
structure Sat (D0 : Nat → Prop) (w0 : Base) (r : Bool) (ρ : List Loc) (bl : List Blk) (w : World) : Prop where
  below : BelowM w0 w
  d0 : ∀ b, D0 b → b < w0.heap.size ∧ ¬ w0.M b
  len : ρ.length = bl.length
  at_ : ∀ (k : Nat) (l : Loc) (B : Blk), ρ[k]? = some l → bl[k]? = some B → BRel (Dof D0 ρ bl) w w0 ρ l B
  dist : ∀ (i j : Nat) (li lj : Loc) (Bi Bj : Blk) (b : Nat), ρ[i]? = some li → ρ[j]? = some lj → bl[i]? = some Bi → bl[j]? = some Bj → Bi.st ≤ 1 → Bj.st ≤ 1 → li.b = some b → lj.b = some b → i = j
  noU : r = true → ∀ (b o : Nat) (d : Int), Dof D0 ρ bl b → w.cell? ⟨b, o, none⟩ ≠ some (.int .u32 d)
theorem idx_lt {i j n sz m : Nat} (hi : i < n) (hj : j < sz) (hm : n ≤ m) : i * sz + j < m * sz := by
  have h1 : (i + 1) * sz ≤ m * sz := Nat.mul_le_mul_right _ (by omega)
  rw [Nat.succ_mul] at h1
  omega
theorem heap_lt {w : World} {b : Nat} {o : Obj} (h : w.heap[b]? = some o) : b < w.heap.size := (Array.getElem?_eq_some_iff.1 h).1
theorem Sat.lt {D0 : Nat → Prop} {w0 : Base} {w : World} {r : Bool} {ρ : List Loc} {bl : List Blk} (h : Sat D0 w0 r ρ bl w) {b : Nat} (hb : Dof D0 ρ bl b) : b < w.heap.size := by
  rcases hb with hb | ⟨k, l, B, h1, h2, h3, h4⟩
  · exact Nat.lt_of_lt_of_le (h.d0 b hb).1 h.below.size
  · rcases (h.at_ k l B h1 h2 (by omega)).2 with ⟨_, h5, _⟩ | ⟨b', cap, cs, h5, _, _, h6, _⟩
    · rw [h5] at h4; cases h4
    · rw [h5] at h4; cases h4; exact heap_lt h6
theorem Sat.own {D0 : Nat → Prop} {w0 : Base} {w : World} {r : Bool} {ρ : List Loc} {bl : List Blk} (h : Sat D0 w0 r ρ bl w) {k : Nat} {l : Loc} {B : Blk} (h1 : ρ[k]? = some l) (h2 : bl[k]? = some B) (h3 : B.st ≤ 1) {b : Nat} (h4 : l.b = some b) : w0.mine b := by
  rcases (h.at_ k l B h1 h2 h3).2 with ⟨_, h5, _⟩ | ⟨b', cap, cs, h5, h6, _⟩
  · rw [h5] at h4; cases h4
  · rw [h5] at h4; cases h4; exact h6
theorem BRel.step {D D' : Nat → Prop} {w w' : World} {B0 : Base} {ρ ρ' : List Loc} {l : Loc} {B : Blk} (he : Ext D w w') (hd : ∀ b, b < w.heap.size → D' b → D b) (hρ : LocsLe ρ ρ') (hb : ∀ b, l.b = some b → w'.heap[b]? = w.heap[b]?) (h : BRel D w B0 ρ l B) : BRel D' w' B0 ρ' l B := by
  intro hst
  obtain ⟨h0, h1⟩ := h hst
  refine ⟨h0, ?_⟩
  rcases h1 with h1 | ⟨b, cap, cs, e1, e2, e3, e4, e5, e6, e7, e8⟩
  · exact .inl h1
  · refine .inr ⟨b, cap, cs, e1, e2, e3, (hb b e1).trans e4, e5, e6, e7, fun i j hi hj => ?_⟩
    obtain ⟨u, hu, hr⟩ := e8 i j hi hj
    refine ⟨u, hu, ?_⟩
    by_cases hz : B.st = 0
    · rw [if_pos hz] at hr ⊢; exact hr.step he hd hρ
    · rw [if_neg hz] at hr ⊢; exact hr.step he hd (LocsLe.refl _)
theorem Sat.ext {D0 : Nat → Prop} {w0 : Base} {w w' : World} {r : Bool} {ρ : List Loc} {bl : List Blk} (h : Sat D0 w0 r ρ bl w) (hb : Below w.heap.size w w') : Sat D0 w0 r ρ bl w' where
  below := h.below.trans hb
  d0 := h.d0
  len := h.len
  at_ k l B h1 h2 := by
    intro hst
    exact (h.at_ k l B h1 h2).step (Ext.of_below hb) (fun _ _ x => x) (LocsLe.refl _) (fun b e => hb.block b (by
      rcases (h.at_ k l B h1 h2 hst).2 with ⟨_, h5, _⟩ | ⟨b', cap, cs, h5, _, _, h6, _⟩
      · rw [h5] at e; cases e
      · rw [h5] at e; cases e; exact heap_lt h6)) hst
  dist := h.dist
  noU hr b o d hD := by
    rw [(Ext.of_below (D := fun _ => False) hb).cell (h.lt hD) (fun x => x)]
    exact h.noU hr b o d hD
/-- A new block. -/
theorem Sat.alloc {D0 : Nat → Prop} {w0 : Base} {w : World} {r : Bool} {ρ : List Loc} {bl : List Blk} (h : Sat D0 w0 r ρ bl w) {cs : Array Value} {t sz n cap : Nat} {f : Nat → Nat → Cell} (hs : cs.size = cap * sz) (hn : n ≤ cap) (hc : cap ≤ maxLen)
    (hf : ∀ i j, i < n → j < sz → ∃ u, cs[i * sz + j]? = some u ∧ CRel (Dof D0 ρ bl) w ρ (f i j) u) (hU : r = true → ∀ (i : Nat) (d : Int), cs[i]? ≠ some (.int .u32 d)) :
    Sat D0 w0 r (ρ ++ [⟨0, some w.heap.size, n, cap⟩]) (bl ++ [⟨t, sz, n, 0, 0, f⟩]) (w.alloc (.cells cs t)) ∧
    (∀ b, b < w.heap.size → Dof D0 (ρ ++ [⟨0, some w.heap.size, n, cap⟩]) (bl ++ [⟨t, sz, n, 0, 0, f⟩]) b → Dof D0 ρ bl b) := by
  have hD : ∀ b, b < w.heap.size → Dof D0 (ρ ++ [⟨0, some w.heap.size, n, cap⟩]) (bl ++ [⟨t, sz, n, 0, 0, f⟩]) b → Dof D0 ρ bl b := by
    intro b hb hx
    rcases hx with hx | ⟨k, l, B, h1, h2, h3, h4⟩
    · exact .inl hx
    · rcases Nat.lt_or_ge k ρ.length with hk | hk
      · rw [List.getElem?_append_left hk] at h1
        rw [List.getElem?_append_left (by rw [← h.len]; exact hk)] at h2
        exact .inr ⟨k, l, B, h1, h2, h3, h4⟩
      · rw [List.getElem?_append_right hk] at h1
        rcases Nat.eq_zero_or_pos (k - ρ.length) with e | e
        · rw [e] at h1; simp at h1; subst h1; simp at h4; omega
        · rw [List.getElem?_eq_none (by simp; omega)] at h1; cases h1
  have hE : Ext (Dof D0 ρ bl) w (w.alloc (.cells cs t)) := ⟨by simp, fun b hb _ => Below.heap_alloc w _ b hb⟩
  refine ⟨⟨h.below.alloc _, h.d0, by simp [h.len], ?_, ?_, ?_⟩, hD⟩
  · intro k l B h1 h2
    rcases Nat.lt_or_ge k ρ.length with hk | hk
    · rw [List.getElem?_append_left hk] at h1
      rw [List.getElem?_append_left (by rw [← h.len]; exact hk)] at h2
      intro hst
      refine (h.at_ k l B h1 h2).step hE hD (LocsLe.append _ _) (fun b e => Below.heap_alloc w _ b ?_) hst
      rcases (h.at_ k l B h1 h2 hst).2 with ⟨_, h5, _⟩ | ⟨b', cap', cs', h5, _, _, h6, _⟩
      · rw [h5] at e; cases e
      · rw [h5] at e; cases e; exact heap_lt h6
    · rw [List.getElem?_append_right hk] at h1
      rw [List.getElem?_append_right (by rw [← h.len]; exact hk), ← h.len] at h2
      rcases Nat.eq_zero_or_pos (k - ρ.length) with e | e
      · rw [e] at h1 h2; simp at h1 h2; subst h1; subst h2
        intro _
        refine ⟨rfl, .inr ⟨_, cap, cs, rfl, .inl h.below.size, rfl, heap_alloc_new w _, hs, hn, hc, fun i j hi hj => ?_⟩⟩
        obtain ⟨u, hu, hr⟩ := hf i j hi hj
        exact ⟨u, hu, by simp only [if_true]; exact hr.step hE hD (LocsLe.append _ _)⟩
      · rw [List.getElem?_eq_none (by simp; omega)] at h1; cases h1
  · intro i j li lj Bi Bj b h1 h2 h3 h4 h5 h6 h7 h8
    have old : ∀ (k : Nat) (l : Loc) (B : Blk), ρ[k]? = some l → bl[k]? = some B → B.st ≤ 1 → l.b = some b → b < w.heap.size := by
      intro k l B e1 e2 e3 e4
      rcases (h.at_ k l B e1 e2 e3).2 with ⟨_, h5, _⟩ | ⟨b', cap', cs', h5, _, _, h6, _⟩
      · rw [h5] at e4; cases e4
      · rw [h5] at e4; cases e4; exact heap_lt h6
    rcases Nat.lt_or_ge i ρ.length with hi | hi <;> rcases Nat.lt_or_ge j ρ.length with hj | hj
    · rw [List.getElem?_append_left hi] at h1
      rw [List.getElem?_append_left hj] at h2
      rw [List.getElem?_append_left (by rw [← h.len]; exact hi)] at h3
      rw [List.getElem?_append_left (by rw [← h.len]; exact hj)] at h4
      exact h.dist i j li lj Bi Bj b h1 h2 h3 h4 h5 h6 h7 h8
    · rw [List.getElem?_append_left hi] at h1
      rw [List.getElem?_append_left (by rw [← h.len]; exact hi)] at h3
      have := old i li Bi h1 h3 h5 h7
      rw [List.getElem?_append_right hj] at h2
      rcases Nat.eq_zero_or_pos (j - ρ.length) with e | e
      · rw [e] at h2; simp at h2; subst h2; simp at h8; omega
      · rw [List.getElem?_eq_none (by simp; omega)] at h2; cases h2
    · rw [List.getElem?_append_left hj] at h2
      rw [List.getElem?_append_left (by rw [← h.len]; exact hj)] at h4
      have := old j lj Bj h2 h4 h6 h8
      rw [List.getElem?_append_right hi] at h1
      rcases Nat.eq_zero_or_pos (i - ρ.length) with e | e
      · rw [e] at h1; simp at h1; subst h1; simp at h7; omega
      · rw [List.getElem?_eq_none (by simp; omega)] at h1; cases h1
    · have e1 : i < (ρ ++ [(⟨0, some w.heap.size, n, cap⟩ : Loc)]).length := (List.getElem?_eq_some_iff.1 h1).1
      have e2 : j < (ρ ++ [(⟨0, some w.heap.size, n, cap⟩ : Loc)]).length := (List.getElem?_eq_some_iff.1 h2).1
      simp at e1 e2; omega
  · intro hr b o d hb
    rcases Nat.lt_or_ge b w.heap.size with hlt | hge
    · simp only [World.cell?, Below.heap_alloc w _ b hlt]
      exact h.noU hr b o d (hD b hlt hb)
    · by_cases e : b = w.heap.size
      · subst e
        simp only [World.cell?, heap_alloc_new w _]
        simp only [Option.isSome_none, Bool.false_eq_true, if_false]
        exact hU hr o d
      · simp only [World.cell?, Array.getElem?_eq_none (show (w.alloc (.cells cs t)).heap.size ≤ b by simp; omega)]
        simp
/-- Cells of one block are written. -/
theorem Sat.update {D0 : Nat → Prop} {w0 : Base} {w w' : World} {r : Bool} {ρ : List Loc} {bl : List Blk} (h : Sat D0 w0 r ρ bl w) {k b : Nat} {l : Loc} {B : Blk} {cs cs' : Array Value} {f' : Nat → Nat → Cell} (h1 : ρ[k]? = some l) (h2 : bl[k]? = some B) (h3 : B.st = 0) (h4 : l.b = some b)
    (hc : w.heap[b]? = some (.cells cs B.t (0, 0))) (hc' : w'.heap[b]? = some (.cells cs' B.t (0, 0))) (hsz : cs'.size = cs.size) (ho : ∀ x, x ≠ b → w'.heap[x]? = w.heap[x]?) (hw : w'.heap.size = w.heap.size) (hos : w'.os = w.os) (htp : w'.tape = w.tape) (hout : w'.output = w.output)
    (hf : ∀ i j, i < B.n → j < B.sz → ∃ u, cs'[i * B.sz + j]? = some u ∧ CRel (Dof D0 ρ bl) w ρ (f' i j) u) (hU : r = true → ∀ (i : Nat) (d : Int), cs'[i]? ≠ some (.int .u32 d)) :
    Sat D0 w0 r ρ (bl.set k { B with f := f' }) w' ∧ (∀ x, Dof D0 ρ (bl.set k { B with f := f' }) x ↔ Dof D0 ρ bl x) ∧ Ext (Dof D0 ρ bl) w w' := by
  have hkl : k < bl.length := (List.getElem?_eq_some_iff.1 h2).1
  have hb0 : w0.mine b := h.own h1 h2 (by omega) h4
  have hDb : Dof D0 ρ bl b := .inr ⟨k, l, B, h1, h2, h3, h4⟩
  have hD : ∀ x, Dof D0 ρ (bl.set k { B with f := f' }) x ↔ Dof D0 ρ bl x := by
    intro x
    constructor
    · rintro (hx | ⟨k', l', B', e1, e2, e3, e4⟩)
      · exact .inl hx
      · by_cases e : k' = k
        · subst e; rw [h1] at e1; cases e1; exact .inr ⟨k', l, B, h1, h2, h3, e4⟩
        · rw [List.getElem?_set_ne (fun h => e h.symm)] at e2
          exact .inr ⟨k', l', B', e1, e2, e3, e4⟩
    · rintro (hx | ⟨k', l', B', e1, e2, e3, e4⟩)
      · exact .inl hx
      · by_cases e : k' = k
        · subst e; exact .inr ⟨k', l', { B with f := f' }, e1, by rw [List.getElem?_set_self hkl], h3, e4⟩
        · exact .inr ⟨k', l', B', e1, by rw [List.getElem?_set_ne (fun h => e h.symm)]; exact e2, e3, e4⟩
  have hE : Ext (Dof D0 ρ bl) w w' := ⟨by omega, fun x _ hx => ho x (fun e => hx (e ▸ hDb))⟩
  refine ⟨⟨?_, h.d0, by simp [h.len], ?_, ?_, ?_⟩, hD, hE⟩
  · exact ⟨hos.trans h.below.os, htp.trans h.below.tape, hout.trans h.below.output, by rw [hw]; exact h.below.size, fun x hx hm => (ho x fun e => by
      subst e
      rcases hb0 with h1 | h1
      · omega
      · exact hm h1).trans (h.below.block x hx hm)⟩
  · intro k' l' B' e1 e2
    by_cases e : k' = k
    · subst e
      rw [List.getElem?_set_self hkl] at e2; cases e2
      rw [h1] at e1; cases e1
      intro _
      obtain ⟨g0, g1⟩ := h.at_ k' l B h1 h2 (by omega)
      refine ⟨g0, ?_⟩
      rcases g1 with ⟨_, g2, _⟩ | ⟨b', cap, cs0, g2, g3, g4, g5, g6, g7, g8, _⟩
      · rw [g2] at h4; cases h4
      · rw [g2] at h4; cases h4
        rw [hc] at g5; cases g5
        refine .inr ⟨b, cap, cs', g2, g3, g4, hc', hsz.trans g6, g7, g8, fun i j hi hj => ?_⟩
        obtain ⟨u, hu, hr⟩ := hf i j hi hj
        exact ⟨u, hu, by rw [if_pos h3]; exact hr.step hE (fun x _ hx => (hD x).1 hx) (LocsLe.refl _)⟩
    · rw [List.getElem?_set_ne (fun h => e h.symm)] at e2
      intro hst
      refine (h.at_ k' l' B' e1 e2).step hE (fun x _ hx => (hD x).1 hx) (LocsLe.refl _) (fun x hx => ho x (fun ex => ?_)) hst
      subst ex
      exact e (h.dist k' k l' l B' B x e1 h1 e2 h2 hst (by omega) hx h4)
  · intro i j li lj Bi Bj x e1 e2 e3 e4 e5 e6 e7 e8
    have old : ∀ (m : Nat) (Bm : Blk), (bl.set k { B with f := f' })[m]? = some Bm → Bm.st ≤ 1 → ∃ Bm', bl[m]? = some Bm' ∧ Bm'.st ≤ 1 := by
      intro m Bm g1 g2
      by_cases e : m = k
      · subst e; exact ⟨B, h2, by omega⟩
      · rw [List.getElem?_set_ne (fun h => e h.symm)] at g1; exact ⟨Bm, g1, g2⟩
    obtain ⟨Bi', g1, g2⟩ := old i Bi e3 e5
    obtain ⟨Bj', g3, g4⟩ := old j Bj e4 e6
    exact h.dist i j li lj Bi' Bj' x e1 e2 g1 g3 g2 g4 e7 e8
  · intro hr x o d hx
    by_cases e : x = b
    · subst e
      simp only [World.cell?, hc', Option.isSome_none, Bool.false_eq_true, if_false]
      exact hU hr o d
    · simp only [World.cell?, ho x e]
      exact h.noU hr x o d ((hD x).1 hx)
/-- A block that will not be written again. -/
theorem Sat.freeze {D0 : Nat → Prop} {w0 : Base} {w : World} {r : Bool} {ρ : List Loc} {bl : List Blk} (h : Sat D0 w0 r ρ bl w) {k : Nat} {B : Blk} (h2 : bl[k]? = some B) (h3 : B.st = 0) (hcl : ∀ i j, i < B.n → j < B.sz → (B.f i j).clos = true) :
    Sat D0 w0 r ρ (bl.set k { B with st := 1 }) w ∧ (∀ x, Dof D0 ρ (bl.set k { B with st := 1 }) x → Dof D0 ρ bl x) := by
  have hkl : k < bl.length := (List.getElem?_eq_some_iff.1 h2).1
  have hD : ∀ x, Dof D0 ρ (bl.set k { B with st := 1 }) x → Dof D0 ρ bl x := by
    rintro x (hx | ⟨k', l', B', e1, e2, e3, e4⟩)
    · exact .inl hx
    · by_cases e : k' = k
      · subst e; rw [List.getElem?_set_self hkl] at e2; cases e2; cases e3
      · rw [List.getElem?_set_ne (fun h => e h.symm)] at e2
        exact .inr ⟨k', l', B', e1, e2, e3, e4⟩
  refine ⟨⟨h.below, h.d0, by simp [h.len], ?_, ?_, fun hr x o d hx => h.noU hr x o d (hD x hx)⟩, hD⟩
  · intro k' l' B' e1 e2
    by_cases e : k' = k
    · subst e
      rw [List.getElem?_set_self hkl] at e2; cases e2
      intro _
      obtain ⟨g0, g1⟩ := h.at_ k' l' B e1 h2 (by omega)
      refine ⟨g0, ?_⟩
      rcases g1 with g1 | ⟨b', cap, cs0, g2, g3, g4, g5, g6, g7, g8, g9⟩
      · exact .inl g1
      · refine .inr ⟨b', cap, cs0, g2, g3, g4, g5, g6, g7, g8, fun i j hi hj => ?_⟩
        obtain ⟨u, hu, hr⟩ := g9 i j hi hj
        exact ⟨u, hu, (CRel.clos (ρ' := []) hr (hcl i j hi hj)).step (Ext.refl _ _) (fun x _ hx => hD x hx) (LocsLe.refl _)⟩
    · rw [List.getElem?_set_ne (fun h => e h.symm)] at e2
      exact (h.at_ k' l' B' e1 e2).step (Ext.refl _ _) (fun x _ hx => hD x hx) (LocsLe.refl _) (fun _ _ => rfl)
  · intro i j li lj Bi Bj x e1 e2 e3 e4 e5 e6 e7 e8
    have old : ∀ (m : Nat) (Bm : Blk), (bl.set k { B with st := 1 })[m]? = some Bm → Bm.st ≤ 1 → ∃ Bm', bl[m]? = some Bm' ∧ Bm'.st ≤ 1 := by
      intro m Bm g1 g2
      by_cases e : m = k
      · subst e; exact ⟨B, h2, by omega⟩
      · rw [List.getElem?_set_ne (fun h => e h.symm)] at g1; exact ⟨Bm, g1, g2⟩
    obtain ⟨Bi', g1, g2⟩ := old i Bi e3 e5
    obtain ⟨Bj', g3, g4⟩ := old j Bj e4 e6
    exact h.dist i j li lj Bi' Bj' x e1 e2 g1 g3 g2 g4 e7 e8
/-- A cell that names only blocks below m. -/
def Cell.lt (m : Nat) : Cell → Bool
  | .p k .. | .gs k _ | .sl k .. => k < m
  | .cl _ n f => (List.range n).all fun j => (f j).lt m
  | _ => true
theorem CRel.take {D : Nat → Prop} {w : World} {ρ : List Loc} {m : Nat} : ∀ {c : Cell} {v : Value} (_ : CRel D w ρ c v) (_ : c.lt m = true), CRel D w (ρ.take m) c v
  | .any, _, _, _ => trivial
  | .bool _, _, h, _ => h
  | .int _ _, _, h, _ => h
  | .nil, _, h, _ => h
  | .fn _, _, h, _ => h
  | .str _, _, h, _ => h
  | .row .., _, h, _ => h
  | .xp .., _, h, _ => h
  | .cl F n f, _, h, hc => by
    obtain ⟨caps, rfl, h1, h2⟩ := h
    simp only [Cell.lt, List.all_eq_true, List.mem_range] at hc
    refine ⟨caps, rfl, h1, fun j hj => ?_⟩
    obtain ⟨u, hu, hr⟩ := h2 j hj
    exact ⟨u, hu, CRel.take hr (hc j hj)⟩
  | .p k u sz i o, _, h, hc => by
    simp [Cell.lt] at hc
    obtain ⟨l, hl, h1⟩ := h
    exact ⟨l, by rw [List.getElem?_take_of_lt hc]; exact hl, h1⟩
  | .gs k u, _, h, hc => by
    simp [Cell.lt] at hc
    obtain ⟨l, hl, h1⟩ := h
    exact ⟨l, by rw [List.getElem?_take_of_lt hc]; exact hl, h1⟩
  | .sl k u sz o n, _, h, hc => by
    simp [Cell.lt] at hc
    obtain ⟨l, hl, h1⟩ := h
    exact ⟨l, by rw [List.getElem?_take_of_lt hc]; exact hl, h1⟩
theorem Sat.take {D0 : Nat → Prop} {w0 : Base} {w : World} {r : Bool} {ρ : List Loc} {bl : List Blk} (h : Sat D0 w0 r ρ bl w) (m : Nat) (hcl : ∀ (k : Nat) (B : Blk), k < m → bl[k]? = some B → B.st = 0 → ∀ i j, i < B.n → j < B.sz → (B.f i j).lt m = true) :
    Sat D0 w0 r (ρ.take m) (bl.take m) w ∧ (∀ x, Dof D0 (ρ.take m) (bl.take m) x → Dof D0 ρ bl x) := by
  have g : ∀ {α : Type} (L : List α) (k : Nat) (x : α), (L.take m)[k]? = some x → k < m ∧ L[k]? = some x := by
    intro α L k x hx
    rw [List.getElem?_take] at hx
    split at hx
    · exact ⟨by assumption, hx⟩
    · cases hx
  have hD : ∀ x, Dof D0 (ρ.take m) (bl.take m) x → Dof D0 ρ bl x := by
    rintro x (hx | ⟨k', l', B', e1, e2, e3, e4⟩)
    · exact .inl hx
    · exact .inr ⟨k', l', B', (g _ _ _ e1).2, (g _ _ _ e2).2, e3, e4⟩
  refine ⟨⟨h.below, h.d0, by simp [h.len], ?_, ?_, fun hr x o d hx => h.noU hr x o d (hD x hx)⟩, hD⟩
  · intro k l B e1 e2 hst
    obtain ⟨hk, e1⟩ := g _ _ _ e1
    obtain ⟨_, e2⟩ := g _ _ _ e2
    obtain ⟨g0, g1⟩ := (h.at_ k l B e1 e2).step (Ext.refl _ _) (fun x _ hx => hD x hx) (LocsLe.refl _) (fun _ _ => rfl) hst
    refine ⟨g0, ?_⟩
    rcases g1 with g1 | ⟨b', cap, cs0, g2, g3, g4, g5, g6, g7, g8, g9⟩
    · exact .inl g1
    · refine .inr ⟨b', cap, cs0, g2, g3, g4, g5, g6, g7, g8, fun i j hi hj => ?_⟩
      obtain ⟨u, hu, hr⟩ := g9 i j hi hj
      refine ⟨u, hu, ?_⟩
      by_cases hz : B.st = 0
      · rw [if_pos hz] at hr ⊢; exact hr.take (hcl k B hk e2 hz i j hi hj)
      · rw [if_neg hz] at hr ⊢; exact hr
  · intro i j li lj Bi Bj x e1 e2 e3 e4
    exact h.dist i j li lj Bi Bj x (g _ _ _ e1).2 (g _ _ _ e2).2 (g _ _ _ e3).2 (g _ _ _ e4).2
end Go.Proofs.YtigciplaoikcfaaGreat
