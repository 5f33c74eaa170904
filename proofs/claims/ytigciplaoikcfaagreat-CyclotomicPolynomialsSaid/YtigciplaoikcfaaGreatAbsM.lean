/- Abstract operations that make or write blocks of the call's own; operations in the order of the text. -/
import Derived.Test.YtigciplaoikcfaaGreatAbsE
namespace Go.Proofs.YtigciplaoikcfaaGreat
open Go.RowKit
def Rel (C : Ctx) (σ : St) (a : Act) (w : World) : Prop :=
  ∃ ρ, Sat C.D0 C.w0 C.r ρ σ.bl w ∧ (C.N ≤ a.tmps.size ∧ LocsLe C.ρ0 ρ) ∧ a.defers = [] ∧ ∀ t, VRel (Dof C.D0 ρ σ.bl) w ρ (σ.tm t) (a.tmps.getD t undef)
def upd (f : Nat → V) (d : Nat) (v : V) (t : Nat) : V := if t = d then v else f t
def St.put (σ : St) (dst : Option Nat) (v : V) : St :=
  match dst with
  | some d => { σ with tm := upd σ.tm d v }
  | none => σ
@[simp] theorem St.put_bl (σ : St) (dst : Option Nat) (v : V) : (σ.put dst v).bl = σ.bl := by cases dst <;> rfl
def dstOK (N : Nat) (dst : Option Nat) : Prop := ∀ d : Nat, dst = some d → d < N
theorem frame_put {D : Nat → Prop} {w : World} {ρ : List Loc} {σ : St} {a : Act} {N : Nat} {dst : Option Nat} {v : V} {x : Value} (hN : N ≤ a.tmps.size) (hd : dstOK N dst) (h : ∀ t, VRel D w ρ (σ.tm t) (a.tmps.getD t undef)) (hv : VRel D w ρ v x) :
    N ≤ (a.put dst x).tmps.size ∧ (a.put dst x).defers = a.defers ∧ ∀ t, VRel D w ρ ((σ.put dst v).tm t) ((a.put dst x).tmps.getD t undef) := by
  cases dst with
  | none => exact ⟨hN, rfl, h⟩
  | some d =>
    have hlt : d < N := hd d rfl
    refine ⟨by simpa [Act.put] using hN, rfl, fun t => ?_⟩
    simp only [St.put, Act.put, upd]
    by_cases e : t = d
    · subst e
      rw [if_pos rfl]
      have h2 : t < a.tmps.size := by omega
      rw [show (a.tmps.setIfInBounds t x).getD t undef = x by simp [Array.getD, h2]]
      exact hv
    · rw [if_neg e]
      rw [show (a.tmps.setIfInBounds d x).getD t undef = a.tmps.getD t undef by
        simp [Array.getD_eq_getD_getElem?, Array.getElem?_setIfInBounds_ne (fun h => e h.symm)]]
      exact h t
theorem Rel.put {C : Ctx} {σ : St} {a : Act} {w : World} {ρ : List Loc} (hs : Sat C.D0 C.w0 C.r ρ σ.bl w) (hN : C.N ≤ a.tmps.size ∧ LocsLe C.ρ0 ρ) (hdf : a.defers = []) (h : ∀ t, VRel (Dof C.D0 ρ σ.bl) w ρ (σ.tm t) (a.tmps.getD t undef)) {dst : Option Nat} (hd : dstOK C.N dst) {v : V} {x : Value} (hv : VRel (Dof C.D0 ρ σ.bl) w ρ v x) : Rel C (σ.put dst v) (a.put dst x) w := by
  obtain ⟨h1, h2, h3⟩ := frame_put hN.1 hd h hv
  exact ⟨ρ, by rw [St.put_bl]; exact hs, ⟨h1, hN.2⟩, h2.trans hdf, by rw [St.put_bl]; exact h3⟩
/-- The frame in a later world, with other blocks. -/
theorem frame_step {D D' : Nat → Prop} {w w' : World} {ρ ρ' : List Loc} (he : Ext D w w') (hd : ∀ b, b < w.heap.size → D' b → D b) (hρ : LocsLe ρ ρ') {tm : Nat → V} {a : Act} (h : ∀ t, VRel D w ρ (tm t) (a.tmps.getD t undef)) : ∀ t, VRel D' w' ρ' (tm t) (a.tmps.getD t undef) :=
  fun t => (h t).step he hd hρ
def cellsV (bl : List Blk) (r : Bool) : V → Option (List Cell)
  | .c x => if St.one bl x && (!r || x.noU) then some [x] else none
  | .g l => if l.all (St.one bl) && (!r || l.all Cell.noU) then some l else none
  | _ => none
theorem noU_rel {D : Nat → Prop} {D0 : Nat → Prop} {w0 : Base} {w : World} {r : Bool} {ρ : List Loc} {bl : List Blk} (h : Sat D0 w0 r ρ bl w) {c : Cell} {v : Value} (h1 : St.one bl c = true) (hn : c.noU = true) (hc : CRel D w ρ c v) (d : Int) : v ≠ .int .u32 d := by
  cases c with
  | any => simp [St.one] at h1
  | bool b => cases hc; simp
  | int k n => cases hc; intro e; injection e with e1 e2; subst e1; simp [Cell.noU] at hn
  | nil => cases hc; simp
  | fn F => cases hc; simp
  | str s => cases hc; simp
  | cl F m f => obtain ⟨caps, rfl, _⟩ := hc; simp
  | row sz n f => obtain ⟨A, c, rfl, _⟩ := hc; simp
  | xp m f => obtain ⟨b, o, rfl, _⟩ := hc; simp
  | p k u sz i o =>
    obtain ⟨l, hl, hu, hv⟩ := hc
    simp only [St.one] at h1
    split at h1
    · rename_i B hB
      simp at h1
      obtain ⟨g0, _⟩ := h.at_ k l B hl hB h1.2
      obtain ⟨_, b, _, rfl⟩ := hv (by omega)
      simp
    · cases h1
  | gs k u =>
    obtain ⟨l, hl, hu, hv⟩ := hc
    simp only [St.one] at h1
    split at h1
    · rename_i B hB
      simp at h1
      obtain ⟨g0, _⟩ := h.at_ k l B hl hB h1.2
      rw [hv (by omega)]
      simp [Loc.v]
    · cases h1
  | sl k u sz o n =>
    obtain ⟨l, hl, hu, hv⟩ := hc
    simp only [St.one] at h1
    split at h1
    · rename_i B hB
      simp at h1
      obtain ⟨g0, _⟩ := h.at_ k l B hl hB h1.2
      obtain ⟨_, A, c, rfl, _⟩ := hv (by omega)
      simp
    · cases h1
theorem cellsV_rel {D0 : Nat → Prop} {w0 : Base} {w : World} {r : Bool} {ρ : List Loc} {bl : List Blk} (h : Sat D0 w0 r ρ bl w) {D : Nat → Prop} {x : V} {v : Value} {l : List Cell} (h1 : cellsV bl r x = some l) (hx : VRel D w ρ x v) :
    CRels D w ρ l v.cells.toList ∧ (∀ u ∈ v.cells.toList, u.oneCell' = true) ∧ (r = true → ∀ (i : Nat) (d : Int), v.cells[i]? ≠ some (.int .u32 d)) := by
  have hall : ∀ (l : List Cell) (vs : List Value), l.all (St.one bl) = true → CRels D w ρ l vs → ∀ u ∈ vs, u.oneCell' = true := by
    intro l
    induction l with
    | nil => intro vs _ hc u hu; cases vs with | nil => simp at hu | cons _ _ => exact hc.elim
    | cons c l ih =>
      intro vs ha hc u hu
      cases vs with
      | nil => exact hc.elim
      | cons v vs =>
        simp only [List.all_cons, Bool.and_eq_true] at ha
        rcases List.mem_cons.1 hu with e | e
        · subst e; exact (one_rel h ha.1 hc.1).1
        · exact ih vs ha.2 hc.2 u e
  have hU : ∀ (l : List Cell) (vs : List Value), l.all (St.one bl) = true → l.all Cell.noU = true → CRels D w ρ l vs → ∀ (i : Nat) (d : Int), vs[i]? ≠ some (.int .u32 d) := by
    intro l
    induction l with
    | nil => intro vs _ _ hc i d; cases vs with | nil => simp | cons _ _ => exact hc.elim
    | cons c l ih =>
      intro vs ha hb hc i d
      cases vs with
      | nil => exact hc.elim
      | cons v vs =>
        simp only [List.all_cons, Bool.and_eq_true] at ha hb
        cases i with
        | zero => intro e; simp at e; exact noU_rel h ha.1 hb.1 hc.1 d e
        | succ i => simpa using ih vs ha.2 hb.2 hc.2 i d
  cases x with
  | c x =>
    simp only [cellsV] at h1
    split at h1
    · rename_i hc
      simp only [Bool.and_eq_true, Bool.or_eq_true, Bool.not_eq_true'] at hc
      have hc : St.one bl x = true ∧ (r = true → x.noU = true) := ⟨hc.1, fun hr => hc.2.resolve_left (by rw [hr]; simp)⟩
      cases h1
      have h2 := (one_rel h hc.1 hx).2
      rw [h2]
      refine ⟨⟨hx, trivial⟩, fun u hu => ?_, fun hr i d => ?_⟩
      · simp at hu; subst hu; exact (one_rel h hc.1 hx).1
      · intro e
        cases i with
        | zero => simp at e; exact noU_rel h hc.1 (hc.2 hr) hx d e
        | succ i => simp at e
    · cases h1
  | g l' =>
    simp only [cellsV] at h1
    split at h1
    · rename_i hc
      simp only [Bool.and_eq_true, Bool.or_eq_true, Bool.not_eq_true'] at hc
      have hc : l'.all (St.one bl) = true ∧ (r = true → l'.all Cell.noU = true) := ⟨hc.1, fun hr => hc.2.resolve_left (by rw [hr]; simp)⟩
      cases h1
      obtain ⟨vs, rfl, e2⟩ := hx
      refine ⟨e2, hall _ _ hc.1 e2, fun hr i d => ?_⟩
      have := hU _ _ hc.1 (hc.2 hr) e2 i d
      simpa [Value.cells] using this
    · cases h1
  | t2 a b => simp [cellsV] at h1
  | t3 a b d => simp [cellsV] at h1
  | t4 a b d e => simp [cellsV] at h1
def St.push (σ : St) (B : Blk) : St := { σ with bl := σ.bl ++ [B] }
def boxF (l : List Cell) (_ j : Nat) : Cell := l.getD j .any
def rowF (sz : Nat) (l : List Cell) (i j : Nat) : Cell := l.getD (i * sz + j) .any
/-- A new block in the state. -/
theorem Rel.push {C : Ctx} {σ : St} {a : Act} {w : World} (h : Rel C σ a w) {cs : Array Value} {t sz n cap : Nat} {f : Nat → Nat → Cell} (hs : cs.size = cap * sz) (hn : n ≤ cap) (hc : cap ≤ maxLen)
    (hf : ∀ ρ, Sat C.D0 C.w0 C.r ρ σ.bl w → (∀ t, VRel (Dof C.D0 ρ σ.bl) w ρ (σ.tm t) (a.tmps.getD t undef)) → ∀ i j, i < n → j < sz → ∃ u, cs[i * sz + j]? = some u ∧ CRel (Dof C.D0 ρ σ.bl) w ρ (f i j) u) (hU : C.r = true → ∀ (i : Nat) (d : Int), cs[i]? ≠ some (.int .u32 d))
    {dst : Option Nat} (hd : dstOK C.N dst) (x : Cell) (v : Value) (hx : ∀ ρ, ρ.length = σ.bl.length → CRel (fun _ => False) w (ρ ++ [⟨0, some w.heap.size, n, cap⟩]) x v) (hcl : ∀ sz n f, x ≠ .row sz n f) (hcl2 : ∀ m f, x ≠ .xp m f) (hcl3 : ∀ F m f, x ≠ .cl F m f := by simp) :
    Rel C ((σ.push ⟨t, sz, n, 0, 0, f⟩).put dst (.c x)) (a.put dst v) (w.alloc (.cells cs t)) := by
  obtain ⟨ρ, hsat, hN, hdf, hfr⟩ := h
  obtain ⟨s1, s2⟩ := hsat.alloc hs hn hc (hf ρ hsat hfr) hU (t := t)
  have hE : Ext (Dof C.D0 ρ σ.bl) w (w.alloc (.cells cs t)) := ⟨by simp, fun b hb _ => Below.heap_alloc w _ b hb⟩
  refine Rel.put (σ := σ.push ⟨t, sz, n, 0, 0, f⟩) s1 ⟨hN.1, hN.2.trans (LocsLe.append _ _)⟩ hdf (frame_step hE s2 (LocsLe.append _ _) hfr) hd ?_
  have := hx ρ hsat.len
  show CRel _ _ _ x v
  cases x with
  | row sz n f => exact absurd rfl (hcl _ _ _)
  | xp m f => exact absurd rfl (hcl2 _ _)
  | cl F m f => exact absurd rfl (hcl3 _ _ _)
  | _ => exact this
end Go.Proofs.YtigciplaoikcfaaGreat
/- Calls that are handed one block to write, and calls that hand back blocks of their own. -/
namespace Go.Proofs.YtigciplaoikcfaaGreat
open Go.RowKit
/-- A block that has no place in memory yet. -/
def phB : Blk := ⟨0, 0, 0, 0, 2, fun _ _ => .any⟩
def phL : Loc := ⟨0, none, 0, 0⟩
theorem Sat.ph {D0 : Nat → Prop} {w0 : Base} {w : World} {r : Bool} {ρ : List Loc} {bl : List Blk} (h : Sat D0 w0 r ρ bl w) : Sat D0 w0 r (ρ ++ [phL]) (bl ++ [phB]) w ∧ (∀ b, Dof D0 (ρ ++ [phL]) (bl ++ [phB]) b ↔ Dof D0 ρ bl b) := by
  have get : ∀ (k : Nat) (l : Loc) (B : Blk), (ρ ++ [phL])[k]? = some l → (bl ++ [phB])[k]? = some B → (ρ[k]? = some l ∧ bl[k]? = some B) ∨ (l = phL ∧ B = phB) := by
    intro k l B h1 h2
    rcases Nat.lt_or_ge k ρ.length with hk | hk
    · rw [List.getElem?_append_left hk] at h1
      rw [List.getElem?_append_left (by rw [← h.len]; exact hk)] at h2
      exact .inl ⟨h1, h2⟩
    · rw [List.getElem?_append_right hk] at h1
      rw [List.getElem?_append_right (by rw [← h.len]; exact hk), ← h.len] at h2
      rcases Nat.eq_zero_or_pos (k - ρ.length) with e | e
      · rw [e] at h1 h2; simp at h1 h2; exact .inr ⟨h1.symm, h2.symm⟩
      · rw [List.getElem?_eq_none (by simp; omega)] at h1; cases h1
  have up : ∀ (k : Nat) (l : Loc) (B : Blk), ρ[k]? = some l → bl[k]? = some B → (ρ ++ [phL])[k]? = some l ∧ (bl ++ [phB])[k]? = some B := by
    intro k l B h1 h2
    exact ⟨by rw [List.getElem?_append_left (List.getElem?_eq_some_iff.1 h1).1]; exact h1, by rw [List.getElem?_append_left (List.getElem?_eq_some_iff.1 h2).1]; exact h2⟩
  have hD : ∀ b, Dof D0 (ρ ++ [phL]) (bl ++ [phB]) b ↔ Dof D0 ρ bl b := by
    intro b
    constructor
    · rintro (hx | ⟨k, l, B, h1, h2, h3, h4⟩)
      · exact .inl hx
      · rcases get k l B h1 h2 with ⟨g1, g2⟩ | ⟨rfl, rfl⟩
        · exact .inr ⟨k, l, B, g1, g2, h3, h4⟩
        · cases h3
    · rintro (hx | ⟨k, l, B, h1, h2, h3, h4⟩)
      · exact .inl hx
      · exact .inr ⟨k, l, B, (up k l B h1 h2).1, (up k l B h1 h2).2, h3, h4⟩
  refine ⟨⟨h.below, h.d0, by simp [h.len], fun k l B h1 h2 => ?_, fun i j li lj Bi Bj b h1 h2 h3 h4 h5 h6 h7 h8 => ?_, fun hr b o d hb => h.noU hr b o d ((hD b).1 hb)⟩, hD⟩
  · rcases get k l B h1 h2 with ⟨g1, g2⟩ | ⟨rfl, rfl⟩
    · exact (h.at_ k l B g1 g2).step (Ext.refl _ _) (fun b _ hb => (hD b).1 hb) (LocsLe.append _ _) (fun _ _ => rfl)
    · intro hst; simp [phB] at hst
  · rcases get i li Bi h1 h3 with ⟨g1, g2⟩ | ⟨rfl, rfl⟩
    · rcases get j lj Bj h2 h4 with ⟨g3, g4⟩ | ⟨rfl, rfl⟩
      · exact h.dist i j li lj Bi Bj b g1 g3 g2 g4 h5 h6 h7 h8
      · cases h8
    · cases h7
/-- The contract of a function that may write the block B, its first, and hands back blocks of its own. -/
def FnM (P : Program) (r : Bool) (f : FuncId) (B : Blk) (args : List V) (X : V) (B' : Blk) (fresh : List Blk) : Prop :=
  hasBody P f = true ∧ ∀ (D : Nat → Prop) (w0 : Base) (l : Loc) (w : World) (vs : List Value), Sat D w0 r [l] [B] w → VRels (Dof D [l] [B]) w [l] args vs →
    Calls P f vs.toArray w fun e w' => ∃ v l' ρ', e = .returned v ∧ Sat D w0 r (l' :: ρ') (B' :: fresh) w' ∧ LocsLe [l] [l'] ∧ VRel (Dof D (l' :: ρ') (B' :: fresh)) w' (l' :: ρ') X v
/-- The contract of a function that is handed all blocks of the caller's. -/
def FnS (P : Program) (r : Bool) (f : FuncId) (bl : List Blk) (args : List V) (X : V) (bl' : List Blk) : Prop :=
  hasBody P f = true ∧ ∀ (D0 : Nat → Prop) (w0 : Base) (ρ : List Loc) (w : World) (vs : List Value), Sat D0 w0 r ρ bl w → VRels (Dof D0 ρ bl) w ρ args vs →
    Calls P f vs.toArray w fun e w' => ∃ v ρ', e = .returned v ∧ Sat D0 w0 r ρ' bl' w' ∧ LocsLe ρ ρ' ∧ VRel (Dof D0 ρ' bl') w' ρ' X v
def ren (k n i : Nat) : Nat := match i with
  | 0 => k
  | i + 1 => n + i
def renC (k n : Nat) : Cell → Cell
  | .p i u sz a o => .p (ren k n i) u sz a o
  | .gs i u => .gs (ren k n i) u
  | .sl i u sz o m => .sl (ren k n i) u sz o m
  | .cl F m f => if (Cell.cl F m f).clos then .cl F m f else .any
  | c => c
def renV (k n : Nat) : V → V
  | .c x => .c (renC k n x)
  | .g l => .g (l.map (renC k n))
  | .t2 a b => .t2 (renV k n a) (renV k n b)
  | .t3 a b d => .t3 (renV k n a) (renV k n b) (renV k n d)
  | .t4 a b d e => .t4 (renV k n a) (renV k n b) (renV k n d) (renV k n e)
/-- Contents that name no block. -/
def Blk.plain (B : Blk) : Prop := B.st ≤ 1 → ∀ i j, i < B.n → j < B.sz → (B.f i j).clos = true
theorem ren_get {ρ ρf : List Loc} {k i : Nat} {l' l : Loc} (hk : k < ρ.length) (h : (l' :: ρf)[i]? = some l) : (ρ.set k l' ++ ρf)[ren k ρ.length i]? = some l := by
  cases i with
  | zero =>
    simp at h; subst h
    simp only [ren]
    rw [List.getElem?_append_left (by simpa using hk), List.getElem?_set_self hk]
  | succ i =>
    simp only [ren]
    rw [List.getElem?_append_right (by simp)]
    simpa using h
theorem CRel.ren {D : Nat → Prop} {w : World} {ρ ρf : List Loc} {k : Nat} {l' : Loc} (hk : k < ρ.length) {c : Cell} {v : Value} (h : CRel D w (l' :: ρf) c v) : CRel D w (ρ.set k l' ++ ρf) (renC k ρ.length c) v := by
  cases c with
  | p | gs | sl => obtain ⟨l, h1, h2⟩ := h; exact ⟨l, ren_get hk h1, h2⟩
  | cl F m f =>
    simp only [renC]
    split
    · rename_i hc; exact CRel.clos h hc
    · trivial
  | _ => exact h
theorem CRels.ren {D : Nat → Prop} {w : World} {ρ ρf : List Loc} {k : Nat} {l' : Loc} (hk : k < ρ.length) : ∀ {l : List Cell} {vs : List Value}, CRels D w (l' :: ρf) l vs → CRels D w (ρ.set k l' ++ ρf) (l.map (renC k ρ.length)) vs
  | [], [], _ => trivial
  | _ :: _, _ :: _, h => ⟨CRel.ren hk h.1, CRels.ren hk h.2⟩
  | [], _ :: _, h => h.elim
  | _ :: _, [], h => h.elim
theorem VRel.ren {D : Nat → Prop} {w : World} {ρ ρf : List Loc} {k : Nat} {l' : Loc} (hk : k < ρ.length) : ∀ {x : V} {v : Value}, VRel D w (l' :: ρf) x v → VRel D w (ρ.set k l' ++ ρf) (renV k ρ.length x) v
  | .c _, _, h => CRel.ren hk h
  | .g _, _, h => by obtain ⟨vs, h1, h2⟩ := h; exact ⟨vs, h1, CRels.ren hk h2⟩
  | .t2 _ _, _, h => by obtain ⟨x, y, h1, h2, h3⟩ := h; exact ⟨x, y, h1, VRel.ren hk h2, VRel.ren hk h3⟩
  | .t3 _ _ _, _, h => by obtain ⟨x, y, z, h1, h2, h3, h4⟩ := h; exact ⟨x, y, z, h1, VRel.ren hk h2, VRel.ren hk h3, VRel.ren hk h4⟩
  | .t4 _ _ _ _, _, h => by obtain ⟨x, y, z, u, h1, h2, h3, h4, h5⟩ := h; exact ⟨x, y, z, u, h1, VRel.ren hk h2, VRel.ren hk h3, VRel.ren hk h4, VRel.ren hk h5⟩
theorem CRel.ren0 {D : Nat → Prop} {w : World} {ρ : List Loc} {k n : Nat} {l' : Loc} (hk : k < ρ.length) {c : Cell} {v : Value} (h : CRel D w [l'] c v) : CRel D w (ρ.set k l') (renC k n c) v := by
  have key : ∀ {i : Nat} {l : Loc}, [l'][i]? = some l → (ρ.set k l')[Go.Proofs.YtigciplaoikcfaaGreat.ren k n i]? = some l := by
    intro i l h
    cases i with
    | zero => simp at h; subst h; simp only [Go.Proofs.YtigciplaoikcfaaGreat.ren]; exact List.getElem?_set_self hk
    | succ i => simp at h
  cases c with
  | p | gs | sl => obtain ⟨l, h1, h2⟩ := h; exact ⟨l, key h1, h2⟩
  | cl F m f =>
    simp only [renC]
    split
    · rename_i hc; exact CRel.clos h hc
    · trivial
  | _ => exact h
theorem CRels.ren0 {D : Nat → Prop} {w : World} {ρ : List Loc} {k n : Nat} {l' : Loc} (hk : k < ρ.length) : ∀ {l : List Cell} {vs : List Value}, CRels D w [l'] l vs → CRels D w (ρ.set k l') (l.map (renC k n)) vs
  | [], [], _ => trivial
  | _ :: _, _ :: _, h => ⟨CRel.ren0 hk h.1, CRels.ren0 hk h.2⟩
  | [], _ :: _, h => h.elim
  | _ :: _, [], h => h.elim
theorem VRel.ren0 {D : Nat → Prop} {w : World} {ρ : List Loc} {k n : Nat} {l' : Loc} (hk : k < ρ.length) : ∀ {x : V} {v : Value}, VRel D w [l'] x v → VRel D w (ρ.set k l') (renV k n x) v
  | .c _, _, h => CRel.ren0 hk h
  | .g _, _, h => by obtain ⟨vs, h1, h2⟩ := h; exact ⟨vs, h1, CRels.ren0 hk h2⟩
  | .t2 _ _, _, h => by obtain ⟨x, y, h1, h2, h3⟩ := h; exact ⟨x, y, h1, VRel.ren0 hk h2, VRel.ren0 hk h3⟩
  | .t3 _ _ _, _, h => by obtain ⟨x, y, z, h1, h2, h3, h4⟩ := h; exact ⟨x, y, z, h1, VRel.ren0 hk h2, VRel.ren0 hk h3, VRel.ren0 hk h4⟩
  | .t4 _ _ _ _, _, h => by obtain ⟨x, y, z, u, h1, h2, h3, h4, h5⟩ := h; exact ⟨x, y, z, u, h1, VRel.ren0 hk h2, VRel.ren0 hk h3, VRel.ren0 hk h4, VRel.ren0 hk h5⟩
/-- Only the first block is named. -/
def Cell.fst : Cell → Bool
  | .p i .. | .gs i _ | .sl i .. => i == 0
  | .cl F m f => (Cell.cl F m f).clos
  | _ => true
def V.fst : V → Bool
  | .c x => x.fst
  | .g l => l.all Cell.fst
  | _ => false
theorem CRel.unren {D : Nat → Prop} {w : World} {ρ : List Loc} {k n : Nat} {l : Loc} (hk : ρ[k]? = some l) {c : Cell} {v : Value} (hc : c.fst = true) (h : CRel D w ρ (renC k n c) v) : CRel D w [l] c v := by
  cases c with
  | p i u sz a o => simp only [Cell.fst, beq_iff_eq] at hc; subst hc; obtain ⟨l1, h1, h2⟩ := h; rw [show Go.Proofs.YtigciplaoikcfaaGreat.ren k n 0 = k from rfl, hk] at h1; cases h1; exact ⟨l, rfl, h2⟩
  | gs i u => simp only [Cell.fst, beq_iff_eq] at hc; subst hc; obtain ⟨l1, h1, h2⟩ := h; rw [show Go.Proofs.YtigciplaoikcfaaGreat.ren k n 0 = k from rfl, hk] at h1; cases h1; exact ⟨l, rfl, h2⟩
  | sl i u sz o m => simp only [Cell.fst, beq_iff_eq] at hc; subst hc; obtain ⟨l1, h1, h2⟩ := h; rw [show Go.Proofs.YtigciplaoikcfaaGreat.ren k n 0 = k from rfl, hk] at h1; cases h1; exact ⟨l, rfl, h2⟩
  | cl F m f =>
    have hc : (Cell.cl F m f).clos = true := hc
    simp only [renC, if_pos hc] at h
    exact CRel.clos h hc
  | _ => exact h
theorem CRels.unren {D : Nat → Prop} {w : World} {ρ : List Loc} {k n : Nat} {l : Loc} (hk : ρ[k]? = some l) : ∀ {cs : List Cell} {vs : List Value}, cs.all Cell.fst = true → CRels D w ρ (cs.map (renC k n)) vs → CRels D w [l] cs vs
  | [], [], _, _ => trivial
  | _ :: _, _ :: _, hc, h => by
    simp only [List.all_cons, Bool.and_eq_true] at hc
    exact ⟨CRel.unren hk hc.1 h.1, CRels.unren hk hc.2 h.2⟩
  | [], _ :: _, _, h => h.elim
  | _ :: _, [], _, h => h.elim
theorem VRels.unren {D : Nat → Prop} {w : World} {ρ : List Loc} {k n : Nat} {l : Loc} (hk : ρ[k]? = some l) : ∀ {xs : List V} {vs : List Value}, xs.all V.fst = true → VRels D w ρ (xs.map (renV k n)) vs → VRels D w [l] xs vs
  | [], [], _, _ => trivial
  | x :: _, _ :: _, hc, h => by
    simp only [List.all_cons, Bool.and_eq_true] at hc
    refine ⟨?_, VRels.unren hk hc.2 h.2⟩
    cases x with
    | c y => exact CRel.unren hk hc.1 h.1
    | g l => obtain ⟨vs, h1, h2⟩ := h.1; exact ⟨vs, h1, CRels.unren hk hc.1 h2⟩
    | t2 a b => cases hc.1
    | t3 a b d => cases hc.1
    | t4 a b d e => cases hc.1
  | [], _ :: _, _, h => h.elim
  | _ :: _, [], _, h => h.elim
theorem VRels.step {D D' : Nat → Prop} {w : World} {ρ : List Loc} (hd : ∀ b, b < w.heap.size → D' b → D b) : ∀ {xs : List V} {vs : List Value}, VRels D w ρ xs vs → VRels D' w ρ xs vs
  | [], [], _ => trivial
  | _ :: _, _ :: _, h => ⟨h.1.step (Ext.refl _ _) hd (LocsLe.refl _), VRels.step hd h.2⟩
  | [], _ :: _, h => h.elim
  | _ :: _, [], h => h.elim
section
variable {D0 : Nat → Prop} {w0 : Base} {w : World} {r : Bool} {ρ : List Loc} {bl : List Blk}
/-- What the callee may write. -/
def handed (l : Loc) (B : Blk) (b : Nat) : Prop := B.st = 0 ∧ l.b = some b
theorem handed_dof {k : Nat} {l : Loc} {B : Blk} (h1 : ρ[k]? = some l) (h2 : bl[k]? = some B) {b : Nat} (h : handed l B b) : Dof D0 ρ bl b := .inr ⟨k, l, B, h1, h2, h.1, h.2⟩
theorem Sat.hand (h : Sat D0 w0 r ρ bl w) {k : Nat} {l : Loc} {B : Blk} (h1 : ρ[k]? = some l) (h2 : bl[k]? = some B) (h3 : B.st = 0 ∨ 2 ≤ B.st) (hp : B.plain) :
    Sat (fun b => Dof D0 ρ bl b ∧ ¬ handed l B b) ⟨w, handed l B⟩ r [l] [B] w ∧ ∀ b, Dof (fun b => Dof D0 ρ bl b ∧ ¬ handed l B b) [l] [B] b → Dof D0 ρ bl b := by
  have one : ∀ {α : Type} {x y : α} {i : Nat}, [x][i]? = some y → i = 0 ∧ y = x := by
    intro α x y i h
    cases i with
    | zero => simp at h; exact ⟨rfl, h.symm⟩
    | succ i => simp at h
  have hD : ∀ b, Dof (fun b => Dof D0 ρ bl b ∧ ¬ handed l B b) [l] [B] b → Dof D0 ρ bl b := by
    rintro b (hx | ⟨i, l1, B1, e1, e2, e3, e4⟩)
    · exact hx.1
    · obtain ⟨_, rfl⟩ := one e1
      obtain ⟨_, rfl⟩ := one e2
      exact .inr ⟨k, _, _, h1, h2, e3, e4⟩
  refine ⟨⟨⟨rfl, rfl, rfl, Nat.le_refl _, fun _ _ _ => rfl⟩, fun b hb => ⟨h.lt hb.1, hb.2⟩, rfl, ?_, ?_, fun hr b o d hb => h.noU hr b o d (hD b hb)⟩, hD⟩
  · intro i l1 B1 e1 e2 hst
    obtain ⟨_, rfl⟩ := one e1
    obtain ⟨_, rfl⟩ := one e2
    obtain ⟨g0, g1⟩ := (h.at_ k _ _ h1 h2).step (Ext.refl _ _) (fun b _ hb => hD b hb) (LocsLe.refl _) (fun _ _ => rfl) hst
    refine ⟨g0, ?_⟩
    rcases g1 with g1 | ⟨b, cap, cs, g2, g3, g4, g5, g6, g7, g8, g9⟩
    · exact .inl g1
    · refine .inr ⟨b, cap, cs, g2, .inr ⟨by omega, g2⟩, g4, g5, g6, g7, g8, fun i j hi hj => ?_⟩
      obtain ⟨u, hu, hr⟩ := g9 i j hi hj
      exact ⟨u, hu, CRel.clos hr (hp hst i j hi hj)⟩
  · intro i j li lj Bi Bj b e1 e2
    have a1 := (one e1).1
    have a2 := (one e2).1
    intros; omega
theorem Sat.old (h : Sat D0 w0 r ρ bl w) {k : Nat} {l : Loc} {B : Blk} {b : Nat} (e1 : ρ[k]? = some l) (e2 : bl[k]? = some B) (e3 : B.st ≤ 1) (e4 : l.b = some b) : b < w.heap.size := by
  rcases (h.at_ k l B e1 e2 e3).2 with ⟨_, h5, _⟩ | ⟨b', cap', cs', h5, _, _, h6, _⟩
  · rw [h5] at e4; cases e4
  · rw [h5] at e4; cases e4; exact heap_lt h6
theorem Sat.back (h : Sat D0 w0 r ρ bl w) {k : Nat} {l l' : Loc} {B B' : Blk} {ρf : List Loc} {fresh : List Blk} {w' : World} (h1 : ρ[k]? = some l) (h2 : bl[k]? = some B) (hle : LocsLe [l] [l']) (hp' : B'.plain) (hpf : ∀ F ∈ fresh, F.plain)
    (hs : Sat (fun b => Dof D0 ρ bl b ∧ ¬ handed l B b) ⟨w, handed l B⟩ r (l' :: ρf) (B' :: fresh) w') :
    Sat D0 w0 r (ρ.set k l' ++ ρf) (bl.set k B' ++ fresh) w' ∧ Ext (Dof D0 ρ bl) w w' ∧ (∀ b, b < w.heap.size → Dof D0 (ρ.set k l' ++ ρf) (bl.set k B' ++ fresh) b → Dof D0 ρ bl b) ∧ LocsLe ρ (ρ.set k l' ++ ρf) ∧ ∀ b, Dof D0 (ρ.set k l' ++ ρf) (bl.set k B' ++ fresh) b → Dof (fun b => Dof D0 ρ bl b ∧ ¬ handed l B b) (l' :: ρf) (B' :: fresh) b := by
  have hk : k < ρ.length := (List.getElem?_eq_some_iff.1 h1).1
  have hkb : k < bl.length := (List.getElem?_eq_some_iff.1 h2).1
  have hlen := h.len
  have hlf : ρf.length = fresh.length := by have := hs.len; simpa using this
  have get : ∀ (j : Nat) (lj : Loc) (Bj : Blk), (ρ.set k l' ++ ρf)[j]? = some lj → (bl.set k B' ++ fresh)[j]? = some Bj → (j < ρ.length ∧ j ≠ k ∧ ρ[j]? = some lj ∧ bl[j]? = some Bj) ∨ ∃ i, j = ren k ρ.length i ∧ (l' :: ρf)[i]? = some lj ∧ (B' :: fresh)[i]? = some Bj := by
    intro j lj Bj e1 e2
    rcases Nat.lt_or_ge j ρ.length with hj | hj
    · rw [List.getElem?_append_left (by simpa using hj)] at e1
      rw [List.getElem?_append_left (by simp; omega)] at e2
      by_cases e : j = k
      · subst e
        rw [List.getElem?_set_self hk] at e1
        rw [List.getElem?_set_self hkb] at e2
        exact .inr ⟨0, rfl, by simpa using e1, by simpa using e2⟩
      · rw [List.getElem?_set_ne (fun h => e h.symm)] at e1 e2
        exact .inl ⟨hj, e, e1, e2⟩
    · rw [List.getElem?_append_right (by simpa using hj)] at e1
      rw [List.getElem?_append_right (by simp; omega)] at e2
      refine .inr ⟨j - ρ.length + 1, by simp only [ren]; omega, by simpa using e1, ?_⟩
      simp only [List.length_set] at e2
      rw [← hlen] at e2
      simpa using e2
  have notH : ∀ (j : Nat) (lj : Loc) (Bj : Blk) (b : Nat), j ≠ k → ρ[j]? = some lj → bl[j]? = some Bj → Bj.st ≤ 1 → lj.b = some b → ¬ handed l B b := by
    intro j lj Bj b hj e1 e2 e3 e4 hh
    exact hj (h.dist j k lj l Bj B b e1 h1 e2 h2 e3 (by have := hh.1; omega) e4 hh.2)
  have notD0 : ∀ b, D0 b → ¬ handed l B b := by
    intro b hb hh
    have e1 := h.d0 b hb
    rcases h.own h1 h2 (by have := hh.1; omega) hh.2 with e2 | e2
    · omega
    · exact e1.2 e2
  have hE : Ext (Dof D0 ρ bl) w w' := ⟨hs.below.size, fun b hb hd => hs.below.block b hb fun hh => hd (handed_dof h1 h2 hh)⟩
  have hD' : ∀ b, Dof D0 (ρ.set k l' ++ ρf) (bl.set k B' ++ fresh) b → Dof (fun b => Dof D0 ρ bl b ∧ ¬ handed l B b) (l' :: ρf) (B' :: fresh) b := by
    rintro b (hx | ⟨j, lj, Bj, e1, e2, e3, e4⟩)
    · exact .inl ⟨.inl hx, notD0 b hx⟩
    · rcases get j lj Bj e1 e2 with ⟨_, hjk, g1, g2⟩ | ⟨i, _, g1, g2⟩
      · exact .inl ⟨.inr ⟨j, lj, Bj, g1, g2, e3, e4⟩, notH j lj Bj b hjk g1 g2 (by omega) e4⟩
      · exact .inr ⟨i, lj, Bj, g1, g2, e3, e4⟩
  have hD : ∀ b, b < w.heap.size → Dof D0 (ρ.set k l' ++ ρf) (bl.set k B' ++ fresh) b → Dof D0 ρ bl b := by
    intro b hb hx
    rcases hD' b hx with h5 | ⟨i, li, Bi, e1, e2, e3, e4⟩
    · exact h5.1
    · rcases hs.own e1 e2 (by omega) e4 with e5 | e5
      · have e5 : w.heap.size ≤ b := e5
        omega
      · exact handed_dof h1 h2 e5
  have hlo : LocsLe ρ (ρ.set k l' ++ ρf) := by
    intro j lj e1
    by_cases e : j = k
    · subst e
      rw [h1] at e1; cases e1
      obtain ⟨l2, q1, q2, q3⟩ := hle 0 l rfl
      have q1 : l2 = l' := by simpa using q1.symm
      subst q1
      exact ⟨l2, by rw [List.getElem?_append_left (by simpa using hk), List.getElem?_set_self hk], q2, q3⟩
    · exact ⟨lj, by rw [List.getElem?_append_left (by simpa using (List.getElem?_eq_some_iff.1 e1).1), List.getElem?_set_ne (fun h => e h.symm)]; exact e1, fun _ => rfl, Nat.le_refl _⟩
  have mine : ∀ b, Base.mine ⟨w, handed l B⟩ b → w0.mine b := by
    intro b hb
    rcases hb with hb | hb
    · exact .inl (Nat.le_trans h.below.size hb)
    · exact h.own h1 h2 (by have := hb.1; omega) hb.2
  refine ⟨⟨⟨hs.below.os.trans h.below.os, hs.below.tape.trans h.below.tape, hs.below.output.trans h.below.output, Nat.le_trans h.below.size hs.below.size, fun b hb hm => ?_⟩, h.d0, by simp [hlen, hlf], ?_, ?_, fun hr b o d hb => hs.noU hr b o d (hD' b hb)⟩, hE, hD, hlo, hD'⟩
  · refine (hs.below.block b (Nat.lt_of_lt_of_le hb h.below.size) fun hh => ?_).trans (h.below.block b hb hm)
    rcases h.own h1 h2 (by have := hh.1; omega) hh.2 with e5 | e5
    · omega
    · exact hm e5
  · intro j lj Bj e1 e2 hst
    rcases get j lj Bj e1 e2 with ⟨_, hjk, g1, g2⟩ | ⟨i, _, g1, g2⟩
    · exact (h.at_ j lj Bj g1 g2).step hE hD hlo (fun b e => hs.below.block b (h.old g1 g2 hst e) (notH j lj Bj b hjk g1 g2 hst e)) hst
    · obtain ⟨q0, q1⟩ := hs.at_ i lj Bj g1 g2 hst
      refine ⟨q0, ?_⟩
      rcases q1 with q1 | ⟨b, cap, cs, q2, q3, q4, q5, q6, q7, q8, q9⟩
      · exact .inl q1
      · refine .inr ⟨b, cap, cs, q2, mine b q3, q4, q5, q6, q7, q8, fun x y hx hy => ?_⟩
        obtain ⟨u, hu, hur⟩ := q9 x y hx hy
        have hpl : Bj.plain := by
          cases i with
          | zero => simp at g2; subst g2; exact hp'
          | succ i => exact hpf Bj (List.mem_of_getElem? (by simpa using g2))
        exact ⟨u, hu, (CRel.clos hur (hpl hst x y hx hy)).step (Ext.refl _ _) (fun b _ hb => hD' b hb) (LocsLe.refl _)⟩
  · intro i j li lj Bi Bj b e1 e2 e3 e4 e5 e6 e7 e8
    rcases get i li Bi e1 e3 with ⟨_, hik, g1, g2⟩ | ⟨i', rfl, g1, g2⟩ <;> rcases get j lj Bj e2 e4 with ⟨_, hjk, g3, g4⟩ | ⟨j', rfl, g3, g4⟩
    · exact h.dist i j li lj Bi Bj b g1 g3 g2 g4 e5 e6 e7 e8
    · exfalso
      rcases hs.own g3 g4 e6 e8 with q | q
      · have q : w.heap.size ≤ b := q
        have := h.old g1 g2 e5 e7; omega
      · exact notH i li Bi b hik g1 g2 e5 e7 q
    · exfalso
      rcases hs.own g1 g2 e5 e7 with q | q
      · have q : w.heap.size ≤ b := q
        have := h.old g3 g4 e6 e8; omega
      · exact notH j lj Bj b hjk g3 g4 e6 e8 q
    · rw [hs.dist i' j' li lj Bi Bj b g1 g3 g2 g4 e5 e6 e7 e8]
/-- The block that a call hands back takes the place kept for it. -/
theorem Sat.backF (h : Sat D0 w0 r ρ bl w) {fr : Nat} {l0 l' lf : Loc} {Bd P' F : Blk} {w' : World} (h1 : ρ[fr]? = some l0) (hu0 : l0.u = 0) (h2 : bl[fr]? = some Bd) (h3 : 2 ≤ Bd.st) (hF : F.st = 0) (hp : F.plain)
    (hs : Sat (fun b => Dof D0 ρ bl b ∧ ¬ handed l0 Bd b) ⟨w, handed l0 Bd⟩ r [l', lf] [P', F] w') :
    Sat D0 w0 r (ρ.set fr { lf with u := 1 }) (bl.set fr { F with u := 1 }) w' ∧ Ext (Dof D0 ρ bl) w w' ∧ (∀ b, b < w.heap.size → Dof D0 (ρ.set fr { lf with u := 1 }) (bl.set fr { F with u := 1 }) b → Dof D0 ρ bl b) ∧ LocsLe ρ (ρ.set fr { lf with u := 1 }) ∧ ∀ b, Dof D0 (ρ.set fr { lf with u := 1 }) (bl.set fr { F with u := 1 }) b → Dof (fun b => Dof D0 ρ bl b ∧ ¬ handed l0 Bd b) [l', lf] [P', F] b := by
  have hk : fr < ρ.length := (List.getElem?_eq_some_iff.1 h1).1
  have hkb : fr < bl.length := (List.getElem?_eq_some_iff.1 h2).1
  have notH : ∀ b, ¬ handed l0 Bd b := fun b hh => by have := hh.1; omega
  have get : ∀ (j : Nat) (lj : Loc) (Bj : Blk), (ρ.set fr { lf with u := 1 })[j]? = some lj → (bl.set fr { F with u := 1 })[j]? = some Bj → (j ≠ fr ∧ ρ[j]? = some lj ∧ bl[j]? = some Bj) ∨ (j = fr ∧ lj = { lf with u := 1 } ∧ Bj = { F with u := 1 }) := by
    intro j lj Bj e1 e2
    by_cases e : j = fr
    · subst e
      rw [List.getElem?_set_self hk] at e1
      rw [List.getElem?_set_self hkb] at e2
      cases e1; cases e2
      exact .inr ⟨rfl, rfl, rfl⟩
    · rw [List.getElem?_set_ne (fun h => e h.symm)] at e1 e2
      exact .inl ⟨e, e1, e2⟩
  have hE : Ext (Dof D0 ρ bl) w w' := ⟨hs.below.size, fun b hb _ => hs.below.block b hb (notH b)⟩
  have newb : ∀ b, lf.b = some b → w.heap.size ≤ b := by
    intro b hb
    rcases hs.own (k := 1) (l := lf) (B := F) rfl rfl (by omega) hb with e | e
    · exact e
    · exact absurd e (notH b)
  have hD' : ∀ b, Dof D0 (ρ.set fr { lf with u := 1 }) (bl.set fr { F with u := 1 }) b → Dof (fun b => Dof D0 ρ bl b ∧ ¬ handed l0 Bd b) [l', lf] [P', F] b := by
    rintro b (hx | ⟨j, lj, Bj, e1, e2, e3, e4⟩)
    · exact .inl ⟨.inl hx, notH b⟩
    · rcases get j lj Bj e1 e2 with ⟨_, g1, g2⟩ | ⟨_, rfl, rfl⟩
      · exact .inl ⟨.inr ⟨j, lj, Bj, g1, g2, e3, e4⟩, notH b⟩
      · exact .inr ⟨1, lf, F, rfl, rfl, hF, e4⟩
  have hD : ∀ b, b < w.heap.size → Dof D0 (ρ.set fr { lf with u := 1 }) (bl.set fr { F with u := 1 }) b → Dof D0 ρ bl b := by
    rintro b hb (hx | ⟨j, lj, Bj, e1, e2, e3, e4⟩)
    · exact .inl hx
    · rcases get j lj Bj e1 e2 with ⟨_, g1, g2⟩ | ⟨_, rfl, rfl⟩
      · exact .inr ⟨j, lj, Bj, g1, g2, e3, e4⟩
      · have := newb b e4; omega
  have hlo : LocsLe ρ (ρ.set fr { lf with u := 1 }) := by
    intro j lj e1
    by_cases e : j = fr
    · subst e
      rw [h1] at e1; cases e1
      exact ⟨_, List.getElem?_set_self hk, fun e => by simp at e; omega, by simp; omega⟩
    · exact ⟨lj, by rw [List.getElem?_set_ne (fun h => e h.symm)]; exact e1, fun _ => rfl, Nat.le_refl _⟩
  refine ⟨⟨⟨hs.below.os.trans h.below.os, hs.below.tape.trans h.below.tape, hs.below.output.trans h.below.output, Nat.le_trans h.below.size hs.below.size, fun b hb hm => (hs.below.block b (Nat.lt_of_lt_of_le hb h.below.size) (notH b)).trans (h.below.block b hb hm)⟩, h.d0, by simp [h.len], ?_, ?_, fun hr b o d hb => hs.noU hr b o d (hD' b hb)⟩, hE, hD, hlo, hD'⟩
  · intro j lj Bj e1 e2 hst
    rcases get j lj Bj e1 e2 with ⟨_, g1, g2⟩ | ⟨_, rfl, rfl⟩
    · exact (h.at_ j lj Bj g1 g2).step hE hD hlo (fun b e => hs.below.block b (h.old g1 g2 hst e) (notH b)) hst
    · obtain ⟨q0, q1⟩ := hs.at_ 1 lf F rfl rfl (by omega)
      refine ⟨rfl, ?_⟩
      rcases q1 with q1 | ⟨b, cap, cs, q2, q3, q4, q5, q6, q7, q8, q9⟩
      · exact .inl q1
      · refine .inr ⟨b, cap, cs, q2, .inl (Nat.le_trans h.below.size (newb b q2)), q4, q5, q6, q7, q8, fun x y hx hy => ?_⟩
        obtain ⟨u, hu, hur⟩ := q9 x y hx hy
        exact ⟨u, hu, (CRel.clos hur (hp (by omega) x y hx hy)).step (Ext.refl _ _) (fun b _ hb => hD' b hb) (LocsLe.refl _)⟩
  · intro i j li lj Bi Bj b e1 e2 e3 e4 e5 e6 e7 e8
    rcases get i li Bi e1 e3 with ⟨_, g1, g2⟩ | ⟨hi, rfl, rfl⟩ <;> rcases get j lj Bj e2 e4 with ⟨_, g3, g4⟩ | ⟨hj, rfl, rfl⟩
    · exact h.dist i j li lj Bi Bj b g1 g3 g2 g4 e5 e6 e7 e8
    · have q := newb b e8; have := h.old g1 g2 e5 e7; omega
    · have q := newb b e7; have := h.old g3 g4 e6 e8; omega
    · rw [hi, hj]
theorem Sat.backS (h : Sat D0 w0 r ρ bl w) {fr : Nat} {l0 lf : Loc} {Bd F : Blk} {w' : World} (h1 : ρ[fr]? = some l0) (hu0 : l0.u = 0) (h2 : bl[fr]? = some Bd) (hF : F.st = 0) (hp : F.plain)
    (hs : Sat (Dof D0 ρ bl) ⟨w, fun _ => False⟩ r [lf] [F] w') :
    Sat D0 w0 r (ρ.set fr { lf with u := 1 }) (bl.set fr { F with u := 1 }) w' ∧ Ext (Dof D0 ρ bl) w w' ∧ (∀ b, b < w.heap.size → Dof D0 (ρ.set fr { lf with u := 1 }) (bl.set fr { F with u := 1 }) b → Dof D0 ρ bl b) ∧ LocsLe ρ (ρ.set fr { lf with u := 1 }) ∧ ∀ b, Dof D0 (ρ.set fr { lf with u := 1 }) (bl.set fr { F with u := 1 }) b → Dof (Dof D0 ρ bl) [lf] [F] b := by
  have hk : fr < ρ.length := (List.getElem?_eq_some_iff.1 h1).1
  have hkb : fr < bl.length := (List.getElem?_eq_some_iff.1 h2).1
  have get : ∀ (j : Nat) (lj : Loc) (Bj : Blk), (ρ.set fr { lf with u := 1 })[j]? = some lj → (bl.set fr { F with u := 1 })[j]? = some Bj → (j ≠ fr ∧ ρ[j]? = some lj ∧ bl[j]? = some Bj) ∨ (j = fr ∧ lj = { lf with u := 1 } ∧ Bj = { F with u := 1 }) := by
    intro j lj Bj e1 e2
    by_cases e : j = fr
    · subst e
      rw [List.getElem?_set_self hk] at e1
      rw [List.getElem?_set_self hkb] at e2
      cases e1; cases e2
      exact .inr ⟨rfl, rfl, rfl⟩
    · rw [List.getElem?_set_ne (fun h => e h.symm)] at e1 e2
      exact .inl ⟨e, e1, e2⟩
  have hE : Ext (Dof D0 ρ bl) w w' := ⟨hs.below.size, fun b hb _ => hs.below.block b hb id⟩
  have newb : ∀ b, lf.b = some b → w.heap.size ≤ b := by
    intro b hb
    rcases hs.own (k := 0) (l := lf) (B := F) rfl rfl (by omega) hb with e | e
    · exact e
    · exact e.elim
  have hD' : ∀ b, Dof D0 (ρ.set fr { lf with u := 1 }) (bl.set fr { F with u := 1 }) b → Dof (Dof D0 ρ bl) [lf] [F] b := by
    rintro b (hx | ⟨j, lj, Bj, e1, e2, e3, e4⟩)
    · exact .inl (.inl hx)
    · rcases get j lj Bj e1 e2 with ⟨_, g1, g2⟩ | ⟨_, rfl, rfl⟩
      · exact .inl (.inr ⟨j, lj, Bj, g1, g2, e3, e4⟩)
      · exact .inr ⟨0, lf, F, rfl, rfl, hF, e4⟩
  have hD : ∀ b, b < w.heap.size → Dof D0 (ρ.set fr { lf with u := 1 }) (bl.set fr { F with u := 1 }) b → Dof D0 ρ bl b := by
    rintro b hb (hx | ⟨j, lj, Bj, e1, e2, e3, e4⟩)
    · exact .inl hx
    · rcases get j lj Bj e1 e2 with ⟨_, g1, g2⟩ | ⟨_, rfl, rfl⟩
      · exact .inr ⟨j, lj, Bj, g1, g2, e3, e4⟩
      · have := newb b e4; omega
  have hlo : LocsLe ρ (ρ.set fr { lf with u := 1 }) := by
    intro j lj e1
    by_cases e : j = fr
    · subst e
      rw [h1] at e1; cases e1
      exact ⟨_, List.getElem?_set_self hk, fun e => by simp at e; omega, by simp; omega⟩
    · exact ⟨lj, by rw [List.getElem?_set_ne (fun h => e h.symm)]; exact e1, fun _ => rfl, Nat.le_refl _⟩
  refine ⟨⟨⟨hs.below.os.trans h.below.os, hs.below.tape.trans h.below.tape, hs.below.output.trans h.below.output, Nat.le_trans h.below.size hs.below.size, fun b hb hm => (hs.below.block b (Nat.lt_of_lt_of_le hb h.below.size) id).trans (h.below.block b hb hm)⟩, h.d0, by simp [h.len], ?_, ?_, fun hr b o d hb => hs.noU hr b o d (hD' b hb)⟩, hE, hD, hlo, hD'⟩
  · intro j lj Bj e1 e2 hst
    rcases get j lj Bj e1 e2 with ⟨_, g1, g2⟩ | ⟨_, rfl, rfl⟩
    · exact (h.at_ j lj Bj g1 g2).step hE hD hlo (fun b e => hs.below.block b (h.old g1 g2 hst e) id) hst
    · obtain ⟨q0, q1⟩ := hs.at_ 0 lf F rfl rfl (by omega)
      refine ⟨rfl, ?_⟩
      rcases q1 with q1 | ⟨b, cap, cs, q2, q3, q4, q5, q6, q7, q8, q9⟩
      · exact .inl q1
      · refine .inr ⟨b, cap, cs, q2, .inl (Nat.le_trans h.below.size (newb b q2)), q4, q5, q6, q7, q8, fun x y hx hy => ?_⟩
        obtain ⟨u, hu, hur⟩ := q9 x y hx hy
        exact ⟨u, hu, (CRel.clos hur (hp (by omega) x y hx hy)).step (Ext.refl _ _) (fun b _ hb => hD' b hb) (LocsLe.refl _)⟩
  · intro i j li lj Bi Bj b e1 e2 e3 e4 e5 e6 e7 e8
    rcases get i li Bi e1 e3 with ⟨_, g1, g2⟩ | ⟨hi, rfl, rfl⟩ <;> rcases get j lj Bj e2 e4 with ⟨_, g3, g4⟩ | ⟨hj, rfl, rfl⟩
    · exact h.dist i j li lj Bi Bj b g1 g3 g2 g4 e5 e6 e7 e8
    · have q := newb b e8; have := h.old g1 g2 e5 e7; omega
    · have q := newb b e7; have := h.old g3 g4 e6 e8; omega
    · rw [hi, hj]
/-- What a call hands back, where its block has the place fr. -/
def renF (fr : Nat) : Cell → Cell
  | .p i u sz a o => match i, u with
    | 1, 0 => .p fr 1 sz a o
    | _, _ => .any
  | .gs i u => match i, u with
    | 1, 0 => .gs fr 1
    | _, _ => .any
  | .sl i u sz o m => match i, u with
    | 1, 0 => .sl fr 1 sz o m
    | _, _ => .any
  | .cl F m f => if (Cell.cl F m f).clos then .cl F m f else .any
  | c => c
def renFV (fr : Nat) : V → V
  | .c x => .c (renF fr x)
  | .g l => .g (l.map (renF fr))
  | .t2 a b => .t2 (renFV fr a) (renFV fr b)
  | .t3 a b d => .t3 (renFV fr a) (renFV fr b) (renFV fr d)
  | .t4 a b d e => .t4 (renFV fr a) (renFV fr b) (renFV fr d) (renFV fr e)
theorem renF_rel {D : Nat → Prop} {ρ1 : List Loc} {fr : Nat} {l' lf : Loc} (hk : fr < ρ1.length) (hu : lf.u = 0) {c : Cell} {v : Value} (h : CRel D w [l', lf] c v) : CRel D w (ρ1.set fr { lf with u := 1 }) (renF fr c) v := by
  cases c with
  | p i u sz a o =>
    simp only [renF]
    split
    · obtain ⟨l, h1, h2, h3⟩ := h
      have h1 : lf = l := by simpa using h1
      subst h1
      exact ⟨_, List.getElem?_set_self hk, Nat.le_refl _, fun _ => h3 hu⟩
    · trivial
  | gs i u =>
    simp only [renF]
    split
    · obtain ⟨l, h1, h2, h3⟩ := h
      have h1 : lf = l := by simpa using h1
      subst h1
      exact ⟨_, List.getElem?_set_self hk, Nat.le_refl _, fun _ => h3 hu⟩
    · trivial
  | sl i u sz o m =>
    simp only [renF]
    split
    · obtain ⟨l, h1, h2, h3⟩ := h
      have h1 : lf = l := by simpa using h1
      subst h1
      exact ⟨_, List.getElem?_set_self hk, Nat.le_refl _, fun _ => h3 hu⟩
    · trivial
  | cl F m f =>
    simp only [renF]
    split
    · rename_i hc; exact CRel.clos h hc
    · trivial
  | _ => exact h
theorem renFs_rel {D : Nat → Prop} {ρ1 : List Loc} {fr : Nat} {l' lf : Loc} (hk : fr < ρ1.length) (hu : lf.u = 0) : ∀ {cs : List Cell} {vs : List Value}, CRels D w [l', lf] cs vs → CRels D w (ρ1.set fr { lf with u := 1 }) (cs.map (renF fr)) vs
  | [], [], _ => trivial
  | _ :: _, _ :: _, h => ⟨renF_rel hk hu h.1, renFs_rel hk hu h.2⟩
  | [], _ :: _, h => h.elim
  | _ :: _, [], h => h.elim
theorem renFV_rel {D : Nat → Prop} {ρ1 : List Loc} {fr : Nat} {l' lf : Loc} (hk : fr < ρ1.length) (hu : lf.u = 0) : ∀ {x : V} {v : Value}, VRel D w [l', lf] x v → VRel D w (ρ1.set fr { lf with u := 1 }) (renFV fr x) v
  | .c _, _, h => renF_rel hk hu h
  | .g _, _, h => by obtain ⟨vs, h1, h2⟩ := h; exact ⟨vs, h1, renFs_rel hk hu h2⟩
  | .t2 _ _, _, h => by obtain ⟨x, y, h1, h2, h3⟩ := h; exact ⟨x, y, h1, renFV_rel hk hu h2, renFV_rel hk hu h3⟩
  | .t3 _ _ _, _, h => by obtain ⟨x, y, z, h1, h2, h3, h4⟩ := h; exact ⟨x, y, z, h1, renFV_rel hk hu h2, renFV_rel hk hu h3, renFV_rel hk hu h4⟩
  | .t4 _ _ _ _, _, h => by obtain ⟨x, y, z, u, h1, h2, h3, h4, h5⟩ := h; exact ⟨x, y, z, u, h1, renFV_rel hk hu h2, renFV_rel hk hu h3, renFV_rel hk hu h4, renFV_rel hk hu h5⟩
/-- What a call hands back, where its one block has the place fr. -/
def renG (fr : Nat) : Cell → Cell
  | .p i u sz a o => match i, u with
    | 0, 0 => .p fr 1 sz a o
    | _, _ => .any
  | .gs i u => match i, u with
    | 0, 0 => .gs fr 1
    | _, _ => .any
  | .sl i u sz o m => match i, u with
    | 0, 0 => .sl fr 1 sz o m
    | _, _ => .any
  | .cl F m f => if (Cell.cl F m f).clos then .cl F m f else .any
  | c => c
def renGV (fr : Nat) : V → V
  | .c x => .c (renG fr x)
  | .g l => .g (l.map (renG fr))
  | .t2 a b => .t2 (renGV fr a) (renGV fr b)
  | .t3 a b d => .t3 (renGV fr a) (renGV fr b) (renGV fr d)
  | .t4 a b d e => .t4 (renGV fr a) (renGV fr b) (renGV fr d) (renGV fr e)
theorem renG_rel {D : Nat → Prop} {ρ1 : List Loc} {fr : Nat} {lf : Loc} (hk : fr < ρ1.length) (hu : lf.u = 0) {c : Cell} {v : Value} (h : CRel D w [lf] c v) : CRel D w (ρ1.set fr { lf with u := 1 }) (renG fr c) v := by
  cases c with
  | p i u sz a o =>
    simp only [renG]
    split
    · obtain ⟨l, h1, h2, h3⟩ := h
      have h1 : lf = l := by simpa using h1
      subst h1
      exact ⟨_, List.getElem?_set_self hk, Nat.le_refl _, fun _ => h3 hu⟩
    · trivial
  | gs i u =>
    simp only [renG]
    split
    · obtain ⟨l, h1, h2, h3⟩ := h
      have h1 : lf = l := by simpa using h1
      subst h1
      exact ⟨_, List.getElem?_set_self hk, Nat.le_refl _, fun _ => h3 hu⟩
    · trivial
  | sl i u sz o m =>
    simp only [renG]
    split
    · obtain ⟨l, h1, h2, h3⟩ := h
      have h1 : lf = l := by simpa using h1
      subst h1
      exact ⟨_, List.getElem?_set_self hk, Nat.le_refl _, fun _ => h3 hu⟩
    · trivial
  | cl F m f =>
    simp only [renG]
    split
    · rename_i hc; exact CRel.clos h hc
    · trivial
  | _ => exact h
theorem renGs_rel {D : Nat → Prop} {ρ1 : List Loc} {fr : Nat} {lf : Loc} (hk : fr < ρ1.length) (hu : lf.u = 0) : ∀ {cs : List Cell} {vs : List Value}, CRels D w [lf] cs vs → CRels D w (ρ1.set fr { lf with u := 1 }) (cs.map (renG fr)) vs
  | [], [], _ => trivial
  | _ :: _, _ :: _, h => ⟨renG_rel hk hu h.1, renGs_rel hk hu h.2⟩
  | [], _ :: _, h => h.elim
  | _ :: _, [], h => h.elim
theorem renGV_rel {D : Nat → Prop} {ρ1 : List Loc} {fr : Nat} {lf : Loc} (hk : fr < ρ1.length) (hu : lf.u = 0) : ∀ {x : V} {v : Value}, VRel D w [lf] x v → VRel D w (ρ1.set fr { lf with u := 1 }) (renGV fr x) v
  | .c _, _, h => renG_rel hk hu h
  | .g _, _, h => by obtain ⟨vs, h1, h2⟩ := h; exact ⟨vs, h1, renGs_rel hk hu h2⟩
  | .t2 _ _, _, h => by obtain ⟨x, y, h1, h2, h3⟩ := h; exact ⟨x, y, h1, renGV_rel hk hu h2, renGV_rel hk hu h3⟩
  | .t3 _ _ _, _, h => by obtain ⟨x, y, z, h1, h2, h3, h4⟩ := h; exact ⟨x, y, z, h1, renGV_rel hk hu h2, renGV_rel hk hu h3, renGV_rel hk hu h4⟩
  | .t4 _ _ _ _, _, h => by obtain ⟨x, y, z, u, h1, h2, h3, h4, h5⟩ := h; exact ⟨x, y, z, u, h1, renGV_rel hk hu h2, renGV_rel hk hu h3, renGV_rel hk hu h4, renGV_rel hk hu h5⟩
end
theorem callM_core {E : Env} {C : Ctx} {σ : St} {a : Act} {w : World} {o : Oper} {g : Operand} {args : Array Operand} {ts : Array TypeId} {f : FuncId} (hx : o.op = .call { callee := .value g, args, argTypes := ts }) (hg : calleeA σ g = some f) (hr : Rel C σ a w)
    {k : Nat} {B B' : Blk} {as : List V} {X : V} {fresh : List Blk} (hM : FnM E.P C.r f B as X B' fresh) (h2 : σ.bl[k]? = some B) (h3 : B.st = 0 ∨ 2 ≤ B.st) (hp : B.plain) (hp' : B'.plain) (hpf : ∀ F ∈ fresh, F.plain) (hfst : as.all V.fst = true)
    (hvs : (args.toList.map fun x => St.close σ.bl (σ.ev x)) = as.map (renV k σ.bl.length)) (hd : dstOK C.N o.dst) {next : Act → World → Prop} {Q : Exit → Act → World → Prop}
    (hn : ∀ a' w', Rel C (St.put ⟨σ.tm, σ.bl.set k B' ++ fresh⟩ o.dst (renV k σ.bl.length X)) a' w' → next a' w') : o.wp E.P a w next Q := by
  obtain ⟨ρ, hs, hN, hdf, hf⟩ := hr
  have hlen := hs.len
  obtain ⟨l, h1⟩ : ∃ l, ρ[k]? = some l := ⟨_, List.getElem?_eq_getElem (by rw [hlen]; exact (List.getElem?_eq_some_iff.1 h2).1)⟩
  have hk : k < ρ.length := (List.getElem?_eq_some_iff.1 h1).1
  obtain ⟨s1, s2⟩ := hs.hand h1 h2 h3 hp
  have hg' := callee_eval hg (ev_rel hf g)
  unfold Oper.wp
  rw [exec_call hx hg' hM.1, Oper.upon_enter]
  have hv : VRels (Dof C.D0 ρ σ.bl) w ρ (args.toList.map fun x => St.close σ.bl (σ.ev x)) (args.toList.map a.eval) :=
    VRels.map args.toList fun x _ => close_rel hs (ev_rel hf x)
  rw [hvs] at hv
  have hv2 := VRels.step (D' := Dof (fun b => Dof C.D0 ρ σ.bl b ∧ ¬ handed l B b) [l] [B]) (fun b _ hb => s2 b hb) (VRels.unren h1 hfst hv)
  have := hM.2 _ _ l w _ s1 hv2
  rw [show (args.toList.map a.eval).toArray = args.map a.eval by rw [← Array.toList_map, Array.toArray_toList]] at this
  refine this.mono ?_
  rintro e w' ⟨v, l', ρf, rfl, q1, q2, q3⟩
  obtain ⟨b1, b2, b3, b4, b5⟩ := hs.back h1 h2 q2 hp' hpf q1
  refine hn _ w' (Rel.put (σ := ⟨σ.tm, σ.bl.set k B' ++ fresh⟩) b1 ⟨hN.1, hN.2.trans b4⟩ hdf (frame_step b2 b3 b4 hf) hd ?_)
  rw [← hlen]
  exact (VRel.ren hk q3).step (Ext.refl _ _) (fun b _ hb => b5 b hb) (LocsLe.refl _)
end Go.Proofs.YtigciplaoikcfaaGreat
