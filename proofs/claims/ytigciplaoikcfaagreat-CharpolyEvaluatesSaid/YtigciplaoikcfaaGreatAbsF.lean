/- Abstract operations that make or write blocks of the call's own; operations in the order of the text. -/
import Derived.Test.YtigciplaoikcfaaGreatAbsE
namespace Go.Proofs.YtigciplaoikcfaaGreat
open Go.RowKit
def Rel (C : Ctx) (σ : St) (a : Act) (w : World) : Prop :=
  ∃ ρ, Sat C.D0 C.w0 C.r ρ σ.bl w ∧ (C.N ≤ a.tmps.size ∧ LocsLe C.ρ0 ρ) ∧ a.defers = [] ∧ ∀ t, VRel (Dof C.D0 ρ σ.bl) w ρ (σ.tm t) (a.tmps.getD t undef)
def upd (f : Nat → V) (d : Nat) (v : V) (t : Nat) : V := if t = d then v else f t
def St.put (σ : St) (dst : Option Nat) (v : V) : St :=
  match dst with
  | some d => { σ with tm := upd σ.tm d v }
  | none => σ
@[simp] theorem St.put_bl (σ : St) (dst : Option Nat) (v : V) : (σ.put dst v).bl = σ.bl := by cases dst <;> rfl
def dstOK (N : Nat) (dst : Option Nat) : Prop := ∀ d : Nat, dst = some d → d < N
theorem frame_put {D : Nat → Prop} {w : World} {ρ : List Loc} {σ : St} {a : Act} {N : Nat} {dst : Option Nat} {v : V} {x : Value} (hN : N ≤ a.tmps.size) (hd : dstOK N dst) (h : ∀ t, VRel D w ρ (σ.tm t) (a.tmps.getD t undef)) (hv : VRel D w ρ v x) :
    N ≤ (a.put dst x).tmps.size ∧ (a.put dst x).defers = a.defers ∧ ∀ t, VRel D w ρ ((σ.put dst v).tm t) ((a.put dst x).tmps.getD t undef) := by
  cases dst with
  | none => exact ⟨hN, rfl, h⟩
  | some d =>
    have hlt : d < N := hd d rfl
    refine ⟨by simpa [Act.put] using hN, rfl, fun t => ?_⟩
    simp only [St.put, Act.put, upd]
    by_cases e : t = d
    · subst e
      rw [if_pos rfl]
      have h2 : t < a.tmps.size := by omega
      rw [show (a.tmps.setIfInBounds t x).getD t undef = x by simp [Array.getD, h2]]
      exact hv
    · rw [if_neg e]
      rw [show (a.tmps.setIfInBounds d x).getD t undef = a.tmps.getD t undef by
        simp [Array.getD_eq_getD_getElem?, Array.getElem?_setIfInBounds_ne (fun h => e h.symm)]]
      exact h t
theorem Rel.put {C : Ctx} {σ : St} {a : Act} {w : World} {ρ : List Loc} (hs : Sat C.D0 C.w0 C.r ρ σ.bl w) (hN : C.N ≤ a.tmps.size ∧ LocsLe C.ρ0 ρ) (hdf : a.defers = []) (h : ∀ t, VRel (Dof C.D0 ρ σ.bl) w ρ (σ.tm t) (a.tmps.getD t undef)) {dst : Option Nat} (hd : dstOK C.N dst) {v : V} {x : Value} (hv : VRel (Dof C.D0 ρ σ.bl) w ρ v x) : Rel C (σ.put dst v) (a.put dst x) w := by
  obtain ⟨h1, h2, h3⟩ := frame_put hN.1 hd h hv
  exact ⟨ρ, by rw [St.put_bl]; exact hs, ⟨h1, hN.2⟩, h2.trans hdf, by rw [St.put_bl]; exact h3⟩
/-- The frame in a later world, with other blocks. -/
theorem frame_step {D D' : Nat → Prop} {w w' : World} {ρ ρ' : List Loc} (he : Ext D w w') (hd : ∀ b, b < w.heap.size → D' b → D b) (hρ : LocsLe ρ ρ') {tm : Nat → V} {a : Act} (h : ∀ t, VRel D w ρ (tm t) (a.tmps.getD t undef)) : ∀ t, VRel D' w' ρ' (tm t) (a.tmps.getD t undef) :=
  fun t => (h t).step he hd hρ
def cellsV (bl : List Blk) (r : Bool) : V → Option (List Cell)
  | .c x => if St.one bl x && (!r || x.noU) then some [x] else none
  | .g l => if l.all (St.one bl) && (!r || l.all Cell.noU) then some l else none
  | _ => none
theorem noU_rel {D : Nat → Prop} {D0 : Nat → Prop} {w0 : Base} {w : World} {r : Bool} {ρ : List Loc} {bl : List Blk} (h : Sat D0 w0 r ρ bl w) {c : Cell} {v : Value} (h1 : St.one bl c = true) (hn : c.noU = true) (hc : CRel D w ρ c v) (d : Int) : v ≠ .int .u32 d := by
  cases c with
  | any => simp [St.one] at h1
  | bool b => cases hc; simp
  | int k n => cases hc; intro e; injection e with e1 e2; subst e1; simp [Cell.noU] at hn
  | nil => cases hc; simp
  | fn F => cases hc; simp
  | str s => cases hc; simp
  | cl F m f => obtain ⟨caps, rfl, _⟩ := hc; simp
  | row sz n f => obtain ⟨A, c, rfl, _⟩ := hc; simp
  | xp m f => obtain ⟨b, o, rfl, _⟩ := hc; simp
  | p k u sz i o =>
    obtain ⟨l, hl, hu, hv⟩ := hc
    simp only [St.one] at h1
    split at h1
    · rename_i B hB
      simp at h1
      obtain ⟨g0, _⟩ := h.at_ k l B hl hB h1.2
      obtain ⟨_, b, _, rfl⟩ := hv (by omega)
      simp
    · cases h1
  | gs k u =>
    obtain ⟨l, hl, hu, hv⟩ := hc
    simp only [St.one] at h1
    split at h1
    · rename_i B hB
      simp at h1
      obtain ⟨g0, _⟩ := h.at_ k l B hl hB h1.2
      rw [hv (by omega)]
      simp [Loc.v]
    · cases h1
  | sl k u sz o n =>
    obtain ⟨l, hl, hu, hv⟩ := hc
    simp only [St.one] at h1
    split at h1
    · rename_i B hB
      simp at h1
      obtain ⟨g0, _⟩ := h.at_ k l B hl hB h1.2
      obtain ⟨_, A, c, rfl, _⟩ := hv (by omega)
      simp
    · cases h1
theorem cellsV_rel {D0 : Nat → Prop} {w0 : Base} {w : World} {r : Bool} {ρ : List Loc} {bl : List Blk} (h : Sat D0 w0 r ρ bl w) {D : Nat → Prop} {x : V} {v : Value} {l : List Cell} (h1 : cellsV bl r x = some l) (hx : VRel D w ρ x v) :
    CRels D w ρ l v.cells.toList ∧ (∀ u ∈ v.cells.toList, u.oneCell' = true) ∧ (r = true → ∀ (i : Nat) (d : Int), v.cells[i]? ≠ some (.int .u32 d)) := by
  have hall : ∀ (l : List Cell) (vs : List Value), l.all (St.one bl) = true → CRels D w ρ l vs → ∀ u ∈ vs, u.oneCell' = true := by
    intro l
    induction l with
    | nil => intro vs _ hc u hu; cases vs with | nil => simp at hu | cons _ _ => exact hc.elim
    | cons c l ih =>
      intro vs ha hc u hu
      cases vs with
      | nil => exact hc.elim
      | cons v vs =>
        simp only [List.all_cons, Bool.and_eq_true] at ha
        rcases List.mem_cons.1 hu with e | e
        · subst e; exact (one_rel h ha.1 hc.1).1
        · exact ih vs ha.2 hc.2 u e
  have hU : ∀ (l : List Cell) (vs : List Value), l.all (St.one bl) = true → l.all Cell.noU = true → CRels D w ρ l vs → ∀ (i : Nat) (d : Int), vs[i]? ≠ some (.int .u32 d) := by
    intro l
    induction l with
    | nil => intro vs _ _ hc i d; cases vs with | nil => simp | cons _ _ => exact hc.elim
    | cons c l ih =>
      intro vs ha hb hc i d
      cases vs with
      | nil => exact hc.elim
      | cons v vs =>
        simp only [List.all_cons, Bool.and_eq_true] at ha hb
        cases i with
        | zero => intro e; simp at e; exact noU_rel h ha.1 hb.1 hc.1 d e
        | succ i => simpa using ih vs ha.2 hb.2 hc.2 i d
  cases x with
  | c x =>
    simp only [cellsV] at h1
    split at h1
    · rename_i hc
      simp only [Bool.and_eq_true, Bool.or_eq_true, Bool.not_eq_true'] at hc
      have hc : St.one bl x = true ∧ (r = true → x.noU = true) := ⟨hc.1, fun hr => hc.2.resolve_left (by rw [hr]; simp)⟩
      cases h1
      have h2 := (one_rel h hc.1 hx).2
      rw [h2]
      refine ⟨⟨hx, trivial⟩, fun u hu => ?_, fun hr i d => ?_⟩
      · simp at hu; subst hu; exact (one_rel h hc.1 hx).1
      · intro e
        cases i with
        | zero => simp at e; exact noU_rel h hc.1 (hc.2 hr) hx d e
        | succ i => simp at e
    · cases h1
  | g l' =>
    simp only [cellsV] at h1
    split at h1
    · rename_i hc
      simp only [Bool.and_eq_true, Bool.or_eq_true, Bool.not_eq_true'] at hc
      have hc : l'.all (St.one bl) = true ∧ (r = true → l'.all Cell.noU = true) := ⟨hc.1, fun hr => hc.2.resolve_left (by rw [hr]; simp)⟩
      cases h1
      obtain ⟨vs, rfl, e2⟩ := hx
      refine ⟨e2, hall _ _ hc.1 e2, fun hr i d => ?_⟩
      have := hU _ _ hc.1 (hc.2 hr) e2 i d
      simpa [Value.cells] using this
    · cases h1
  | t2 a b => simp [cellsV] at h1
  | t3 a b d => simp [cellsV] at h1
  | t4 a b d e => simp [cellsV] at h1
def St.push (σ : St) (B : Blk) : St := { σ with bl := σ.bl ++ [B] }
def boxF (l : List Cell) (_ j : Nat) : Cell := l.getD j .any
def rowF (sz : Nat) (l : List Cell) (i j : Nat) : Cell := l.getD (i * sz + j) .any
/-- A new block in the state. -/
theorem Rel.push {C : Ctx} {σ : St} {a : Act} {w : World} (h : Rel C σ a w) {cs : Array Value} {t sz n cap : Nat} {f : Nat → Nat → Cell} (hs : cs.size = cap * sz) (hn : n ≤ cap) (hc : cap ≤ maxLen)
    (hf : ∀ ρ, Sat C.D0 C.w0 C.r ρ σ.bl w → (∀ t, VRel (Dof C.D0 ρ σ.bl) w ρ (σ.tm t) (a.tmps.getD t undef)) → ∀ i j, i < n → j < sz → ∃ u, cs[i * sz + j]? = some u ∧ CRel (Dof C.D0 ρ σ.bl) w ρ (f i j) u) (hU : C.r = true → ∀ (i : Nat) (d : Int), cs[i]? ≠ some (.int .u32 d))
    {dst : Option Nat} (hd : dstOK C.N dst) (x : Cell) (v : Value) (hx : ∀ ρ, ρ.length = σ.bl.length → CRel (fun _ => False) w (ρ ++ [⟨0, some w.heap.size, n, cap⟩]) x v) (hcl : ∀ sz n f, x ≠ .row sz n f) (hcl2 : ∀ m f, x ≠ .xp m f) (hcl3 : ∀ F m f, x ≠ .cl F m f := by simp) :
    Rel C ((σ.push ⟨t, sz, n, 0, 0, f⟩).put dst (.c x)) (a.put dst v) (w.alloc (.cells cs t)) := by
  obtain ⟨ρ, hsat, hN, hdf, hfr⟩ := h
  obtain ⟨s1, s2⟩ := hsat.alloc hs hn hc (hf ρ hsat hfr) hU (t := t)
  have hE : Ext (Dof C.D0 ρ σ.bl) w (w.alloc (.cells cs t)) := ⟨by simp, fun b hb _ => Below.heap_alloc w _ b hb⟩
  refine Rel.put (σ := σ.push ⟨t, sz, n, 0, 0, f⟩) s1 ⟨hN.1, hN.2.trans (LocsLe.append _ _)⟩ hdf (frame_step hE s2 (LocsLe.append _ _) hfr) hd ?_
  have := hx ρ hsat.len
  show CRel _ _ _ x v
  cases x with
  | row sz n f => exact absurd rfl (hcl _ _ _)
  | xp m f => exact absurd rfl (hcl2 _ _)
  | cl F m f => exact absurd rfl (hcl3 _ _ _)
  | _ => exact this
end Go.Proofs.YtigciplaoikcfaaGreat
