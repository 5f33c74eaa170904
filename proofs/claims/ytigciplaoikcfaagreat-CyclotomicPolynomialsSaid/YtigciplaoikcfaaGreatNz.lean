/- The digits of a number; an integer as the fields of its struct. -/
import Derived.Test.YtigciplaoikcfaaGreatAbsJ
import Derived.Test.YtigciplaoikcfaaGreatDg
namespace Go.Proofs.YtigciplaoikcfaaGreat
open Go.RowKit
/-- The digits of a number. -/
def digsF : Nat → Nat → List Nat
  | 0, _ => []
  | k + 1, n => if n = 0 then [] else n % Dg.B :: digsF k (n / Dg.B)
def digs (n : Nat) : List Nat := digsF n n
theorem digsF_spec : ∀ (k n : Nat), n ≤ k → Dg.val (digsF k n) = n ∧ Dg.ok (digsF k n) ∧ Dg.trimmed (digsF k n)
  | 0, n, h => by
    have : n = 0 := by omega
    subst this
    exact ⟨rfl, Dg.ok_nil, fun d h => by simp [digsF] at h⟩
  | k + 1, n, h => by
    simp only [digsF]
    split
    · rename_i h0; subst h0; exact ⟨rfl, Dg.ok_nil, fun d h => by simp at h⟩
    · rename_i h0
      have hB : 1 < Dg.B := by decide
      have hlt : n / Dg.B < n := Nat.div_lt_self (by omega) hB
      obtain ⟨h1, h2, h3⟩ := digsF_spec k (n / Dg.B) (by omega)
      refine ⟨?_, Dg.ok_cons.2 ⟨Nat.mod_lt _ Dg.B_pos, h2⟩, ?_⟩
      · simp only [Dg.val]; rw [h1]; exact Nat.mod_add_div n Dg.B
      · intro d hd
        cases hl : digsF k (n / Dg.B) with
        | nil =>
          rw [hl] at hd h1
          simp at hd
          simp only [Dg.val] at h1
          have := Nat.mod_add_div n Dg.B
          rw [← h1] at this
          omega
        | cons x l =>
          rw [hl] at hd h3
          rw [List.getLast?_cons_cons] at hd
          exact h3 d hd
theorem digs_val (n : Nat) : Dg.val (digs n) = n := (digsF_spec n n (Nat.le_refl _)).1
theorem digs_ok (n : Nat) : Dg.ok (digs n) := (digsF_spec n n (Nat.le_refl _)).2.1
theorem digs_trimmed (n : Nat) : Dg.trimmed (digs n) := (digsF_spec n n (Nat.le_refl _)).2.2
theorem digs_unique {l : List Nat} {n : Nat} (ho : Dg.ok l) (ht : Dg.trimmed l) (hv : Dg.val l = n) : l = digs n :=
  Dg.val_inj ho (digs_ok n) ht (digs_trimmed n) (by rw [hv, digs_val])
/-- How many digits an integer has. -/
def zlen (x : Int) : Nat := (digs x.natAbs).length
theorem zlen_le {x : Int} {L : Nat} (h : x.natAbs < Dg.B ^ L) : zlen x ≤ L := Dg.length_le_of_val (digs_trimmed _) (by rw [digs_val]; exact h)
theorem zlen_lt (x : Int) : x.natAbs < Dg.B ^ zlen x := by
  have := Dg.val_lt (digs_ok x.natAbs)
  rwa [digs_val] at this
theorem zlen_mul (x y : Int) : zlen (x * y) ≤ zlen x + zlen y := by
  refine zlen_le ?_
  rw [Int.natAbs_mul, Nat.pow_add]
  exact Nat.mul_lt_mul'' (zlen_lt x) (zlen_lt y)
theorem zlen_add (x y : Int) : zlen (x + y) ≤ max (zlen x) (zlen y) + 1 := by
  refine zlen_le ?_
  have h1 := zlen_lt x
  have h2 := zlen_lt y
  have h3 : Dg.B ^ zlen x ≤ Dg.B ^ max (zlen x) (zlen y) := Nat.pow_le_pow_right Dg.B_pos (by omega)
  have h4 : Dg.B ^ zlen y ≤ Dg.B ^ max (zlen x) (zlen y) := Nat.pow_le_pow_right Dg.B_pos (by omega)
  have h5 := Int.natAbs_add_le x y
  rw [Nat.pow_succ]
  have hB : 2 ≤ Dg.B := by decide
  have : Dg.B ^ max (zlen x) (zlen y) * 2 ≤ Dg.B ^ max (zlen x) (zlen y) * Dg.B := Nat.mul_le_mul_left _ hB
  omega
theorem zlen_neg (x : Int) : zlen (-x) = zlen x := by unfold zlen; rw [Int.natAbs_neg]
theorem zlen_natAbs_le {x y : Int} (h : x.natAbs ≤ y.natAbs) : zlen x ≤ zlen y := zlen_le (Nat.lt_of_le_of_lt h (zlen_lt y))
/-- Digits as a value. -/
def dsC (l : List Nat) : Cell := .row 1 l.length fun i _ => .int .u32 (l.getD i 0 : Nat)
/-- An integer as its fields stand. -/
structure RawZ where
  neg : Bool
  ds : List Nat
def RawZ.val (a : RawZ) : Int := sgn a.neg (Dg.val a.ds)
def zr (a : RawZ) : List Cell := [.bool a.neg, dsC a.ds]
def ofZ (x : Int) : RawZ := ⟨decide (x < 0), digs x.natAbs⟩
/-- The integer x, normalized. -/
abbrev nz (x : Int) : List Cell := zr (ofZ x)
theorem ofZ_val (x : Int) : (ofZ x).val = x := by
  unfold RawZ.val ofZ sgn
  simp only [digs_val]
  by_cases h : x < 0
  · simp [h]; omega
  · simp [h]; omega
theorem ofZ_ok (x : Int) : Dg.ok (ofZ x).ds := digs_ok _
theorem ofZ_len (x : Int) : (ofZ x).ds.length = zlen x := rfl
end Go.Proofs.YtigciplaoikcfaaGreat
