/- The document's integers in normal form: products; the same as themselves. -/
import Derived.Test.YtigciplaoikcfaaGreatRfM
import Derived.Test.YtigciplaoikcfaaGreatNl
namespace Go.Proofs.YtigciplaoikcfaaGreat
open Go.RowKit
namespace Rf
theorem zmul_n {a b : Int} (h : zlen a + zlen b ≤ 1048576) : FnOK Tryz.prog false 87 [.g (nz a), .g (nz b)] (.g (nz (a * b))) := by
  have := rmulz_ok (a := ofZ a) (b := ofZ b) (wr_nz (by omega)) (wr_nz (by omega)) (by rw [ofZ_val, ofZ_val]; exact h)
  rwa [ofZ_val, ofZ_val] at this
set_option maxHeartbeats 4000000 in
theorem sameInt_ok {n m : Nat} {a b : Nat → Nat} {s s' r : Bool} (hn : n ≤ 1048576) (hr : r = true ↔ s = s' ∧ n = m ∧ ∀ i, i < n → a i = b i) : FnOK Tryz.prog false 53 [bn s n a, bn s' m b] (.c (.bool r)) := by
  refine fn_ok (E := E0) E0_ok Tryz.func53 rfl mixed (by kernel_rfl) (by kernel_rfl) ?_
  conv => whnf
  refine bcase (fun (h : gw false (!(s == s')) = true) => ?_) fun (h : gw false (!(s == s')) = false) => ?_
  · have hs : s = s' := by have := gwf h; simpa using this
    conv => whnf
    refine bcase (fun (h1 : (!decide ((n : Int) = m)) = true) => ?_) fun (h1 : (!decide ((n : Int) = m)) = false) => ?_
    · have h1' : r = false := Bool.eq_false_iff.2 fun e => by have := (hr.1 e).2.1; subst this; simp at h1
      conv => whnf
      exact ⟨rfl, sub_bool h1'.symm⟩
    have h1' : n = m := by
      have : (n : Int) = m := by simpa using h1
      omega
    subst h1'
    conv => whnf
    refine loop_ints (fun i : Nat => gst [(2, .c (.p 0 0 2 0 0)), (3, .c (.p 1 0 2 0 0)), (5, .c (.int .i64 i))] [gi s n a, gi s' n b]) (fun i => n - i) (fun i => i ≤ n ∧ ∀ j, j < i → a j = b j) 0 rfl ?_ ⟨Nat.zero_le _, fun j h => by omega⟩ fun i ⟨hi, hh⟩ => ?_
    · exact Weak.gen [some 0, some 1] rfl ⟨boxK rfl rfl, boxK rfl rfl, trivial⟩ ⟨⟨_, rfl, rfl, rfl⟩, ⟨_, rfl, rfl, rfl⟩, ⟨_, rfl, rfl⟩, trivial⟩
    have hr' : r = false ∨ a i = b i ∨ ¬ i < n := by
      by_cases c : i < n
      · by_cases c' : a i = b i
        · exact .inr (.inl c')
        · exact .inl (Bool.eq_false_iff.2 fun e => c' ((hr.1 e).2.2 i c))
      · exact .inr (.inr c)
    conv => whnf
    refine bcase (fun (h2 : decide ((i : Int) < n) = true) => ?_) fun (h2 : decide ((i : Int) < n) = false) => ?_
    · have h2' := of_decide_eq_true h2
      conv => whnf
      refine ⟨by omega, by omega, ?_⟩
      conv => whnf
      refine ⟨by omega, by omega, ?_⟩
      conv => whnf
      refine bcase (fun (h3 : (!decide ((a i : Int) = (b i : Int))) = true) => ?_) fun (h3 : (!decide ((a i : Int) = (b i : Int))) = false) => ?_
      · have h3' : r = false := by
          refine Bool.eq_false_iff.2 fun e => ?_
          have := (hr.1 e).2.2 i (by omega)
          rw [this] at h3; simp at h3
        conv => whnf
        exact ⟨rfl, sub_bool h3'.symm⟩
      · have h3' : a i = b i := by
          have : (a i : Int) = b i := by simpa using h3
          omega
        conv => whnf
        refine ⟨i64 (by omega) (by omega), ?_⟩
        conv => whnf
        exact ⟨i + 1, by omega, Weak.gen [some 0, some 1] rfl ⟨boxK rfl rfl, boxK rfl rfl, trivial⟩ ⟨⟨_, rfl, rfl, rfl⟩, ⟨_, rfl, rfl, rfl⟩, ⟨_, rfl, by omega⟩, trivial⟩, by omega, fun j hj => if e : j = i then by rw [e]; exact h3' else hh j (by omega)⟩
    · have h2' := of_decide_eq_false h2
      have h3' : r = true := hr.2 ⟨hs, rfl, fun j hj => hh j (by omega)⟩
      conv => whnf
      exact ⟨rfl, sub_bool h3'.symm⟩
  · have hs : s ≠ s' := by
      have := gwf' h
      intro e; subst e; simp at this
    have h1' : r = false := Bool.eq_false_iff.2 fun e => hs (hr.1 e).1
    conv => whnf
    exact ⟨rfl, sub_bool h1'.symm⟩
theorem sameInt_n (x : Int) (h : zlen x ≤ 1048576) : FnOK Tryz.prog false 53 [.g (nz x), .g (nz x)] (.c (.bool true)) :=
  sameInt_ok (n := (digs x.natAbs).length) (m := (digs x.natAbs).length) (a := ld (digs x.natAbs)) (b := ld (digs x.natAbs)) h ⟨fun _ => ⟨rfl, rfl, fun _ _ => rfl⟩, fun _ => rfl⟩
theorem sub_nil0 {sz n : Nat} {f : Nat → Nat → Cell} (h : n = 0) : Sub (.c .nil) (.c (.row sz n f)) := by
  subst h
  intro D w v hv
  have hv : v = .slice none 0 0 := hv
  exact ⟨none, 0, hv, Nat.le_refl _, fun h => absurd h (Nat.lt_irrefl 0)⟩
/-- A list of lists is longer by one. -/
theorem regApp {q : Nat} {bl : List Blk} {ks : List (Option Nat)} {i a b : Nat} {f : Nat → Nat → Cell} {c : Cell} {t : Nat → Cell} (ha : a < i + 1) (hb : b < 1) (hold : a < i → regC q bl ks (t a) fun z => f a b = z) (hnew : regC q bl ks (t i) fun z => c = z) : regC q bl ks (t a) fun z => appF i f (rowF 1 [c]) a b = z := by
  obtain rfl := Nat.lt_one_iff.1 hb
  by_cases h : a < i
  · rw [show appF i f (rowF 1 [c]) a 0 = f a 0 from if_pos h]
    exact hold h
  · obtain rfl : a = i := by omega
    rw [show appF a f (rowF 1 [c]) a 0 = c from by unfold appF; rw [if_neg h, Nat.sub_self]; rfl]
    exact hnew
end Rf
end Go.Proofs.YtigciplaoikcfaaGreat
