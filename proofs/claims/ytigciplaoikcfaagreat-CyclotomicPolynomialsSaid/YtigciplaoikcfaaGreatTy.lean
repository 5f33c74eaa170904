/- Types of the program, as a table; the program as an environment of abstract runs. -/
import Derived.Test.YtigciplaoikcfaaGreatAbsJ
import Derived.Test.YtigciplaoikcfaaGreatProg
import Derived.KernelRfl
namespace Go.Proofs.YtigciplaoikcfaaGreat
open Go.RowKit
theorem mixed : Tryz.prog.follows .mixedOrders = true := by kernel_rfl
def tyTab : List (Nat × TI) :=
  (61, ⟨true, 2, [.bool false, .nil], 32, [some (0, 1), some (1, 1)], none, none, 3⟩) ::
  (63, ⟨true, 4, [.bool false, .nil, .bool false, .nil], 64, [some (0, 2), some (2, 2)], none, none, 0⟩) ::
  (59, ⟨false, 1, [.nil], 24, [], some 128, none, 0⟩) ::
  (128, ⟨false, 1, [.int .u32 0], 4, [], none, some .u32, 0⟩) ::
  (4, ⟨false, 1, [.bool false], 1, [], none, none, 1⟩) ::
  (3, ⟨false, 1, [.int .i64 0], 8, [], none, some .i64, 0⟩) ::
  (22, ⟨false, 1, [.nil], 24, [], some 63, none, 0⟩) ::
  (23, ⟨false, 1, [.nil], 24, [], some 63, none, 0⟩) ::
  (25, ⟨true, 3, [.int .i64 0, .int .i64 0, .nil], 40, [some (0, 1), some (1, 1), some (2, 1)], none, none, 3⟩) ::
  (106, ⟨false, 1, [.nil], 24, [], some 22, none, 0⟩) ::
  (72, ⟨false, 1, [.nil], 24, [], some 22, none, 0⟩) ::
  (98, ⟨false, 1, [.nil], 24, [], some 23, none, 0⟩) ::
  (44, ⟨false, 1, [.nil], 24, [], some 3, none, 0⟩) ::
  (53, ⟨false, 1, [.nil], 24, [], some 44, none, 0⟩) ::
  (29, ⟨false, 1, [.int .i64 0], 8, [], none, some .i64, 0⟩) ::
  (127, ⟨false, 1, [.int .u64 0], 8, [], none, some .u64, 0⟩) ::
  (9, ⟨false, 1, [.str ⟨#[]⟩], 16, [], none, none, 2⟩) ::
  (145, ⟨true, 1, [.nil], 24, [some (0, 1)], none, none, 3⟩) ::
  (181, ⟨true, 2, [.nil, .int .i64 0], 32, [some (0, 1), some (1, 1)], none, none, 3⟩) ::
  (39, ⟨false, 1, [.nil], 24, [], some 61, none, 0⟩) ::
  (40, ⟨false, 1, [.nil], 24, [], some 61, none, 0⟩) ::
  (81, ⟨false, 1, [.nil], 24, [], some 63, none, 0⟩) ::
  (134, ⟨false, 1, [.int .u64 0], 8, [], none, some .u64, 0⟩) ::
  []
def tyE (T : Nat) : Option TI := (tyTab.find? fun p => p.1 == T).map (·.2)
theorem tyTab_ok : ∀ p ∈ tyTab, tyOf Tryz.prog p.1 = some p.2 := by
  unfold tyTab
  repeat (refine List.forall_mem_cons.2 ⟨by kernel_rfl, ?_⟩)
  exact fun p h => absurd h List.not_mem_nil
theorem tyE_ok (T : Nat) (ti : TI) (h : tyE T = some ti) : tyOf Tryz.prog T = some ti := by
  unfold tyE at h
  cases hf : tyTab.find? fun p => p.1 == T with
  | none => rw [hf] at h; cases h
  | some p =>
    rw [hf] at h
    have h1 := List.find?_some hf
    have h2 := tyTab_ok p (List.mem_of_find?_eq_some hf)
    simp at h h1
    rw [← h1, h2, h]
/-- The program, where no closed block holds digits; and where some may. -/
noncomputable def E1 : Env := ⟨Tryz.prog, true, tyE, 0⟩
/-- The same inside a function that may write a block. -/
noncomputable def E1m : Env := ⟨Tryz.prog, true, tyE, 1⟩
noncomputable def E0 : Env := ⟨Tryz.prog, false, tyE, 0⟩
/-- With a block to write. -/
noncomputable def E0m : Env := ⟨Tryz.prog, false, tyE, 1⟩
theorem E0m_ok : EnvOK E0m := ⟨tyE_ok⟩
theorem E1_ok : EnvOK E1 := ⟨tyE_ok⟩
theorem E1m_ok : EnvOK E1m := ⟨tyE_ok⟩
theorem E0_ok : EnvOK E0 := ⟨tyE_ok⟩
end Go.Proofs.YtigciplaoikcfaaGreat
