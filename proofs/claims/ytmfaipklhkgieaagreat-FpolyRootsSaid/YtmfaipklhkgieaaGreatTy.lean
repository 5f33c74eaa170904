/- Types of the program, as a table; the program as an environment of abstract runs. -/
import Derived.Test.YtmfaipklhkgieaaGreatAbsJ
import Derived.Test.YtmfaipklhkgieaaGreatProg
import Derived.KernelRfl
namespace Go.Proofs.YtmfaipklhkgieaaGreat
open Go.RowKit
theorem mixed : Tryz.prog.follows .mixedOrders = true := by kernel_rfl
def tyTab : List (Nat × TI) :=
  (26, ⟨true, 2, [.bool false, .nil], 32, [some (0, 1), some (1, 1)], none, none, 3⟩) ::
  (24, ⟨false, 1, [.nil], 24, [], some 57, none, 0⟩) ::
  (57, ⟨false, 1, [.int .u32 0], 4, [], none, some .u32, 0⟩) ::
  (4, ⟨false, 1, [.bool false], 1, [], none, none, 1⟩) ::
  (3, ⟨false, 1, [.int .i64 0], 8, [], none, some .i64, 0⟩) ::
  (22, ⟨false, 1, [.nil], 24, [], some 3, none, 0⟩) ::
  (23, ⟨false, 1, [.nil], 24, [], some 3, none, 0⟩) ::
  (28, ⟨true, 7, [.int .i64 0, .nil, .nil, .nil, .bool false, .nil, .int .i64 0], 120, [some (0, 1), some (1, 1), some (2, 1), some (3, 1), some (4, 2), some (6, 1)], none, none, 0⟩) ::
  (31, ⟨false, 1, [.int .i64 0], 8, [], none, some .i64, 0⟩) ::
  (60, ⟨false, 1, [.int .u64 0], 8, [], none, some .u64, 0⟩) ::
  []
def tyE (T : Nat) : Option TI := (tyTab.find? fun p => p.1 == T).map (·.2)
theorem tyTab_ok : ∀ p ∈ tyTab, tyOf Tryz.prog p.1 = some p.2 := by
  unfold tyTab
  repeat (refine List.forall_mem_cons.2 ⟨by kernel_rfl, ?_⟩)
  exact fun p h => absurd h List.not_mem_nil
theorem tyE_ok (T : Nat) (ti : TI) (h : tyE T = some ti) : tyOf Tryz.prog T = some ti := by
  unfold tyE at h
  cases hf : tyTab.find? fun p => p.1 == T with
  | none => rw [hf] at h; cases h
  | some p =>
    rw [hf] at h
    have h1 := List.find?_some hf
    have h2 := tyTab_ok p (List.mem_of_find?_eq_some hf)
    simp at h h1
    rw [← h1, h2, h]
/-- The program, where no closed block holds digits; and where some may. -/
noncomputable def E1 : Env := ⟨Tryz.prog, true, tyE, 0⟩
/-- The same inside a function that may write a block. -/
noncomputable def E1m : Env := ⟨Tryz.prog, true, tyE, 1⟩
noncomputable def E0 : Env := ⟨Tryz.prog, false, tyE, 0⟩
/-- With a block to write. -/
noncomputable def E0m : Env := ⟨Tryz.prog, false, tyE, 1⟩
theorem E0m_ok : EnvOK E0m := ⟨tyE_ok⟩
theorem E1_ok : EnvOK E1 := ⟨tyE_ok⟩
theorem E1m_ok : EnvOK E1m := ⟨tyE_ok⟩
theorem E0_ok : EnvOK E0 := ⟨tyE_ok⟩
end Go.Proofs.YtmfaipklhkgieaaGreat
