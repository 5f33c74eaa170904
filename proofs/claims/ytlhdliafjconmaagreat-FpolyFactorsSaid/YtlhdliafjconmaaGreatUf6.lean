/- Runs of functions of the program: what they tell of calls. -/
import Derived.Test.YtlhdliafjconmaaGreatUf5
import Derived.Test.YtlhdliafjconmaaGreatProg
import Derived.KernelRfl
import Derived.WalkSpells
namespace Go.Proofs.YtlhdliafjconmaaGreat
open Go.RowKit
/-! Copies of slices of no elements -/
def ClonePost (w : World) (e : Ending) (w' : World) : Prop := ∃ A' c', e = .returned (.slice A' 0 c') ∧ Below w.heap.size w w'
theorem clone_fn {f : FuncId} (hb : hasBody Tryz.prog f = true) (h : ∀ (A : Option Addr) (c : Nat) (w : World), Calls Tryz.prog f #[.slice A 0 c] w (ClonePost w)) {r : Bool} {sz : Nat} {g g' : Nat → Nat → Cell} : FnOK Tryz.prog r f [.c (.row sz 0 g)] (.c (.row sz 0 g')) := by
  refine ⟨hb, fun D w vs _ _ hargs => ?_⟩
  match vs, hargs with
  | [v], hargs =>
    obtain ⟨A, c, rfl, _, _⟩ := hargs.1
    refine (h A c w).mono ?_
    rintro e w' ⟨A', c', rfl, hb⟩
    exact ⟨_, rfl, ⟨A', c', rfl, Nat.zero_le _, fun h => absurd h (Nat.lt_irrefl 0)⟩, hb⟩
  | [], hargs => exact hargs.elim
  | _ :: _ :: _, hargs => exact hargs.2.elim
theorem infoU : (Tryz.prog.info? 84).map (fun i => (i.zero, i.size, i.bytes)) = some (some (.int .u32 0), 1, 4) := by kernel_rfl
set_option maxHeartbeats 1000000 in
theorem cloneU (A : Option Addr) (c : Nat) (w : World) : Calls Tryz.prog 147 #[.slice A 0 c] w (ClonePost w) := by
  obtain ⟨i0, hi, hz0, hz1, hz2⟩ := info_parts infoU
  have heq := fun (W : World) => Lib.run_eql_slice_nil (P := Tryz.prog) W 24 84 A 0 c 0 0 Tryz.underlying24
  rcases A with _ | ad
  · go_enter Tryz.func147, Tryz.ntmps147
    go_wp2
    go_ret
    exact ⟨none, 0, rfl, Below.refl _ _⟩
  · go_enter Tryz.func147, Tryz.ntmps147
    go_wp2_with (at_builtin; refine wpList_append_own _ rfl _ _ 24 rfl w.heap.size 84 i0 _ 1 4 Tryz.underlying24 hi hz0 hz1 hz2 rfl (by decide) _ 0 [] rfl (World.ownsRow_lit w #[] 0 (Nat.le_refl _) (by decide) rfl) ad 0 c [] rfl rfl (fun j u h => by simp at h) (fun u h => by simp at h) (by unfold maxLen; omega) (by omega) (by simp) ?_; intro v' w1 hown hgr hnil)
    go_ret
    obtain ⟨_, h⟩ := hown
    rcases h with ⟨rfl, _⟩ | ⟨g, cap, cur, rfl, _⟩
    · exact ⟨none, 0, rfl, ((Below.refl w.heap.size w).alloc (Nat.le_refl _) _).grown hgr (by simp) (fun k hk => by have h2 : some w.heap.size = some k := hk; injection h2 with h2; omega)⟩
    · exact ⟨_, cap, rfl, ((Below.refl w.heap.size w).alloc (Nat.le_refl _) _).grown hgr (by simp) (fun k hk => by have h2 : some w.heap.size = some k := hk; injection h2 with h2; omega)⟩
theorem infoP : (Tryz.prog.info? 3).map (fun i => (i.zero, i.size, i.bytes)) = some (some (.int .i64 0), 1, 8) := by kernel_rfl
set_option maxHeartbeats 1000000 in
theorem cloneP (A : Option Addr) (c : Nat) (w : World) : Calls Tryz.prog 98 #[.slice A 0 c] w (ClonePost w) := by
  obtain ⟨i0, hi, hz0, hz1, hz2⟩ := info_parts infoP
  have heq := fun (W : World) => Lib.run_eql_slice_nil (P := Tryz.prog) W 23 3 A 0 c 0 0 Tryz.underlying23
  rcases A with _ | ad
  · go_enter Tryz.func98, Tryz.ntmps98
    go_wp2
    go_ret
    exact ⟨none, 0, rfl, Below.refl _ _⟩
  · go_enter Tryz.func98, Tryz.ntmps98
    go_wp2_with (at_builtin; refine wpList_append_own _ rfl _ _ 23 rfl w.heap.size 3 i0 _ 1 8 Tryz.underlying23 hi hz0 hz1 hz2 rfl (by decide) _ 0 [] rfl (World.ownsRow_lit w #[] 0 (Nat.le_refl _) (by decide) rfl) ad 0 c [] rfl rfl (fun j u h => by simp at h) (fun u h => by simp at h) (by unfold maxLen; omega) (by omega) (by simp) ?_; intro v' w1 hown hgr hnil)
    go_ret
    obtain ⟨_, h⟩ := hown
    rcases h with ⟨rfl, _⟩ | ⟨g, cap, cur, rfl, _⟩
    · exact ⟨none, 0, rfl, ((Below.refl w.heap.size w).alloc (Nat.le_refl _) _).grown hgr (by simp) (fun k hk => by have h2 : some w.heap.size = some k := hk; injection h2 with h2; omega)⟩
    · exact ⟨_, cap, rfl, ((Below.refl w.heap.size w).alloc (Nat.le_refl _) _).grown hgr (by simp) (fun k hk => by have h2 : some w.heap.size = some k := hk; injection h2 with h2; omega)⟩
/-- The copies of slices of no elements, as a table. -/
def cloneIds : List FuncId := [147, 98]
theorem cloneIds_ok {r : Bool} {sz : Nat} {g g' : Nat → Nat → Cell} : ∀ f ∈ cloneIds, FnOK Tryz.prog r f [.c (.row sz 0 g)] (.c (.row sz 0 g')) := by
  simp only [cloneIds, List.forall_mem_cons, List.not_mem_nil, false_imp_iff, implies_true, and_true]
  exact ⟨clone_fn (by kernel_rfl) cloneU, clone_fn (by kernel_rfl) cloneP⟩
end Go.Proofs.YtlhdliafjconmaaGreat
