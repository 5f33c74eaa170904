/- The law CyclotomicPolynomials: its call, under what its argument reads as. -/
import Derived.Test.YtigciplaoikcfaaGreatLwC
import Derived.Test.YtigciplaoikcfaaGreatOpen
namespace Go.Proofs.YtigciplaoikcfaaGreat
open Go.ChangeShapes Go.WideShapes Go.ChangeAt Go.RowKit
set_option maxRecDepth 100000
namespace Rf
theorem law15_all (n : Int) : FnOK Tryz.prog false 4 [.c (.int .i64 n)] (.c (.bool true)) := by
  by_cases h : n < 1 ∨ 60 < n
  · exact law15_out awake15 h
  · obtain ⟨k, rfl⟩ : ∃ k : Nat, n = k := ⟨n.toNat, by omega⟩
    exact match k, h with
    | 0, h => absurd (.inl (by decide)) h
    | 1, _ => law15_1
    | 2, _ => law15_2
    | 3, _ => law15_3
    | 4, _ => law15_4
    | 5, _ => law15_5
    | 6, _ => law15_6
    | 7, _ => law15_7
    | 8, _ => law15_8
    | 9, _ => law15_9
    | 10, _ => law15_10
    | 11, _ => law15_11
    | 12, _ => law15_12
    | 13, _ => law15_13
    | 14, _ => law15_14
    | 15, _ => law15_15
    | 16, _ => law15_16
    | 17, _ => law15_17
    | 18, _ => law15_18
    | 19, _ => law15_19
    | 20, _ => law15_20
    | 21, _ => law15_21
    | 22, _ => law15_22
    | 23, _ => law15_23
    | 24, _ => law15_24
    | 25, _ => law15_25
    | 26, _ => law15_26
    | 27, _ => law15_27
    | 28, _ => law15_28
    | 29, _ => law15_29
    | 30, _ => law15_30
    | 31, _ => law15_31
    | 32, _ => law15_32
    | 33, _ => law15_33
    | 34, _ => law15_34
    | 35, _ => law15_35
    | 36, _ => law15_36
    | 37, _ => law15_37
    | 38, _ => law15_38
    | 39, _ => law15_39
    | 40, _ => law15_40
    | 41, _ => law15_41
    | 42, _ => law15_42
    | 43, _ => law15_43
    | 44, _ => law15_44
    | 45, _ => law15_45
    | 46, _ => law15_46
    | 47, _ => law15_47
    | 48, _ => law15_48
    | 49, _ => law15_49
    | 50, _ => law15_50
    | 51, _ => law15_51
    | 52, _ => law15_52
    | 53, _ => law15_53
    | 54, _ => law15_54
    | 55, _ => law15_55
    | 56, _ => law15_56
    | 57, _ => law15_57
    | 58, _ => law15_58
    | 59, _ => law15_59
    | 60, _ => law15_60
    | _ + 61, h => absurd (.inr (by omega)) h
end Rf
theorem open_i64 {H : Type} {enc : TypeId × Value → H} {w : World} {sp : Nat → Bool} {held : Bool} {r : Reach} {b0 t : Nat} {v : Value} {d : DataW H} {ps : List MemPlace} (ht : Tryz.prog.underlying t = some (.int .i64)) (hval : Value.okWide Tryz.prog w r b0 t v) (hd : DataW.Trod enc Tryz.prog w 0 sp held t v d ps) : ∃ n : Int, VRel (fun _ => False) w [] (.c (.int .i64 n)) v := by
  obtain ⟨fuel, hf⟩ := hd
  obtain ⟨n, e, _⟩ := cell_int ht hf
  have hc : v.cells.toList = [v] := by
    cases v with
    | agg cs => simp [Value.okWide, ht, Cell.okWide, Cell.ok] at hval
    | _ => rfl
  rw [hc] at e
  cases e
  exact ⟨n, rfl⟩
set_option maxRecDepth 100000 in
theorem walk_CyclotomicPolynomials {H : Type} {enc : TypeId × Value → H} {W : World} {base : Nat} {v0 : Value} {d0 : DataW H} {p0 : List MemPlace}
    (u0 : Value.okWide Tryz.prog W .any base 3 v0) (h0 : DataW.Trod enc Tryz.prog W 0 (fun _ => true) true 3 v0 d0 p0) :
    Calls Tryz.prog 4 #[v0] W fun e w' => e = .returned (.bool true) ∧ Below W.heap.size W w' := by
  obtain ⟨n, g0⟩ := open_i64 Tryz.underlying3 u0 h0
  exact law_call (vs := [v0]) (Rf.law15_all n) ⟨g0, trivial⟩
end Go.Proofs.YtigciplaoikcfaaGreat
