/- The law CyclotomicGalois: its walk over what its calls hand back. -/
import Derived.Test.YtmbejakmeijcbaaGreatZt14
namespace Go.Proofs.YtmbejakmeijcbaaGreat
open Go.RowKit
namespace Rf
end Rf
end Go.Proofs.YtmbejakmeijcbaaGreat
/- The law CyclotomicGalois over abstract arguments. -/
namespace Go.Proofs.YtmbejakmeijcbaaGreat
open Go.RowKit
namespace Rf
theorem nql_qx {d : Nat} {v : Nat → Rat} (h : Q.Fin d v) : Q.qx (Q.tq v d) (fun i => (ofR (v i)).val) = v := by
 rw [show (fun i => (ofR (v i)).val) = v from funext fun i => ofR_val _]
 exact Q.qx_self (Q.tq_fin h)
theorem same_self {d D e : Nat} {v : Nat → Rat} (hd : d ≤ 12) (h : ∀ i, Bd D (2 ^ e) (v i)) (h0 : 0 < D) (hD : D ≤ 2 ^ 100000) (he : e ≤ 100000) : FnOK Tryz.prog true 16 [.c (nql (Q.tq v d) v), .c (nql (Q.tq v d) v)] (.c (.bool true)) :=
 (same14_b (by have := Q.tq_le v d; omega) (fun i => Nat.le_trans (bd_doc (h i) h0 hD (by omega)) (by decide)) ⟨fun _ => ⟨rfl, fun _ _ => rfl⟩, fun _ => rfl⟩).weak
theorem wq_bd {D e : Nat} {x : Rat} (h : Bd D (2 ^ e) x) (h0 : 0 < D) (hD : D ≤ 2 ^ 100000) (he : e ≤ 100000) : wq (ofR x) :=
 wq_n (Nat.le_trans (bd_doc h h0 hD (by omega)) (by decide))
structure Dn (D : Nat) : Prop where
 pos : 0 < D
 a : D ≤ 2 ^ 100000
 b : D ≤ 2 ^ 1000000
 aa : D * D ≤ 2 ^ 100000
 bb : D * D ≤ 2 ^ 1000000
 pp : 0 < D * D
theorem dn15 {D : Nat} (h0 : 0 < D) (h : D ≤ 2 ^ (32 * 32)) : Dn D :=
 ⟨h0, le_pow (a := 32 * 32) (b := 100000) h (by decide), le_pow (a := 32 * 32) (b := 1000000) h (by decide), le_pow (a := 2048) (b := 100000) (mul_le_pow (a := 32 * 32) (b := 32 * 32) (c := 2048) h h rfl) (by decide), le_pow (a := 2048) (b := 1000000) (mul_le_pow (a := 32 * 32) (b := 32 * 32) (c := 2048) h h rfl) (by decide), Nat.mul_pos h0 h0⟩
end Rf
end Go.Proofs.YtmbejakmeijcbaaGreat
