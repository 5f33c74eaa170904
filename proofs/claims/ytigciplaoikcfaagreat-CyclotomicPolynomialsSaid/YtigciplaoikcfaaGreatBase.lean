/- What it is for a slice to read as digits to base 2^32, kept over whatever leaves old memory as it was. -/
import Derived.Test.YtigciplaoikcfaaGreatRows
import Derived.WalkKit
import Derived.WalkSpells
import Derived.WalkLawsBesides
import Derived.Lib.Hide
import Derived.Test.YtigciplaoikcfaaGreatDg
import Derived.Handy
import Derived.Deep.QuietTactic
import Derived.BigQuiet
namespace Go.Proofs.YtigciplaoikcfaaGreat
open Go.RowKit

/-- The slice of length n at A reads as the digits ds. -/
def Dig (w : World) (A : Option Addr) (n : Nat) (ds : List Nat) : Prop :=
  n = ds.length ∧ Dg.ok ds ∧ (0 < n → ∃ b o, A = some ⟨b, o, none⟩ ∧ b < w.heap.size ∧ ∀ i (h : i < ds.length), w.cell? ⟨b, o + i, none⟩ = some (.int .u32 (ds[i] : Nat)))

theorem Dig.below {w w' : World} {A : Option Addr} {n : Nat} {ds : List Nat} (h : Dig w A n ds) (hb : Below w.heap.size w w') : Dig w' A n ds := by
  refine ⟨h.1, h.2.1, fun hn => ?_⟩
  obtain ⟨b, o, hA, hlt, hc⟩ := h.2.2 hn
  exact ⟨b, o, hA, Nat.lt_of_lt_of_le hlt hb.size, fun i hi => (hb.cell (p := ⟨b, o + i, none⟩) hlt).trans (hc i hi)⟩
theorem Dig.len {w : World} {A : Option Addr} {n : Nat} {ds : List Nat} (h : Dig w A n ds) : n = ds.length := h.1
theorem Dig.at_ {w : World} {A : Option Addr} {n : Nat} {ds : List Nat} (h : Dig w A n ds) (hn : 0 < n) :
    ∃ b o, A = some ⟨b, o, none⟩ ∧ b < w.heap.size ∧ ∀ i, i < n → w.cell? ⟨b, o + i, none⟩ = some (.int .u32 ((ds[i]?.getD 0 : Nat) : Int)) := by
  obtain ⟨b, o, hA, hlt, hc⟩ := h.2.2 hn
  refine ⟨b, o, hA, hlt, fun i hi => ?_⟩
  have hl := h.1
  have hi' : i < ds.length := by omega
  rw [hc i hi', List.getElem?_eq_getElem hi']; rfl
theorem Dig.take {w : World} {A : Option Addr} {n k : Nat} {ds : List Nat} (h : Dig w A n ds) (hk : k ≤ n) : Dig w A k (ds.take k) := by
  have hl := h.1
  refine ⟨by rw [List.length_take]; omega, Dg.ok_take h.2.1 k, fun h0 => ?_⟩
  obtain ⟨b, o, hA, hlt, hc⟩ := h.2.2 (by omega)
  exact ⟨b, o, hA, hlt, fun i hi => by rw [List.getElem_take]; exact hc i _⟩
theorem trim_prefix (ds : List Nat) : Dg.trim ds = ds.take (Dg.trim ds).length := by
  induction ds with
  | nil => rfl
  | cons d l ih =>
    unfold Dg.trim
    split
    · split <;> simp
    · rename_i r h
      simp only [List.length_cons, List.take_succ_cons]
      rw [← ih]
theorem trim_length (ds : List Nat) : (Dg.trim ds).length ≤ ds.length := by
  have := congrArg List.length (trim_prefix ds)
  rw [List.length_take] at this; omega
theorem Dig.trim {w : World} {A : Option Addr} {n : Nat} {ds : List Nat} (h : Dig w A n ds) : Dig w A (Dg.trim ds).length (Dg.trim ds) := by
  have := h.take (k := (Dg.trim ds).length) (by have := h.len; have := trim_length ds; omega)
  rwa [← trim_prefix] at this
theorem Dig.alloc {w : World} {A : Option Addr} {n : Nat} {ds : List Nat} (h : Dig w A n ds) (o : Obj) : Dig (w.alloc o) A n ds := h.below ((Below.refl _ _).alloc (Nat.le_refl _) o)
theorem Dig.drew {w : World} {A : Option Addr} {n : Nat} {ds : List Nat} (h : Dig w A n ds) : Dig w.drew A n ds := h
theorem Dig.drewN {w : World} {A : Option Addr} {n : Nat} {ds : List Nat} (h : Dig w A n ds) (k : Nat) : Dig (w.drewN k) A n ds := h
theorem Dig.nil (w : World) : Dig w none 0 [] := ⟨rfl, Dg.ok_nil, fun h => absurd h (by omega)⟩
theorem Dig.ok {w : World} {A : Option Addr} {n : Nat} {ds : List Nat} (h : Dig w A n ds) : Dg.ok ds := h.2.1
/-- A block of digits that lies in memory reads as its digits. -/
theorem Dig.of_block {w : World} {b t : Nat} {cs : Array Value} {ds : List Nat} {m : Nat × Nat} (h : w.heap[b]? = some (.cells cs t m)) (hc : cs.toList = ds.map fun d : Nat => Value.int .u32 d) (ho : Dg.ok ds) :
    Dig w (some ⟨b, 0, none⟩) ds.length ds := by
  refine ⟨rfl, ho, fun _ => ⟨b, 0, rfl, ?_, fun i hi => ?_⟩⟩
  · rcases Nat.lt_or_ge b w.heap.size with h1 | h1
    · exact h1
    · rw [Array.getElem?_eq_none h1] at h; cases h
  · simp only [World.cell?, h, Nat.zero_add]
    have : cs[i]? = cs.toList[i]? := by simp
    simp only [Option.isSome_none]
    rw [if_neg (by simp), this, hc]
    simp [hi]

/-- The bound on all lengths of digits. -/
def LIM : Nat := 2 ^ 40
/-- The digits as cells. -/
def u32s (ds : List Nat) : List Value := ds.map fun d : Nat => Value.int .u32 d
theorem u32s_length (ds : List Nat) : (u32s ds).length = ds.length := by simp [u32s]
theorem u32s_set (ds : List Nat) (i d : Nat) : (u32s ds).set i (.int .u32 d) = u32s (ds.set i d) := by simp [u32s, List.map_set]
theorem u32s_get (ds : List Nat) (i : Nat) (h : i < ds.length) : (u32s ds)[i]? = some (.int .u32 ((ds[i]?.getD 0 : Nat) : Int)) := by simp [u32s, h]
/-- A row of digits of the call's own, at block g, of length n. -/
def OwnD (w : World) (base g n : Nat) (ds : List Nat) : Prop := ds.length = n ∧ Dg.ok ds ∧ w.ownsRow base 128 1 (.slice (some ⟨g, 0, none⟩) n n) n (u32s ds)
theorem OwnD.cell {w : World} {base g n : Nat} {ds : List Nat} (h : OwnD w base g n ds) {i : Nat} (hi : i < n) : w.cell? ⟨g, i, none⟩ = some (.int .u32 ((ds[i]?.getD 0 : Nat) : Int)) := by
  rw [h.2.2.cellAt i (by omega), u32s_get ds i (by have := h.1; omega)]
theorem OwnD.frozen {w : World} {base g n : Nat} {ds : List Nat} (h : OwnD w base g n ds) (i : Nat) : w.frozen? ⟨g, i, none⟩ = false := h.2.2.frozenAt i
theorem OwnD.set_ {w : World} {base g n : Nat} {ds : List Nat} (h : OwnD w base g n ds) (i d : Nat) (hd : d < Dg.B) : OwnD (w.setCell ⟨g, i, none⟩ (.int .u32 d)) base g n (ds.set i d) := by
  refine ⟨by simpa using h.1, Dg.ok_set h.2.1 hd, ?_⟩
  rw [← u32s_set]
  exact (h.2.2.stored i _).1
theorem OwnD.base {w : World} {base g n : Nat} {ds : List Nat} (h : OwnD w base g n ds) : base ≤ g ∧ g < w.heap.size := h.2.2.lt g rfl
theorem OwnD.drew {w : World} {base g n : Nat} {ds : List Nat} (h : OwnD w base g n ds) : OwnD w.drew base g n ds := h
theorem OwnD.drewN {w : World} {base g n : Nat} {ds : List Nat} (h : OwnD w base g n ds) (k : Nat) : OwnD (w.drewN k) base g n ds := h
theorem OwnD.below {w w' : World} {base g n : Nat} {ds : List Nat} (h : OwnD w base g n ds) (hb : Below w.heap.size w w') : OwnD w' base g n ds := by
  exact ⟨h.1, h.2.1, h.2.2.kept (row := none) (w' := w') ⟨hb.os, hb.tape, hb.output, hb.size, fun k hk _ => hb.block k hk⟩ (.inr (by simp [Value.ownBlock]))⟩
theorem OwnD.dig {w : World} {base g n : Nat} {ds : List Nat} (h : OwnD w base g n ds) : Dig w (some ⟨g, 0, none⟩) n ds := by
  refine ⟨h.1.symm, h.2.1, fun _ => ⟨g, 0, rfl, h.base.2, fun i hi => ?_⟩⟩
  rw [Nat.zero_add, h.cell (by have := h.1; omega)]
  simp [hi]
theorem OwnD.made {w : World} {base g n : Nat} (h : w.ownsRow base 128 1 (.slice (some ⟨g, 0, none⟩) n n) n (madeCells (Value.int .u32 0).cells (n * 1)).toList) : OwnD w base g n (List.replicate n 0) := by
  refine ⟨by simp, Dg.ok_replicate n, ?_⟩
  have e : (madeCells (Value.int .u32 0).cells (n * 1)).toList = u32s (List.replicate n 0) := by
    rw [Nat.mul_one]
    show (madeCells #[Value.int .u32 0] n).toList = _
    rw [toList_madeCells_one]; simp [u32s]
  rwa [e] at h

/-- The value v reads as the integer x, of at most L digits. -/
def RInt (w : World) (v : Value) (x : Int) (L : Nat) : Prop :=
  ∃ neg A n c ds, v = .agg #[.bool neg, .slice A n c] ∧ Dig w A n ds ∧ n ≤ c ∧ n ≤ L ∧ x = sgn neg (Dg.val ds)
/-- The value v reads as the integer x, normalized, of at most L digits. -/
def NInt (w : World) (v : Value) (x : Int) (L : Nat) : Prop :=
  ∃ neg A n c ds, v = .agg #[.bool neg, .slice A n c] ∧ Dig w A n ds ∧ n ≤ c ∧ n ≤ L ∧ x = sgn neg (Dg.val ds) ∧ Dg.trimmed ds ∧ (neg = true → 0 < n)
theorem NInt.raw {w : World} {v : Value} {x : Int} {L : Nat} (h : NInt w v x L) : RInt w v x L := by
  obtain ⟨neg, A, n, c, ds, h1, h2, h3, h4, h5, _⟩ := h
  exact ⟨neg, A, n, c, ds, h1, h2, h3, h4, h5⟩
theorem RInt.below {w w' : World} {v : Value} {x : Int} {L : Nat} (h : RInt w v x L) (hb : Below w.heap.size w w') : RInt w' v x L := by
  obtain ⟨neg, A, n, c, ds, h1, h2, h3⟩ := h
  exact ⟨neg, A, n, c, ds, h1, h2.below hb, h3⟩
theorem NInt.below {w w' : World} {v : Value} {x : Int} {L : Nat} (h : NInt w v x L) (hb : Below w.heap.size w w') : NInt w' v x L := by
  obtain ⟨neg, A, n, c, ds, h1, h2, h3⟩ := h
  exact ⟨neg, A, n, c, ds, h1, h2.below hb, h3⟩
theorem RInt.mono {w : World} {v : Value} {x : Int} {L L' : Nat} (h : RInt w v x L) (hL : L ≤ L') : RInt w v x L' := by
  obtain ⟨neg, A, n, c, ds, h1, h2, h3, h4, h5⟩ := h
  exact ⟨neg, A, n, c, ds, h1, h2, h3, by omega, h5⟩
theorem NInt.mono {w : World} {v : Value} {x : Int} {L L' : Nat} (h : NInt w v x L) (hL : L ≤ L') : NInt w v x L' := by
  obtain ⟨neg, A, n, c, ds, h1, h2, h3, h4, h5⟩ := h
  exact ⟨neg, A, n, c, ds, h1, h2, h3, by omega, h5⟩
theorem bel_drewN {B : Nat} {a w : World} (h : Below B a w) (k : Nat) : Below B a (w.drewN k) := ⟨h.os, h.tape, h.output, h.size, h.block⟩
theorem ret_int {k : IntKind} {a b : Int} (h : a = b) : Ending.returned (.int k a) = .returned (.int k b) := by rw [h]
theorem bel_ext {a b c : World} (h : Below a.heap.size a b) (k : Below b.heap.size b c) : Below a.heap.size a c := h.trans (k.mono h.size)
end Go.Proofs.YtigciplaoikcfaaGreat
/- The functions trimmed, signed, wide, word, sign of package bigint: what each computes. The lengths are at most maxLen. -/
namespace Go.Proofs.YtigciplaoikcfaaGreat
open Go.RowKit
theorem trim_snoc_zero (l : List Nat) : Dg.trim (l ++ [0]) = Dg.trim l := by
  induction l with
  | nil => rfl
  | cons d l ih => simp only [List.cons_append, Dg.trim, ih]
theorem trim_take_of_zero {ds : List Nat} {k : Nat} (hk : k < ds.length) (h0 : ds[k]?.getD 0 = 0) : Dg.trim (ds.take (k + 1)) = Dg.trim (ds.take k) := by
  rw [List.take_succ_eq_append_getElem hk]
  have : ds[k] = 0 := by simpa [hk] using h0
  rw [this, trim_snoc_zero]
theorem trim_take_of_pos {ds : List Nat} {k : Nat} (ho : Dg.ok ds) (hk : k < ds.length) (h0 : ds[k]?.getD 0 ≠ 0) : Dg.trim (ds.take (k + 1)) = ds.take (k + 1) := by
  refine Dg.trim_of_trimmed (Dg.ok_take ho _) ?_
  rw [List.take_succ_eq_append_getElem hk]
  intro d hd
  rw [List.getLast?_concat] at hd
  injection hd with hd
  subst hd
  simpa [hk] using h0
theorem nat_beq_zero {d : Nat} : (((d : Int) == 0) = true → d = 0) ∧ (((d : Int) == 0) = false → d ≠ 0) := by
  constructor <;> intro h <;> simp at h <;> omega

theorem ret_slice {A : Option Addr} {n m c : Nat} (h : n = m) : Ending.returned (.slice A n c) = .returned (.slice A m c) := by rw [h]

/-- 'trimmed' cuts the leading zeros off. -/
theorem trimmed_any (A : Option Addr) (n c : Nat) (ds : List Nat) (w : World) (hd : Dig w A n ds) (hn : n ≤ maxLen) (hc : n ≤ c) :
    Calls Tryz.prog 139 #[.slice A n c] w fun e w' => e = .returned (.slice A (Dg.trim ds).length c) ∧ w = w' := by
  unfold maxLen at hn
  have H := Lib.hid hd
  clear hd
  go_enter Tryz.func139, Tryz.ntmps139
  go_wp2
  go_loop [0] (fun v => ∃ k, k ≤ n ∧ v = .slice A k c ∧ Hid (Dg.trim (ds.take k) = Dg.trim ds)) (fun v => match v with | .slice _ k _ => k | _ => 0)
  case atStart => exact ⟨n, by omega, rfl, by show _ = _; rw [List.take_of_length_le (by have := H.out.len; omega)]⟩
  case round =>
    obtain ⟨k, hk, rfl, HI⟩ := hrel
    by_cases h0 : 0 < k
    · obtain ⟨b, o, rfl, hlt, hcell⟩ := H.out.at_ (by omega)
      have hck := hcell (k - 1) (by omega)
      clear hcell
      go_wp2
      · go_round
        case rel =>
          have hz : ds[k - 1]?.getD 0 = 0 := nat_beq_zero.1 (by assumption)
          refine ⟨k - 1, by omega, rfl, ?_⟩
          show _ = _
          have := trim_take_of_zero (k := k - 1) (by have := H.out.len; omega) hz
          rw [← this, Nat.sub_add_cancel h0]; exact HI.out
        case measure => simp; omega
      · go_ret
        have hz : ds[k - 1]?.getD 0 ≠ 0 := nat_beq_zero.2 (by assumption)
        have := trim_take_of_pos (k := k - 1) H.out.2.1 (by have := H.out.len; omega) hz
        rw [Nat.sub_add_cancel h0] at this
        exact ⟨ret_slice (by rw [← HI.out, this, List.length_take]; have := H.out.len; omega), rfl⟩
    · obtain rfl : k = 0 := by omega
      go_wp2
      go_ret
      exact ⟨ret_slice (by rw [← HI.out]; rfl), rfl⟩

theorem info36 : (Tryz.prog.info? 61).map (fun i => (i.zero, i.size, i.bytes)) = some (some (.agg #[.bool false, .slice none 0 0]), 2, 32) := by kernel_rfl

/-- 'signed' gives the integer with a sign and digits. -/
theorem signed_any (neg : Bool) (A : Option Addr) (n c : Nat) (ds : List Nat) (w : World) (hd : Dig w A n ds) (hn : n ≤ maxLen) (hc : n ≤ c) :
    Calls Tryz.prog 101 #[.bool neg, .slice A n c] w fun e w' => ∃ v, e = .returned v ∧ NInt w' v (sgn neg (Dg.val ds)) n ∧ Below w.heap.size w w' := by
  have H := Lib.hid hd
  clear hd
  have hmx : n ≤ 9223372036854775807 := by unfold maxLen at hn; exact hn
  have key : ∀ (W : World) (nb : Bool), nb = (neg && decide (0 < (Dg.trim ds).length)) → Below w.heap.size w W →
      ∃ v, Ending.returned (.agg #[.bool nb, .slice A (Dg.trim ds).length c]) = .returned v ∧ NInt W v (sgn neg (Dg.val ds)) n ∧ Below w.heap.size w W := by
    intro W nb hnb hb
    have hl := trim_length ds
    have hl2 := H.out.len
    refine ⟨_, rfl, ⟨nb, A, _, c, Dg.trim ds, rfl, H.out.trim.below hb, by omega, by omega, ?_, Dg.trim_trimmed _, ?_⟩, hb⟩
    · rw [Dg.val_trim, hnb]
      by_cases h0 : 0 < (Dg.trim ds).length
      · simp [h0]
      · have h1 : (Dg.trim ds).length = 0 := by omega
        have h2 : Dg.val ds = 0 := by rw [← Dg.val_trim, List.length_eq_zero_iff.1 h1]; rfl
        rw [h2]; cases neg <;> simp [sgn]
    · rw [hnb]; intro h; simp at h; simpa [List.length_pos_iff] using h.2
  have hle : (Dg.trim ds).length ≤ 9223372036854775807 := by have := trim_length ds; have := H.out.len; omega
  have T : ∀ W, Below w.heap.size w W → Calls Tryz.prog 139 #[.slice A n c] W fun e w' => e = .returned (.slice A (Dg.trim ds).length c) ∧ W = w' :=
    fun W hb => trimmed_any A n c ds W (H.out.below hb) hn hc
  generalize (Dg.trim ds).length = m at key hle T
  have K := Lib.hid key
  have T' := Lib.hid T
  clear key T
  cases neg
  all_goals
    by_cases h0 : 0 < m
    all_goals
      go_enter Tryz.func101, Tryz.ntmps101
      go_wp2_with (go_at_call 139; refine (T'.out _ (by go_grown)).mono ?_; rintro e w' ⟨rfl, rfl⟩)
      refine bodyPost_ret (v := .agg #[.bool _, .slice A m c]) (by simp [results, Tryz.results101, go_sem]; try rfl) rfl ?_
      refine K.out _ _ ?_ ?_
      · simp [h0]
      · go_grown
end Go.Proofs.YtigciplaoikcfaaGreat
/- The functions wide, word, sign, compare of package bigint: what each computes. -/
namespace Go.Proofs.YtigciplaoikcfaaGreat
open Go.RowKit
/-- A slice that reads as the digits of a number, without leading zeros. -/
def IsDig (w : World) (v : Value) (x L : Nat) : Prop := ∃ A n c ds, v = .slice A n c ∧ Dig w A n ds ∧ n ≤ c ∧ n ≤ L ∧ Dg.trimmed ds ∧ Dg.val ds = x

theorem IsDig.new (w : World) (t : Nat) (cs : Array Value) (ds : List Nat) (L : Nat) (hc : cs.toList = ds.map fun d : Nat => Value.int .u32 d) (ho : Dg.ok ds) (ht : Dg.trimmed ds) (hL : ds.length ≤ L) :
    IsDig (w.alloc (.cells cs t)) (.slice (some ⟨w.heap.size, 0, none⟩) ds.length ds.length) (Dg.val ds) L :=
  ⟨_, _, _, ds, rfl, Dig.of_block (heap_alloc_new w _) hc ho, Nat.le_refl _, hL, ht, rfl⟩
theorem IsDig.below {w w' : World} {v : Value} {x L : Nat} (h : IsDig w v x L) (hb : Below w.heap.size w w') : IsDig w' v x L := by
  obtain ⟨A, n, c, ds, h1, h2, h3⟩ := h
  exact ⟨A, n, c, ds, h1, h2.below hb, h3⟩
theorem IsDig.mono {w : World} {v : Value} {x L L' : Nat} (h : IsDig w v x L) (hL : L ≤ L') : IsDig w v x L' := by
  obtain ⟨A, n, c, ds, h1, h2, h3, h4, h5⟩ := h
  exact ⟨A, n, c, ds, h1, h2, h3, by omega, h5⟩
theorem trimmed_one {x : Nat} (h : 0 < x) : Dg.trimmed [x] := by intro d hd; simp at hd; omega
theorem trimmed_two {x y : Nat} (h : 0 < y) : Dg.trimmed [x, y] := by intro d hd; simp at hd; omega
set_option maxHeartbeats 400000 in
theorem wide_any (x : Nat) (w : World) (hx : x < Dg.B * Dg.B) :
    Calls Tryz.prog 102 #[.int .u64 x] w fun e w' => ∃ v, e = .returned v ∧ IsDig w' v x 2 ∧ Below w.heap.size w w' := by
  have HX := Lib.hid hx
  clear hx
  by_cases h0 : x = 0
  · subst h0
    go_enter Tryz.func102, Tryz.ntmps102
    go_wp2
    go_ret
    exact ⟨_, rfl, ⟨none, 0, 0, [], rfl, Dig.nil _, by omega, by omega, by intro d h; simp at h, rfl⟩, Below.refl _ _⟩
  · obtain ⟨X, hX⟩ : ∃ X : Int, X = x := ⟨_, rfl⟩
    have hX0 : 0 < X := by omega
    rw [← hX]
    have HXe := Lib.hid hX
    clear hX h0
    by_cases h1 : X < 4294967296
    · have hb : (X == 0) = false := by simp; omega
      go_enter Tryz.func102, Tryz.ntmps102
      go_wp2
      go_ret
      have hx1 : x < Dg.B := by have := HXe.out; rw [Dg.B_eq]; omega
      have hc : (#[Value.int .u32 (X % 4294967296)] : Array Value).toList = [x].map fun d : Nat => Value.int .u32 d := by
        have := HXe.out
        simp; omega
      have R := IsDig.new w 128 _ [x] 2 hc (Dg.ok_cons.2 ⟨hx1, Dg.ok_nil⟩) (trimmed_one (by have := HXe.out; omega)) (by simp)
      have hv : Dg.val [x] = x := by simp [Dg.val]
      rw [hv, show X % 4294967296 = X from by omega] at R
      exact ⟨_, rfl, R, by go_grown⟩
    · have hb : (X == 0) = false := by simp; omega
      go_enter Tryz.func102, Tryz.ntmps102
      go_wp2
      go_ret
      have hx2 : x / Dg.B < Dg.B := Nat.div_lt_of_lt_mul HX.out
      have hx3 : x % Dg.B < Dg.B := Nat.mod_lt _ Dg.B_pos
      have hx4 : 0 < x / Dg.B := by have := HXe.out; rw [Dg.B_eq]; omega
      have hc : (#[Value.int .u32 (X % 4294967296), Value.int .u32 (X / 4294967296 % 4294967296)] : Array Value).toList = [x % Dg.B, x / Dg.B].map fun d : Nat => Value.int .u32 d := by
        have := HXe.out
        rw [Dg.B_eq] at hx2 ⊢
        simp; omega
      have R := IsDig.new w 128 _ [x % Dg.B, x / Dg.B] 2 hc (Dg.ok_cons.2 ⟨hx3, Dg.ok_cons.2 ⟨hx2, Dg.ok_nil⟩⟩) (trimmed_two hx4) (by simp)
      have hv : Dg.val [x % Dg.B, x / Dg.B] = x := by simp only [Dg.val, Nat.mul_zero, Nat.add_zero]; exact Nat.mod_add_div x Dg.B
      rw [hv] at R
      exact ⟨_, rfl, R, by go_grown⟩
set_option maxHeartbeats 400000 in
theorem sign_any (x : Int) (w : World) :
    Calls Tryz.prog 187 #[.int .i64 x] w fun e w' => e = .returned (.int .i64 x.sign) ∧ w = w' := by
  rcases Int.lt_trichotomy x 0 with h | h | h
  · have e : x.sign = -1 := Int.sign_eq_neg_one_of_neg h
    rw [e]
    clear e
    go_enter Tryz.func187, Tryz.ntmps187
    go_wp2
    go_ret
    exact ⟨rfl, rfl⟩
  · subst h
    go_enter Tryz.func187, Tryz.ntmps187
    go_wp2
    go_ret
    exact ⟨rfl, rfl⟩
  · have e : x.sign = 1 := Int.sign_eq_one_of_pos h
    rw [e]
    clear e
    go_enter Tryz.func187, Tryz.ntmps187
    go_wp2
    go_ret
    exact ⟨rfl, rfl⟩

/-- The value of at most two digits. -/
theorem word_any (A : Option Addr) (n c : Nat) (ds : List Nat) (w : World) (hd : Dig w A n ds) (h2 : n ≤ 2) :
    Calls Tryz.prog 184 #[.slice A n c] w fun e w' => e = .returned (.int .u64 (Dg.val ds : Nat)) ∧ Below w.heap.size w w' := by
  have H := Lib.hid hd
  clear hd
  match n, h2 with
  | 0, _ =>
    obtain rfl : ds = [] := List.length_eq_zero_iff.1 H.out.len.symm
    go_enter Tryz.func184, Tryz.ntmps184
    go_wp2
    go_ret
    exact ⟨rfl, Below.refl _ _⟩
  | 1, _ =>
    obtain ⟨b, o, rfl, hlt, hcell⟩ := H.out.at_ (by omega)
    obtain ⟨d, rfl⟩ := List.length_eq_one_iff.1 H.out.len.symm
    have h0 := hcell 0 (by omega)
    have hb := (Dg.ok_cons.1 H.out.ok).1
    rw [Dg.B_eq] at hb
    simp only [List.getElem?_cons_zero, Option.getD_some, Nat.add_zero] at h0
    obtain ⟨X, hX⟩ : ∃ X : Int, X = d := ⟨_, rfl⟩
    have hX0 : 0 ≤ X := by omega
    have hX1 : X < 4294967296 := by omega
    rw [← hX] at h0
    have HXe := Lib.hid hX
    clear hX hb hcell
    go_enter Tryz.func184, Tryz.ntmps184
    go_wp2
    go_ret
    exact ⟨by rw [HXe.out]; simp [Dg.val], Below.refl _ _⟩
  | 2, _ =>
    obtain ⟨b, o, rfl, hlt, hcell⟩ := H.out.at_ (by omega)
    obtain ⟨d, d', rfl⟩ : ∃ d d', ds = [d, d'] := by
      have := H.out.len
      match ds, this with
      | [d, d'], _ => exact ⟨d, d', rfl⟩
    have h0 := hcell 0 (by omega)
    have h1 := hcell 1 (by omega)
    have hb := Dg.ok_cons.1 H.out.ok
    have hb' := (Dg.ok_cons.1 hb.2).1
    have hb := hb.1
    simp only [List.getElem?_cons_zero, List.getElem?_cons_succ, Option.getD_some, Nat.add_zero] at h0 h1
    have HB := Lib.hid hb
    have HB' := Lib.hid hb'
    rw [Dg.B_eq] at hb hb'
    obtain ⟨X, hX⟩ : ∃ X : Int, X = d := ⟨_, rfl⟩
    have hX0 : 0 ≤ X := by omega
    have hX1 : X < 4294967296 := by omega
    rw [← hX] at h0
    have HXe := Lib.hid hX
    obtain ⟨Y, hY⟩ : ∃ X : Int, X = d' := ⟨_, rfl⟩
    have hY0 : 0 ≤ Y := by omega
    have hY1 : Y < 4294967296 := by omega
    rw [← hY] at h1
    have HYe := Lib.hid hY
    clear hX hY hb hb' hcell
    go_enter Tryz.func184, Tryz.ntmps184
    go_wp2
    go_quiet (fail)
    go_wp2
    go_ret
    have e : bits BinOp.or .u64 (Y * 4294967296) X = ((Dg.val [d, d'] : Nat) : Int) := by
      have h1 := HB.out
      have h2 := HB'.out
      have h3 := Dg.or_high (x := d) (h := d') h1
      have e1 : Y * 4294967296 = ((d' * Dg.B : Nat) : Int) := by rw [HYe.out, Dg.B_eq]; omega
      rw [e1, HXe.out, u64_or_nat _ _ (by rw [Dg.B_eq] at *; omega) (by rw [Dg.B_eq] at *; omega), Nat.or_comm, h3]
      simp only [Dg.val, Nat.mul_zero, Nat.add_zero]
      rw [Nat.mul_comm]
    exact ⟨by rw [e]; rfl, bel_drewN (Below.refl _ _) _⟩
end Go.Proofs.YtigciplaoikcfaaGreat
/- The function compare of package bigint: the order of two numbers by their digits, which have no leading zeros. -/
namespace Go.Proofs.YtigciplaoikcfaaGreat
open Go.RowKit
/-- The sign of a - b. -/
def cmpN (a b : Nat) : Int := ((a : Int) - b).sign
theorem cmpN_lt {a b : Nat} (h : a < b) : cmpN a b = -1 := Int.sign_eq_neg_one_of_neg (by omega)
theorem cmpN_gt {a b : Nat} (h : b < a) : cmpN a b = 1 := Int.sign_eq_one_of_pos (by omega)
theorem cmpN_self (a : Nat) : cmpN a a = 0 := by simp [cmpN]
theorem cmp_top {a b : List Nat} {q n : Nat} (hA : n = a.length) (hB : n = b.length) (oa : Dg.ok a) (hq : q < n) (hd : a.drop (q + 1) = b.drop (q + 1)) (h : a[q]?.getD 0 < b[q]?.getD 0) : Dg.val a < Dg.val b := by
  refine Dg.lt_of_top oa (by omega) (by omega) hd ?_
  rwa [List.getElem?_eq_getElem (by omega), List.getElem?_eq_getElem (by omega)] at h
theorem cmp_same {a b : List Nat} {q n : Nat} (hA : n = a.length) (hB : n = b.length) (hq : q < n) (hd : a.drop (q + 1) = b.drop (q + 1)) (h : a[q]?.getD 0 = b[q]?.getD 0) : a.drop q = b.drop q := by
  rw [List.drop_eq_getElem_cons (l := a) (i := q) (by omega), List.drop_eq_getElem_cons (l := b) (i := q) (by omega), hd]
  congr 1
  rwa [List.getElem?_eq_getElem (by omega), List.getElem?_eq_getElem (by omega)] at h
set_option maxHeartbeats 1000000 in
theorem compare_any (A A' : Option Addr) (n c n' c' : Nat) (a b : List Nat) (w : World) (ha : Dig w A n a) (hb : Dig w A' n' b) (ta : Dg.trimmed a) (tb : Dg.trimmed b) (hn : n ≤ maxLen) (hn' : n' ≤ maxLen) :
    Calls Tryz.prog 172 #[.slice A n c, .slice A' n' c'] w fun e w' => e = .returned (.int .i64 (cmpN (Dg.val a) (Dg.val b))) ∧ Below w.heap.size w w' := by
  unfold maxLen at hn hn'
  have HA := Lib.hid ha
  have HB := Lib.hid hb
  have TA := Lib.hid ta
  have TB := Lib.hid tb
  clear ha hb ta tb
  by_cases hne : n = n'
  · subst hne
    go_enter Tryz.func172, Tryz.ntmps172
    go_wp2
    go_loopw [5] (fun v wr => ∃ k, k ≤ n ∧ v = .int .i64 ((k : Int) - 1) ∧ Hid (a.drop k = b.drop k) ∧ Below w.heap.size w wr) (fun v _ => (intOf v + 1).toNat)
    case atStart => exact ⟨n, by omega, rfl, by show _ = _; rw [List.drop_of_length_le (by have := HA.out.len; omega), List.drop_of_length_le (by have := HB.out.len; omega)], Below.refl _ _⟩
    case round =>
      obtain ⟨k, hk, rfl, HI, hbw⟩ := hrel
      by_cases h0 : 0 < k
      · obtain ⟨b1, o1, rfl, hlt1, hcell1⟩ := (HA.out.below hbw).at_ (by omega)
        obtain ⟨b2, o2, rfl, hlt2, hcell2⟩ := (HB.out.below hbw).at_ (by omega)
        obtain ⟨q, rfl⟩ : ∃ q, k = q + 1 := ⟨k - 1, by omega⟩
        have hc1 := hcell1 q (by omega)
        have hc2 := hcell2 q (by omega)
        clear hcell1 hcell2
        have hi0 : (0 : Int) ≤ q := by omega
        have hi1 : (q : Int) < n := by omega
        obtain ⟨x, hx⟩ : ∃ x, x = a[q]?.getD 0 := ⟨_, rfl⟩
        obtain ⟨y, hy⟩ : ∃ y, y = b[q]?.getD 0 := ⟨_, rfl⟩
        rw [← hx] at hc1
        rw [← hy] at hc2
        have HX := Lib.hid hx
        have HY := Lib.hid hy
        clear hx hy
        rcases Nat.lt_trichotomy x y with hxy | hxy | hxy
        · have hv := cmpN_lt (cmp_top HA.out.len HB.out.len HA.out.ok (by omega) HI.out (by rw [← HX.out, ← HY.out]; exact hxy))
          have HV := Lib.hid hv
          clear hv
          have hb1 : ((x : Int) != (y : Int)) = true := by rw [bne_iff_ne]; omega
          go_wp2
          go_quiet (fail)
          go_wp2
          go_quiet (fail)
          go_wp2
          go_ret
          exact ⟨ret_int HV.out.symm, bel_drewN (bel_drewN hbw _) _⟩
        · have hv := cmp_same HA.out.len HB.out.len (by omega) HI.out (by rw [← HX.out, ← HY.out]; exact hxy)
          have HV := Lib.hid hv
          clear hv
          have hb1 : ((x : Int) != (y : Int)) = false := by rw [bne_eq_false_iff_eq]; omega
          clear hxy
          go_wp2
          go_quiet (fail)
          go_wp2
          go_roundw
          case rel => exact ⟨q, by omega, rfl, HV.out, bel_drewN hbw _⟩
          case measure => simp [intOf] <;> omega
        · have hv := cmpN_gt (cmp_top HB.out.len HA.out.len HB.out.ok (by omega) HI.out.symm (by rw [← HX.out, ← HY.out]; exact hxy))
          have HV := Lib.hid hv
          clear hv
          have hb1 : ((x : Int) != (y : Int)) = true := by rw [bne_iff_ne]; omega
          go_wp2
          go_quiet (fail)
          go_wp2
          go_quiet (fail)
          go_wp2
          go_ret
          exact ⟨ret_int HV.out.symm, bel_drewN (bel_drewN hbw _) _⟩
      · obtain rfl : k = 0 := by omega
        have hv : cmpN (Dg.val a) (Dg.val b) = 0 := by
          have h1 := HI.out
          simp only [List.drop_zero] at h1
          rw [h1]; exact cmpN_self _
        have HV := Lib.hid hv
        clear hv
        go_wp2
        go_ret
        exact ⟨ret_int HV.out.symm, hbw⟩
  · have hv : cmpN (Dg.val a) (Dg.val b) = ((n : Int) - n').sign := by
      rcases Nat.lt_or_gt_of_ne hne with h | h
      · rw [cmpN_lt (Dg.val_lt_of_length HA.out.ok TB.out (by have := HA.out.len; have := HB.out.len; omega)), Int.sign_eq_neg_one_of_neg (by omega)]
      · rw [cmpN_gt (Dg.val_lt_of_length HB.out.ok TA.out (by have := HA.out.len; have := HB.out.len; omega)), Int.sign_eq_one_of_pos (by omega)]
    have HV := Lib.hid hv
    clear hv
    have hb1 : ((n : Int) != (n' : Int)) = true := by rw [bne_iff_ne]; omega
    go_enter Tryz.func172, Tryz.ntmps172
    go_wp2_with (go_at_call 187; refine (sign_any _ _).mono ?_; rintro e w' ⟨rfl, rfl⟩)
    go_ret
    exact ⟨ret_int HV.out.symm, Below.refl _ _⟩
end Go.Proofs.YtigciplaoikcfaaGreat
/- The functions Add32, Sub32, Div32 of package math/bits: what each computes on numbers below 2^32. -/
namespace Go.Proofs.YtigciplaoikcfaaGreat
open Go.RowKit
theorem top_dec {e : Nat} (h : e < 4294967296) : e.testBit 31 = decide (2147483648 ≤ e) := by
  rw [Nat.testBit_eq_decide_div_mod_eq]
  simp only [show (2:Nat) ^ 31 = 2147483648 from rfl]
  by_cases h1 : 2147483648 ≤ e
  · simp [h1]; omega
  · simp [h1]; omega
theorem sub_bits (x y c d : Nat) (hx : x < 4294967296) (hy : y < 4294967296) (hc : c ≤ 1) (hd : d < 4294967296) (b : Nat) (hb : d + y + c = x + 4294967296 * b) :
    (((4294967295 ^^^ x) &&& y) ||| ((4294967295 ^^^ (x ^^^ y)) &&& d)) / 2147483648 = b := by
  have hE : (((4294967295 ^^^ x) &&& y) ||| ((4294967295 ^^^ (x ^^^ y)) &&& d)) < 4294967296 := by
    have h1 : (4294967295 ^^^ x) &&& y < 2 ^ 32 := Nat.and_lt_two_pow _ hy
    have h2 : (4294967295 ^^^ (x ^^^ y)) &&& d < 2 ^ 32 := Nat.and_lt_two_pow _ hd
    exact Nat.or_lt_two_pow h1 h2
  have hT : (((4294967295 ^^^ x) &&& y) ||| ((4294967295 ^^^ (x ^^^ y)) &&& d)).testBit 31 = decide (b = 1) := by
    simp only [Nat.testBit_or, Nat.testBit_and, Nat.testBit_xor, top_dec hx, top_dec hy, top_dec hd]
    have e : Nat.testBit 4294967295 31 = true := by decide
    rw [e]
    by_cases h1 : 2147483648 ≤ x <;> by_cases h2 : 2147483648 ≤ y <;> by_cases h3 : 2147483648 ≤ d <;> simp [h1, h2, h3] <;> omega
  rw [top_dec hE] at hT
  have : b ≤ 1 := by omega
  by_cases h : b = 1
  · simp [h] at hT; omega
  · simp [h] at hT; omega

/-- What a difference borrows. -/
def bor (x y c : Int) : Int := if x < y + c then 1 else 0
theorem bor_cases (x y c : Int) : (x < y + c ∧ bor x y c = 1) ∨ (y + c ≤ x ∧ bor x y c = 0) := by
  unfold bor; split <;> omega
theorem sub_bits_int (x y c : Int) (hx : 0 ≤ x) (hx' : x < 4294967296) (hy : 0 ≤ y) (hy' : y < 4294967296) (hc : 0 ≤ c) (hc' : c ≤ 1) :
    bits BinOp.or IntKind.u32 (bits BinOp.and IntKind.u32 (bits BinOp.xor IntKind.u32 IntKind.u32.max x) y)
      (bits BinOp.and IntKind.u32 (bits BinOp.xor IntKind.u32 IntKind.u32.max (bits BinOp.xor IntKind.u32 x y)) ((x - y - c) % 4294967296)) / 2147483648 = bor x y c := by
  obtain ⟨a, rfl⟩ := Int.eq_ofNat_of_zero_le hx
  obtain ⟨b, rfl⟩ := Int.eq_ofNat_of_zero_le hy
  obtain ⟨k, rfl⟩ := Int.eq_ofNat_of_zero_le hc
  obtain ⟨d, hd⟩ := Int.eq_ofNat_of_zero_le (a := ((a : Int) - b - k) % 4294967296) (by omega)
  have hd' : d < 4294967296 := by omega
  have hmax : IntKind.u32.max = ((4294967295 : Nat) : Int) := rfl
  have h1 : (4294967295 ^^^ a) < 4294967296 := Nat.xor_lt_two_pow (n := 32) (by omega) (by omega)
  have h2 : (a ^^^ b) < 4294967296 := Nat.xor_lt_two_pow (n := 32) (by omega) (by omega)
  have h3 : (4294967295 ^^^ (a ^^^ b)) < 4294967296 := Nat.xor_lt_two_pow (n := 32) (by omega) h2
  have h4 : (4294967295 ^^^ a) &&& b < 4294967296 := Nat.and_lt_two_pow (n := 32) _ (by omega)
  have h5 : (4294967295 ^^^ (a ^^^ b)) &&& d < 4294967296 := Nat.and_lt_two_pow (n := 32) _ hd'
  rw [hd, hmax, u32_xor_nat _ _ (by omega) (by omega), u32_xor_nat _ _ (by omega) (by omega), u32_xor_nat _ _ (by omega) h2, u32_and_nat _ _ h1 (by omega), u32_and_nat _ _ h3 hd', u32_or_nat _ _ h4 h5]
  rcases bor_cases a b k with ⟨h, e⟩ | ⟨h, e⟩ <;> rw [e]
  · have := sub_bits a b k d (by omega) (by omega) (by omega) hd' 1 (by omega)
    omega
  · have := sub_bits a b k d (by omega) (by omega) (by omega) hd' 0 (by omega)
    omega
theorem ret_two {k l : IntKind} {a b c d : Int} (h : a = b) (h' : c = d) : Ending.returned (.tuple #[.int k a, .int l c]) = .returned (.tuple #[.int k b, .int l d]) := by rw [h, h']
set_option maxHeartbeats 400000 in
theorem add32_any (x y c : Int) (w : World) (hx : 0 ≤ x) (hx' : x < 4294967296) (hy : 0 ≤ y) (hy' : y < 4294967296) (hc : 0 ≤ c) (hc' : c ≤ 1) :
    Calls Tryz.prog 186 #[.int .u32 x, .int .u32 y, .int .u32 c] w fun e w' => e = .returned (.tuple #[.int .u32 ((x + y + c) % 4294967296), .int .u32 ((x + y + c) / 4294967296)]) ∧ w = w' := by
  go_enter Tryz.func186, Tryz.ntmps186
  go_wp2
  go_ret2
  exact ⟨rfl, rfl⟩
set_option maxHeartbeats 400000 in
theorem sub32_any (x y c : Int) (w : World) (hx : 0 ≤ x) (hx' : x < 4294967296) (hy : 0 ≤ y) (hy' : y < 4294967296) (hc : 0 ≤ c) (hc' : c ≤ 1) :
    Calls Tryz.prog 188 #[.int .u32 x, .int .u32 y, .int .u32 c] w fun e w' => e = .returned (.tuple #[.int .u32 ((x - y - c) % 4294967296), .int .u32 (bor x y c)]) ∧ w = w' := by
  have hs : IntKind.u32.signed = false := rfl
  have E := Lib.hid (sub_bits_int x y c hx hx' hy hy' hc hc')
  go_enter Tryz.func188, Tryz.ntmps188
  go_wp2
  go_ret2
  exact ⟨ret_two (by omega) E.out, rfl⟩
set_option maxHeartbeats 400000 in
theorem div32_any (h l d : Int) (w : World) (h0 : 0 ≤ h) (hd : h < d) (hd' : d < 4294967296) (hl : 0 ≤ l) (hl' : l < 4294967296) :
    Calls Tryz.prog 199 #[.int .u32 h, .int .u32 l, .int .u32 d] w fun e w' => e = .returned (.tuple #[.int .u32 ((h * 4294967296 + l) / d), .int .u32 ((h * 4294967296 + l) % d)]) ∧ Below w.heap.size w w' := by
  have hb : (d != 0) = true := by rw [bne_iff_ne]; omega
  have hb2 : decide (d ≤ h) = false := by simp; omega
  have hor : bits BinOp.or IntKind.u64 (h * 4294967296) l = h * 4294967296 + l := by
    obtain ⟨a, rfl⟩ := Int.eq_ofNat_of_zero_le h0
    obtain ⟨b, rfl⟩ := Int.eq_ofNat_of_zero_le hl
    have h3 := Dg.or_high (x := b) (h := a) (by rw [Dg.B_eq]; omega)
    rw [show ((a : Int) * 4294967296) = ((a * Dg.B : Nat) : Int) from by rw [Dg.B_eq]; omega, u64_or_nat _ _ (by rw [Dg.B_eq]; omega) (by omega), Nat.or_comm, h3]
    omega
  have hq0 : 0 ≤ (h * 4294967296 + l) / d := Int.ediv_nonneg (by omega) (by omega)
  have hq1 : (h * 4294967296 + l) / d < 4294967296 := by
    apply Int.ediv_lt_of_lt_mul (by omega)
    have : (h + 1) * 4294967296 ≤ d * 4294967296 := Int.mul_le_mul_of_nonneg_right (by omega) (by omega)
    rw [Int.mul_comm]; omega
  have hr0 : 0 ≤ (h * 4294967296 + l) % d := Int.emod_nonneg _ (by omega)
  have hr1 : (h * 4294967296 + l) % d < 4294967296 := Int.lt_trans (Int.emod_lt_of_pos _ (by omega)) hd'
  have hd0 : 1 ≤ d := by omega
  go_enter Tryz.func199, Tryz.ntmps199
  go_wp2
  go_quiet (fail)
  go_wp2
  go_ret2
  refine ⟨ret_two ?_ ?_, bel_drewN (Below.refl _ _) _⟩
  · omega
  · omega
end Go.Proofs.YtigciplaoikcfaaGreat
/- The function plus of package bigint: the sum of two numbers by their digits. The lengths are at most 2^40. -/
namespace Go.Proofs.YtigciplaoikcfaaGreat
open Go.RowKit
theorem info158 : (Tryz.prog.info? 128).map (fun i => (i.zero, i.size, i.bytes)) = some (some (.int .u32 0), 1, 4) := by kernel_rfl
theorem plus_round {a b o : List Nat} {k n : Nat} {X Y C : Int} (hX : X = (a[k]?.getD 0 : Nat)) (hY : Y = (b[k]?.getD 0 : Nat)) (hC0 : 0 ≤ C) (ho : o.length = n + 1) (hk : k < n)
    (hI : Dg.val (o.take k) + Dg.B ^ k * C.toNat = Dg.val (a.take k) + Dg.val (b.take k)) :
    ∃ d : Nat, (X + Y + C) % 4294967296 = d ∧ d < Dg.B ∧ Dg.val ((o.set k d).take (k + 1)) + Dg.B ^ (k + 1) * ((X + Y + C) / 4294967296).toNat = Dg.val (a.take (k + 1)) + Dg.val (b.take (k + 1)) := by
  obtain ⟨c, rfl⟩ := Int.eq_ofNat_of_zero_le hC0
  have h := Dg.plus_step (a := a) (b := b) (o := o) (k := k) (c := c) (by omega) (by simpa using hI)
  refine ⟨(a[k]?.getD 0 + b[k]?.getD 0 + c) % Dg.B, ?_, Nat.mod_lt _ Dg.B_pos, ?_⟩
  · rw [hX, hY, Dg.B_eq]; omega
  · rw [← h]
    congr 2
    rw [hX, hY, Dg.B_eq]; omega
set_option maxHeartbeats 1000000 in
theorem plus_aux (sw : Bool) (A A' : Option Addr) (n c n' c' : Nat) (a b : List Nat) (w : World) (ha : Dig w A n a) (hb : Dig w A' n' b) (hn : n ≤ LIM) (h : n' ≤ n) (h' : sw = true → n' < n) :
    Calls Tryz.prog 171 (if sw then #[.slice A' n' c', .slice A n c] else #[.slice A n c, .slice A' n' c']) w fun e w' => ∃ g o, e = .returned (.slice (some ⟨g, 0, none⟩) (n + 1) (n + 1)) ∧ Dig w' (some ⟨g, 0, none⟩) (n + 1) o ∧ Dg.val o = Dg.val a + Dg.val b ∧ Below w.heap.size w w' := by
  have HA := Lib.hid ha
  have HB := Lib.hid hb
  clear ha hb
  obtain ⟨i0, hi, hz0, hz1, hz2⟩ := info_parts info158
  unfold LIM at hn
  rcases sw with _ | _
  case' true => have hd : decide (n' < n) = true := by have := h' rfl; simp; omega
  case' false => have hd : decide (n < n') = false := by simp; omega
  case' true => show Calls _ _ #[.slice A' n' c', .slice A n c] w _
  case' false => show Calls _ _ #[.slice A n c, .slice A' n' c'] w _
  all_goals
    clear h'
    go_enter Tryz.func171, Tryz.ntmps171
    go_wp2_with (at_make; (refine wpList_make_full _ rfl _ _ 59 rfl w.heap.size 128 i0 _ 1 Tryz.underlying59 hi hz0 hz1 .i64 .i64 _ _ (n + 1) rfl rfl (by omega) (by omega) (by rw [hz2]; omega) (by unfold maxLen; omega) (Nat.le_refl _) ?_); intro w1 hown hgr; have HO := Lib.hid (OwnD.made hown); clear hown; have hb1 : Below w.heap.size w w1 := (Below.refl _ _).grown hgr (Nat.le_refl _) (by simp); clear hgr)
    have hs1 : w1.heap.size = w1.heap.size := rfl
    clear hs1
    go_loopw [6, 23] (fun u v wr => ∃ (k : Nat) (C : Int) (o : List Nat), k ≤ n ∧ v = .int .i64 k ∧ u = .int .u32 C ∧ 0 ≤ C ∧ C ≤ 1 ∧ OwnD wr w.heap.size w.heap.size (n + 1) o ∧ Hid (Dg.val (o.take k) + Dg.B ^ k * C.toNat = Dg.val (a.take k) + Dg.val (b.take k)) ∧ Below w.heap.size w wr) (fun _ v _ => n - (intOf v).toNat)
    case atStart => exact ⟨0, 0, _, by omega, rfl, rfl, by omega, by omega, HO.out, by show _ = _; simp [Dg.val], hb1⟩
    case round =>
      obtain ⟨k, C, o, hk, rfl, rfl, hC0, hC1, hO, HI, hbw⟩ := hrel
      have hoc := hO.cell (i := k) (by omega)
      have hof := hO.frozen k
      have hOh := Lib.hid hO
      clear hO
      by_cases hlt : k < n
      · obtain ⟨b1, o1, rfl, hl1, hcell1⟩ := (HA.out.below hbw).at_ (by omega)
        have hc1 := hcell1 k hlt
        have hx1 : (a[k]?.getD 0) < 4294967296 := Dg.ok_getD HA.out.ok k
        clear hcell1
        obtain ⟨X, hX⟩ : ∃ X : Int, X = (a[k]?.getD 0 : Nat) := ⟨_, rfl⟩
        rw [← hX] at hc1
        have hX0 : 0 ≤ X := by omega
        have hX1 : X < 4294967296 := by omega
        have HX := Lib.hid hX
        clear hX hx1
        have hdk : decide (k < n) = true := by simp; omega
        by_cases hlt2 : k < n'
        · have hdk2 : decide (k < n') = true := by simp; omega
          obtain ⟨b2, o2, rfl, hl2, hcell2⟩ := (HB.out.below hbw).at_ (by omega)
          have hc2 := hcell2 k hlt2
          have hx1 : (b[k]?.getD 0) < 4294967296 := Dg.ok_getD HB.out.ok k
          clear hcell2
          obtain ⟨Y, hY⟩ : ∃ X : Int, X = (b[k]?.getD 0 : Nat) := ⟨_, rfl⟩
          rw [← hY] at hc2
          have hY0 : 0 ≤ Y := by omega
          have hY1 : Y < 4294967296 := by omega
          have HY := Lib.hid hY
          clear hY hx1
          obtain ⟨d, hd1, hd2, hd3⟩ := plus_round HX.out HY.out hC0 hOh.out.1 hlt HI.out
          have HS := Lib.hid (hOh.out.set_ k d hd2)
          have HD3 := Lib.hid hd3
          have hS : (X + Y + C) / 4294967296 ≤ 1 := by omega
          have hS0 : 0 ≤ (X + Y + C) / 4294967296 := by omega
          have hbn : Below w.heap.size w (wr.setCell ⟨w.heap.size, k, none⟩ (.int .u32 d)) := hbw.setCell (by simp) _
          clear hd2 hd3
          go_wp2_with (go_at_call 186; refine (add32_any _ _ _ _ hX0 hX1 hY0 hY1 hC0 hC1).mono ?_; rintro e w' ⟨rfl, rfl⟩)
          go_roundw
          case rel => exact ⟨k + 1, _, _, by omega, by go_num, rfl, hS0, hS, HS.out, HD3.out, hbn⟩
          case measure => simp [intOf] <;> omega
        · have hdk2 : decide (k < n') = false := by simp; omega
          have hY : (0 : Int) = (b[k]?.getD 0 : Nat) := by
            have := HB.out.len
            rw [List.getElem?_eq_none (by omega)]; rfl
          have HY := Lib.hid hY
          clear hY
          obtain ⟨d, hd1, hd2, hd3⟩ := plus_round HX.out HY.out hC0 hOh.out.1 hlt HI.out
          rw [Int.add_zero] at hd1 hd3
          have HS := Lib.hid (hOh.out.set_ k d hd2)
          have HD3 := Lib.hid hd3
          have hS : (X + C) / 4294967296 ≤ 1 := by omega
          have hS0 : 0 ≤ (X + C) / 4294967296 := by omega
          have hbn : Below w.heap.size w (wr.setCell ⟨w.heap.size, k, none⟩ (.int .u32 d)) := hbw.setCell (by simp) _
          clear hd2 hd3
          go_wp2_with (go_at_call 186; refine (add32_any _ 0 _ _ hX0 hX1 (by omega) (by omega) hC0 hC1).mono ?_; rintro e w' ⟨rfl, rfl⟩)
          go_roundw
          case rel => exact ⟨k + 1, _, _, by omega, by go_num, rfl, hS0, hS, HS.out, HD3.out, hbn⟩
          case measure => simp [intOf] <;> omega
      · obtain rfl : k = n := by omega
        have hdk : decide (k < k) = false := by simp
        obtain ⟨d, rfl⟩ := Int.eq_ofNat_of_zero_le hC0
        have HS := Lib.hid (hOh.out.set_ k d (by rw [Dg.B_eq]; omega))
        have hbn : Below w.heap.size w (wr.setCell ⟨w.heap.size, k, none⟩ (.int .u32 d)) := hbw.setCell (by simp) _
        go_wp2
        go_ret
        refine ⟨_, _, rfl, HS.out.dig, ?_, hbn⟩
        have h1 := HI.out
        have h2 := hOh.out.1
        have h3 := HA.out.len
        have h4 := HB.out.len
        rw [List.take_of_length_le (l := a) (by omega), List.take_of_length_le (l := b) (by omega)] at h1
        rw [← h1, ← Dg.take_all (l := o.set k d) (k := k + 1) (by simp; omega), Dg.val_take_set_succ (by omega)]
        simp

/-- A sum of digits: one digit more than the longer one has. -/
theorem plus_any (A A' : Option Addr) (n c n' c' : Nat) (a b : List Nat) (w : World) (ha : Dig w A n a) (hb : Dig w A' n' b) (hn : n ≤ LIM) (hn' : n' ≤ LIM) :
    Calls Tryz.prog 171 #[.slice A n c, .slice A' n' c'] w fun e w' => ∃ g m o, e = .returned (.slice (some ⟨g, 0, none⟩) m m) ∧ m ≤ max n n' + 1 ∧ Dig w' (some ⟨g, 0, none⟩) m o ∧ Dg.val o = Dg.val a + Dg.val b ∧ Below w.heap.size w w' := by
  rcases Nat.lt_or_ge n n' with h | h
  · refine (plus_aux true A' A n' c' n c b a w hb ha hn' (by omega) (fun _ => h)).mono ?_
    rintro e w' ⟨g, o, rfl, h1, h2, h3⟩
    exact ⟨g, n' + 1, o, rfl, by omega, h1, by omega, h3⟩
  · refine (plus_aux false A A' n c n' c' a b w ha hb hn h (by simp)).mono ?_
    rintro e w' ⟨g, o, rfl, h1, h2, h3⟩
    exact ⟨g, n + 1, o, rfl, by omega, h1, by omega, h3⟩
end Go.Proofs.YtigciplaoikcfaaGreat
/- The function less of package bigint: the difference of two numbers by their digits, of which the first is not the lesser one. The lengths are at most 2^40. -/
namespace Go.Proofs.YtigciplaoikcfaaGreat
open Go.RowKit
theorem less_round {a b o : List Nat} {k n : Nat} {X Y C : Int} (hX : X = (a[k]?.getD 0 : Nat)) (hY : Y = (b[k]?.getD 0 : Nat)) (hX1 : X < 4294967296) (hY1 : Y < 4294967296) (hC0 : 0 ≤ C) (hC1 : C ≤ 1) (ho : o.length = n) (hk : k < n)
    (hI : Dg.val (o.take k) + Dg.val (b.take k) = Dg.val (a.take k) + Dg.B ^ k * C.toNat) :
    ∃ d : Nat, (X - Y - C) % 4294967296 = d ∧ d < Dg.B ∧ Dg.val ((o.set k d).take (k + 1)) + Dg.val (b.take (k + 1)) = Dg.val (a.take (k + 1)) + Dg.B ^ (k + 1) * (bor X Y C).toNat := by
  obtain ⟨c, rfl⟩ := Int.eq_ofNat_of_zero_le hC0
  obtain ⟨d, hd⟩ := Int.eq_ofNat_of_zero_le (a := (X - Y - c) % 4294967296) (by omega)
  refine ⟨d, hd, by rw [Dg.B_eq]; omega, Dg.less_step (c := c) (by omega) (by simpa using hI) ?_⟩
  rw [Dg.B_eq]
  rcases bor_cases X Y c with ⟨h, e⟩ | ⟨h, e⟩ <;> rw [e] <;> simp <;> omega
theorem less_end {a b o : List Nat} {n c : Nat} (ha : a.length = n) (hb : b.length ≤ n) (ho : o.length = n) (oo : Dg.ok o) (hab : Dg.val b ≤ Dg.val a)
    (hI : Dg.val (o.take n) + Dg.val (b.take n) = Dg.val (a.take n) + Dg.B ^ n * c) : Dg.val o + Dg.val b = Dg.val a := by
  rw [List.take_of_length_le (by omega), List.take_of_length_le (by omega), List.take_of_length_le (by omega)] at hI
  have h1 := Dg.val_lt oo
  rw [ho] at h1
  rcases Nat.eq_zero_or_pos c with h | h
  · subst h; simpa using hI
  · have : Dg.B ^ n * 1 ≤ Dg.B ^ n * c := Nat.mul_le_mul_left _ h
    omega
set_option maxHeartbeats 1000000 in
theorem less_any (A A' : Option Addr) (n c n' c' : Nat) (a b : List Nat) (w : World) (ha : Dig w A n a) (hb : Dig w A' n' b) (hn : n ≤ LIM) (h : n' ≤ n) (hab : Dg.val b ≤ Dg.val a) :
    Calls Tryz.prog 173 #[.slice A n c, .slice A' n' c'] w fun e w' => ∃ g o, e = .returned (.slice (some ⟨g, 0, none⟩) n n) ∧ Dig w' (some ⟨g, 0, none⟩) n o ∧ Dg.val o + Dg.val b = Dg.val a ∧ Below w.heap.size w w' := by
  have HA := Lib.hid ha
  have HB := Lib.hid hb
  have HAB := Lib.hid hab
  clear ha hb hab
  obtain ⟨i0, hi, hz0, hz1, hz2⟩ := info_parts info158
  unfold LIM at hn
  go_enter Tryz.func173, Tryz.ntmps173
  go_wp2_with (at_make; refine wpList_make_full _ rfl _ _ 59 rfl w.heap.size 128 i0 _ 1 Tryz.underlying59 hi hz0 hz1 .i64 .i64 _ _ n rfl rfl (by omega) (by omega) (by rw [hz2]; omega) (by unfold maxLen; omega) (Nat.le_refl _) ?_; intro w1 hown hgr; have HO := Lib.hid (OwnD.made hown); clear hown; have hb1 : Below w.heap.size w w1 := (Below.refl _ _).grown hgr (Nat.le_refl _) (by simp); clear hgr)
  go_loopw [6, 15] (fun u v wr => ∃ (k : Nat) (C : Int) (o : List Nat), k ≤ n ∧ v = .int .i64 k ∧ u = .int .u32 C ∧ 0 ≤ C ∧ C ≤ 1 ∧ OwnD wr w.heap.size w.heap.size n o ∧ Hid (Dg.val (o.take k) + Dg.val (b.take k) = Dg.val (a.take k) + Dg.B ^ k * C.toNat) ∧ Below w.heap.size w wr) (fun _ v _ => n - (intOf v).toNat)
  case atStart => exact ⟨0, 0, _, by omega, rfl, rfl, by omega, by omega, HO.out, by show _ = _; simp [Dg.val], hb1⟩
  case round =>
    obtain ⟨k, C, o, hk, rfl, rfl, hC0, hC1, hO, HI, hbw⟩ := hrel
    by_cases hlt : k < n
    · have hoc := hO.cell (i := k) (by omega)
      have hof := hO.frozen k
      have hOh := Lib.hid hO
      clear hO
      obtain ⟨b1, o1, rfl, hl1, hcell1⟩ := (HA.out.below hbw).at_ (by omega)
      have hc1 := hcell1 k hlt
      have hx1 : (a[k]?.getD 0) < 4294967296 := Dg.ok_getD HA.out.ok k
      clear hcell1
      obtain ⟨X, hX⟩ : ∃ X : Int, X = (a[k]?.getD 0 : Nat) := ⟨_, rfl⟩
      rw [← hX] at hc1
      have hX0 : 0 ≤ X := by omega
      have hX1 : X < 4294967296 := by omega
      have HX := Lib.hid hX
      clear hX hx1
      have hdk : decide (k < n) = true := by simp; omega
      by_cases hlt2 : k < n'
      · have hdk2 : decide (k < n') = true := by simp; omega
        obtain ⟨b2, o2, rfl, hl2, hcell2⟩ := (HB.out.below hbw).at_ (by omega)
        have hc2 := hcell2 k hlt2
        have hx1 : (b[k]?.getD 0) < 4294967296 := Dg.ok_getD HB.out.ok k
        clear hcell2
        obtain ⟨Y, hY⟩ : ∃ X : Int, X = (b[k]?.getD 0 : Nat) := ⟨_, rfl⟩
        rw [← hY] at hc2
        have hY0 : 0 ≤ Y := by omega
        have hY1 : Y < 4294967296 := by omega
        have HY := Lib.hid hY
        clear hY hx1
        obtain ⟨d, hd1, hd2, hd3⟩ := less_round HX.out HY.out hX1 hY1 hC0 hC1 hOh.out.1 hlt HI.out
        have HS := Lib.hid (hOh.out.set_ k d hd2)
        have HD3 := Lib.hid hd3
        have hS : bor X Y C ≤ 1 := by rcases bor_cases X Y C with h | h <;> omega
        have hS0 : 0 ≤ bor X Y C := by rcases bor_cases X Y C with h | h <;> omega
        have hbn : Below w.heap.size w (wr.setCell ⟨w.heap.size, k, none⟩ (.int .u32 d)) := hbw.setCell (by simp) _
        clear hd2 hd3
        go_wp2_with (go_at_call 188; refine (sub32_any _ _ _ _ hX0 hX1 hY0 hY1 hC0 hC1).mono ?_; rintro e w' ⟨rfl, rfl⟩)
        go_roundw
        case rel => exact ⟨k + 1, _, _, by omega, by go_num, rfl, hS0, hS, HS.out, HD3.out, hbn⟩
        case measure => simp [intOf] <;> omega
      · have hdk2 : decide (k < n') = false := by simp; omega
        have hY : (0 : Int) = (b[k]?.getD 0 : Nat) := by
          have := HB.out.len
          rw [List.getElem?_eq_none (by omega)]; rfl
        have HY := Lib.hid hY
        clear hY
        obtain ⟨d, hd1, hd2, hd3⟩ := less_round HX.out HY.out hX1 (by omega) hC0 hC1 hOh.out.1 hlt HI.out
        rw [Int.sub_zero] at hd1
        have HS := Lib.hid (hOh.out.set_ k d hd2)
        have HD3 := Lib.hid hd3
        have hS : bor X 0 C ≤ 1 := by rcases bor_cases X 0 C with h | h <;> omega
        have hS0 : 0 ≤ bor X 0 C := by rcases bor_cases X 0 C with h | h <;> omega
        have hbn : Below w.heap.size w (wr.setCell ⟨w.heap.size, k, none⟩ (.int .u32 d)) := hbw.setCell (by simp) _
        clear hd2 hd3
        go_wp2_with (go_at_call 188; refine (sub32_any _ 0 _ _ hX0 hX1 (by omega) (by omega) hC0 hC1).mono ?_; rintro e w' ⟨rfl, rfl⟩)
        go_roundw
        case rel => exact ⟨k + 1, _, _, by omega, by go_num, rfl, hS0, hS, HS.out, HD3.out, hbn⟩
        case measure => simp [intOf] <;> omega
    · obtain rfl : k = n := by omega
      have hdk : decide (k < k) = false := by simp
      obtain ⟨d, rfl⟩ := Int.eq_ofNat_of_zero_le hC0
      have HOh := Lib.hid hO
      clear hO
      go_wp2
      go_ret
      exact ⟨_, _, rfl, HOh.out.dig, less_end HA.out.len.symm (by have := HB.out.len; omega) HOh.out.1 HOh.out.2.1 HAB.out HI.out, hbw⟩
end Go.Proofs.YtigciplaoikcfaaGreat
