/- The functions Len32 and LeadingZeros32 of package math/bits, and slices.Clone at digits. -/
import Derived.Test.YtlhdliafjconmaaGreatUf11
import Derived.Test.YtlhdliafjconmaaGreatUf10
import Derived.Deep.RegionHeld3
import Derived.Deep.LoopGhost
import Derived.Test.YtlhdliafjconmaaGreatUf5
namespace Go.Proofs.YtlhdliafjconmaaGreat
open Go.RowKit
set_option maxRecDepth 100000
/-- The table of the numbers of binary digits, as the library has it. -/
def lenTab : ByteArray := { data := #[0, 1, 2, 2, 3, 3, 3, 3, 4, 4, 4, 4, 4, 4, 4, 4, 5, 5, 5, 5, 5, 5, 5, 5, 5, 5, 5, 5, 5, 5, 5, 5, 6, 6, 6, 6, 6, 6, 6, 6, 6, 6, 6, 6, 6, 6, 6, 6, 6, 6, 6, 6, 6, 6, 6, 6, 6, 6, 6, 6, 6, 6, 6, 6, 7, 7, 7, 7, 7, 7, 7, 7, 7, 7, 7, 7, 7, 7, 7, 7, 7, 7, 7, 7, 7, 7, 7, 7, 7, 7, 7, 7, 7, 7, 7, 7, 7, 7, 7, 7, 7, 7, 7, 7, 7, 7, 7, 7, 7, 7, 7, 7, 7, 7, 7, 7, 7, 7, 7, 7, 7, 7, 7, 7, 7, 7, 7, 7, 8, 8, 8, 8, 8, 8, 8, 8, 8, 8, 8, 8, 8, 8, 8, 8, 8, 8, 8, 8, 8, 8, 8, 8, 8, 8, 8, 8, 8, 8, 8, 8, 8, 8, 8, 8, 8, 8, 8, 8, 8, 8, 8, 8, 8, 8, 8, 8, 8, 8, 8, 8, 8, 8, 8, 8, 8, 8, 8, 8, 8, 8, 8, 8, 8, 8, 8, 8, 8, 8, 8, 8, 8, 8, 8, 8, 8, 8, 8, 8, 8, 8, 8, 8, 8, 8, 8, 8, 8, 8, 8, 8, 8, 8, 8, 8, 8, 8, 8, 8, 8, 8, 8, 8, 8, 8, 8, 8, 8, 8, 8, 8, 8, 8, 8, 8, 8, 8, 8, 8, 8, 8, 8, 8, 8, 8, 8, 8] }
theorem lenTab_size : lenTab.size = 256 := by decide +kernel
theorem lenTab_all : ∀ i : Fin 256, 0 < i.1 → 1 ≤ (lenTab.data.toList[i.1]?.getD 0).toNat ∧ (lenTab.data.toList[i.1]?.getD 0).toNat ≤ 8 ∧ 2 ^ ((lenTab.data.toList[i.1]?.getD 0).toNat - 1) ≤ i.1 ∧ i.1 < 2 ^ (lenTab.data.toList[i.1]?.getD 0).toNat := by decide +kernel
theorem lenTab_at (i : Nat) (h : i < lenTab.size) (h0 : 0 < i) : 1 ≤ lenTab[i].toNat ∧ lenTab[i].toNat ≤ 8 ∧ 2 ^ (lenTab[i].toNat - 1) ≤ i ∧ i < 2 ^ lenTab[i].toNat := by
  have h2 : i < 256 := h
  have := lenTab_all ⟨i, h2⟩ h0
  have e : lenTab.data.toList[i]?.getD 0 = lenTab[i] := by
    rw [List.getElem?_eq_getElem (show i < lenTab.data.toList.length from h2)]; rfl
  have h3 : 1 ≤ (lenTab.data.toList[i]?.getD 0).toNat ∧ (lenTab.data.toList[i]?.getD 0).toNat ≤ 8 ∧ 2 ^ ((lenTab.data.toList[i]?.getD 0).toNat - 1) ≤ i ∧ i < 2 ^ (lenTab.data.toList[i]?.getD 0).toNat := this
  rwa [e] at h3
theorem len_fin {x y k t : Nat} (hy : y = x / 2 ^ k) (h1 : 1 ≤ t) (h2 : 2 ^ (t - 1) ≤ y) (h3 : y < 2 ^ t) : 2 ^ (k + t - 1) ≤ x ∧ x < 2 ^ (k + t) := by
  subst hy
  have hp : 0 < 2 ^ k := Nat.pow_pos (by omega)
  constructor
  · rw [show k + t - 1 = (t - 1) + k from by omega, Nat.pow_add]
    exact (Nat.le_div_iff_mul_le hp).1 h2
  · rw [Nat.add_comm k t, Nat.pow_add]
    exact (Nat.div_lt_iff_lt_mul hp).1 h3
/-- The number of binary digits. -/
def IsLen (X : Int) (n : Nat) : Prop := 1 ≤ n ∧ n ≤ 32 ∧ 2 ^ (n - 1) ≤ X.toNat ∧ X.toNat < 2 ^ n
theorem isLen_of {X Y : Int} {k : Nat} (hk : k ≤ 24) (hY : Y.toNat = X.toNat / 2 ^ k) (h : Y.toNat < lenTab.size) (h0 : 0 < Y.toNat) : IsLen X (k + lenTab[Y.toNat].toNat) := by
  obtain ⟨h1, h2, h3, h4⟩ := lenTab_at Y.toNat h h0
  have := len_fin hY h1 h3 h4
  exact ⟨by omega, by omega, this.1, this.2⟩
theorem len_sum (a : Int) (t : Nat) (h0 : 0 ≤ a) (h1 : a ≤ 24) (ht : t ≤ 8) : wrap64 (a + wrap64 (t : Int)) = ((a.toNat + t : Nat) : Int) := by
  rw [IntWalk.wrap64_in (t : Int) ⟨by omega, by omega⟩, IntWalk.wrap64_in _ ⟨by omega, by omega⟩]; omega
def LenPost (X : Int) (w : World) (e : Ending) (w' : World) : Prop := ∃ n : Nat, e = .returned (.int .i64 n) ∧ IsLen X n ∧ w = w'
set_option maxRecDepth 100000 in
set_option maxHeartbeats 1000000 in
theorem len32_any (X : Int) (w : World) (h0 : 0 < X) (h1 : X < 4294967296) :
    Calls Tryz.prog 112 #[.int .u32 X] w (LenPost X w) := by
  by_cases c1 : 65536 ≤ X
  · have hd1 : decide (65536 ≤ X) = true := by simp; omega
    by_cases c2 : 16777216 ≤ X
    · have hd2 : decide (256 ≤ X / 65536) = true := by simp; omega
      have hl : (X / 65536 / 256).toNat < lenTab.size := by rw [lenTab_size]; omega
      have L := Lib.hid (isLen_of (X := X) (k := 24) (Y := X / 65536 / 256) (by omega) (by simp only [show (2 : Nat) ^ 24 = 16777216 from rfl]; omega) hl (by omega))
      have hT := Lib.hid (lenTab_at _ hl (by omega))
      have hb1 : 0 ≤ X / 65536 / 256 := by omega
      have hb2 : X / 65536 / 256 < 256 := by omega
      go_enter Tryz.func112, Tryz.ntmps112
      go_wp2
      go_ret
      exact ⟨_, ret_int (len_sum 24 _ (by omega) (by omega) hT.out.2.1), L.out, rfl⟩
    · have hd2 : decide (256 ≤ X / 65536) = false := by simp; omega
      have hl : (X / 65536).toNat < lenTab.size := by rw [lenTab_size]; omega
      have L := Lib.hid (isLen_of (X := X) (k := 16) (Y := X / 65536) (by omega) (by simp only [show (2 : Nat) ^ 16 = 65536 from rfl]; omega) hl (by omega))
      have hT := Lib.hid (lenTab_at _ hl (by omega))
      have hb1 : 0 ≤ X / 65536 := by omega
      have hb2 : X / 65536 < 256 := by omega
      go_enter Tryz.func112, Tryz.ntmps112
      go_wp2
      go_ret
      exact ⟨_, ret_int (len_sum 16 _ (by omega) (by omega) hT.out.2.1), L.out, rfl⟩
  · have hd1 : decide (65536 ≤ X) = false := by simp; omega
    by_cases c2 : 256 ≤ X
    · have hd2 : decide (256 ≤ X) = true := by simp; omega
      have hl : (X / 256).toNat < lenTab.size := by rw [lenTab_size]; omega
      have L := Lib.hid (isLen_of (X := X) (k := 8) (Y := X / 256) (by omega) (by simp only [show (2 : Nat) ^ 8 = 256 from rfl]; omega) hl (by omega))
      have hT := Lib.hid (lenTab_at _ hl (by omega))
      have hb1 : 0 ≤ X / 256 := by omega
      have hb2 : X / 256 < 256 := by omega
      go_enter Tryz.func112, Tryz.ntmps112
      go_wp2
      go_ret
      exact ⟨_, ret_int (len_sum 8 _ (by omega) (by omega) hT.out.2.1), L.out, rfl⟩
    · have hd2 : decide (256 ≤ X) = false := by simp; omega
      have hl : X.toNat < lenTab.size := by rw [lenTab_size]; omega
      have L := Lib.hid (isLen_of (X := X) (k := 0) (Y := X) (by omega) (by simp) hl (by omega))
      have hT := Lib.hid (lenTab_at _ hl (by omega))
      have hb1 : 0 ≤ X := by omega
      have hb2 : X < 256 := by omega
      go_enter Tryz.func112, Tryz.ntmps112
      go_wp2
      go_ret
      exact ⟨_, ret_int (by have := len_sum 0 (lenTab[X.toNat]'hl).toNat (by omega) (by omega) hT.out.2.1; rw [Int.zero_add] at this; exact this), L.out, rfl⟩
/-- How many binary places a digit is moved so that its highest bit is set. -/
def LzPost (X : Int) (w : World) (e : Ending) (w' : World) : Prop := ∃ s : Nat, e = .returned (.int .i64 s) ∧ s ≤ 31 ∧ Dg.B ≤ 2 * (X.toNat * 2 ^ s) ∧ X.toNat * 2 ^ s < Dg.B ∧ w = w'
theorem lz_of {x n : Nat} (h1 : 1 ≤ n) (h2 : n ≤ 32) (h3 : 2 ^ (n - 1) ≤ x) (h4 : x < 2 ^ n) : Dg.B ≤ 2 * (x * 2 ^ (32 - n)) ∧ x * 2 ^ (32 - n) < Dg.B := by
  have hp : 0 < 2 ^ (32 - n) := Nat.pow_pos (by omega)
  have e : Dg.B = 2 ^ n * 2 ^ (32 - n) := by rw [← Nat.pow_add, show n + (32 - n) = 32 from by omega]; rfl
  have e2 : 2 ^ n = 2 * 2 ^ (n - 1) := by rw [Nat.mul_comm, ← Nat.pow_succ]; congr 1; omega
  constructor
  · rw [e, e2, Nat.mul_assoc]
    exact Nat.mul_le_mul_left 2 (Nat.mul_le_mul_right _ h3)
  · rw [e]; exact Nat.mul_lt_mul_of_pos_right h4 hp
theorem lz32_any (X : Int) (w : World) (h0 : 0 < X) (h1 : X < 4294967296) :
    Calls Tryz.prog 150 #[.int .u32 X] w (LzPost X w) := by
  go_enter Tryz.func150, Tryz.ntmps150
  go_wp2_with (go_at_call 112; refine (len32_any _ _ h0 h1).mono ?_; rintro e w' ⟨n, rfl, hL, rfl⟩; have HL := Lib.hid hL; have hn1 := hL.1; have hn2 := hL.2.1; clear hL)
  go_ret
  have := lz_of HL.out.1 HL.out.2.1 HL.out.2.2.1 HL.out.2.2.2
  exact ⟨32 - n, ret_int (by omega), by omega, this.1, this.2, rfl⟩
/-- A row of the call's own reads as its digits. -/
theorem isVal_of_own {w : World} {base n : Nat} {v : Value} {ds : List Nat} (h : w.ownsRow base 84 1 v n (u32s ds)) (ho : Dg.ok ds) : ∃ A c, v = .slice A n c ∧ Dig w A n ds ∧ n ≤ c := by
  have hl : ds.length = n := by have := h.1; rw [u32s_length] at this; omega
  rcases h.2 with ⟨rfl, rfl⟩ | ⟨g, cap, cur, rfl, _, hh, hnc, _, _, htk⟩
  · obtain rfl : ds = [] := List.length_eq_zero_iff.1 hl
    exact ⟨none, 0, rfl, Dig.nil w, by omega⟩
  · refine ⟨_, cap, rfl, ⟨hl.symm, ho, fun _ => ⟨g, 0, rfl, ?_, fun i hi => ?_⟩⟩, hnc⟩
    · rcases Nat.lt_or_ge g w.heap.size with h1 | h1
      · exact h1
      · rw [Array.getElem?_eq_none h1] at hh; cases hh
    · have e : cur.toList[i]? = (u32s ds)[i]? := by rw [← htk, List.getElem?_take, if_pos (by omega)]
      simp only [World.cell?, hh, Nat.zero_add, Option.isSome_none]
      rw [if_neg (by simp)]
      have e2 : cur[i]? = cur.toList[i]? := by simp
      rw [e2, e, u32s_get ds i hi]
      simp [hi]
theorem u32s_one (ds : List Nat) : ∀ u ∈ u32s ds, u.oneCell' = true := by
  intro u hu
  simp only [u32s, List.mem_map] at hu
  obtain ⟨d, _, rfl⟩ := hu
  rfl
set_option maxHeartbeats 1000000 in
theorem clone_any (A : Option Addr) (n c : Nat) (ds : List Nat) (w : World) (hd : Dig w A n ds) (hn : n ≤ LIM) :
    Calls Tryz.prog 147 #[.slice A n c] w fun e w' => ∃ A' c', e = .returned (.slice A' n c') ∧ Dig w' A' n ds ∧ n ≤ c' ∧ Below w.heap.size w w' := by
  have H := Lib.hid hd
  clear hd
  obtain ⟨i0, hi, hz0, hz1, hz2⟩ := info_parts info158
  unfold LIM at hn
  have heq := fun (W : World) => Lib.run_eql_slice_nil (P := Tryz.prog) W 24 84 A n c 0 0 Tryz.underlying24
  rcases A with _ | ad
  · have h0 : n = 0 := by
      rcases Nat.eq_zero_or_pos n with h | h
      · exact h
      · obtain ⟨b, o, hA, _⟩ := H.out.2.2 h; cases hA
    subst h0
    obtain rfl : ds = [] := List.length_eq_zero_iff.1 H.out.len.symm
    go_enter Tryz.func147, Tryz.ntmps147
    go_wp2
    go_ret
    exact ⟨none, 0, rfl, Dig.nil _, by omega, Below.refl _ _⟩
  · have hcells : ∀ W, Below w.heap.size w W → ∀ j u, (u32s ds)[j]? = some u → W.cell? (ad.add j) = some u := by
      intro W hb j u hj
      have hjl : j < ds.length := by
        rcases Nat.lt_or_ge j ds.length with h | h
        · exact h
        · rw [List.getElem?_eq_none (by rw [u32s_length]; exact h)] at hj; cases hj
      obtain ⟨b, o, hA, _, hc⟩ := (H.out.below hb).at_ (by have := H.out.len; omega)
      injection hA with hA
      subst hA
      rw [u32s_get ds j hjl] at hj
      rw [← hj, ← hc j (by have := H.out.len; omega)]
      unfold Addr.add
      by_cases h0 : j = 0 <;> simp [h0]
    have HC := Lib.hid hcells
    clear hcells
    go_enter Tryz.func147, Tryz.ntmps147
    go_wp2_with (at_builtin; refine wpList_append_own _ rfl _ _ 24 rfl w.heap.size 84 i0 _ 1 4 Tryz.underlying24 hi hz0 hz1 hz2 rfl (by decide) _ 0 [] rfl (World.ownsRow_lit w #[] 0 (Nat.le_refl _) (by decide) rfl) ad n c (u32s ds) rfl (by rw [u32s_length]; have := H.out.len; omega) (HC.out _ ((Below.refl w.heap.size w).alloc (Nat.le_refl _) _)) (u32s_one ds) (by unfold maxLen; omega) (by omega) (by simp) ?_; intro v' w1 hown hgr hnil)
    go_ret
    rw [Nat.zero_add, List.nil_append] at hown
    obtain ⟨A', c', rfl, hd', hc'⟩ := isVal_of_own hown H.out.ok
    exact ⟨_, _, rfl, hd', hc', ((Below.refl w.heap.size w).alloc (Nat.le_refl _) _).grown hgr (by simp) (fun k hk => by have h2 : some w.heap.size = some k := hk; injection h2 with h2; omega)⟩
end Go.Proofs.YtlhdliafjconmaaGreat
/- The function divide of package bigint: quotient and remainder of two numbers by their digits, which have no leading zeros; the second one is not 0. The lengths are at most 2^39. -/
namespace Go.Proofs.YtlhdliafjconmaaGreat
open Go.RowKit
theorem IsDig.tight {w : World} {v : Value} {x L M : Nat} (h : IsDig w v x L) (hx : x < Dg.B ^ M) : IsDig w v x M := by
  obtain ⟨A, n, c, ds, h1, h2, h3, h4, h5, h6⟩ := h
  exact ⟨A, n, c, ds, h1, h2, h3, by have := Dg.length_le_of_val h5 (by rw [h6]; exact hx); have := h2.len; omega, h5, h6⟩
/-- What divide hands back. -/
def DivPost (x y n m : Nat) (w : World) (e : Ending) (w' : World) : Prop := ∃ v1 v2, e = .returned (.tuple #[v1, v2]) ∧ IsDig w' v1 (x / y) n ∧ IsDig w' v2 (x % y) m ∧ Below w.heap.size w w'
/-- The first number is the lesser one. -/
theorem divide_less (A A' : Option Addr) (n c n' c' : Nat) (a b : List Nat) (w : World) (ha : Dig w A n a) (hb : Dig w A' n' b) (ta : Dg.trimmed a) (tb : Dg.trimmed b) (hn : n ≤ LIM) (hn' : n' ≤ LIM) (hlt : Dg.val a < Dg.val b) :
    Calls Tryz.prog 122 #[.slice A n c, .slice A' n' c'] w (DivPost (Dg.val a) (Dg.val b) n n' w) := by
  have hm : n ≤ maxLen := by unfold maxLen; unfold LIM at hn; omega
  have hm' : n' ≤ maxLen := by unfold maxLen; unfold LIM at hn'; omega
  have HA := Lib.hid ha
  have HB := Lib.hid hb
  have TA := Lib.hid ta
  have TB := Lib.hid tb
  have HLT := Lib.hid hlt
  have C := fun W hW => compare_any A A' n c n' c' a b W (HA.out.below (w' := W) hW) (HB.out.below hW) ta tb hm hm'
  rw [cmpN_lt hlt] at C
  have HC := Lib.hid C
  have HN := Lib.hid hn
  have hvb := Dg.val_lt HB.out.ok
  rw [← HB.out.len] at hvb
  have HVB := Lib.hid hvb
  clear ha hb ta tb hlt C hm hm' hn hn' hvb
  go_enter Tryz.func122, Tryz.ntmps122
  go_wp2_with (first
    | (go_at_call 120; refine (HC.out _ (Below.refl _ _)).mono ?_; rintro e w1 ⟨rfl, hb1⟩)
    | (go_at_call 147; refine (clone_any A n c a _ (HA.out.below hb1) HN.out).mono ?_; rintro e w2 ⟨A2, c2, rfl, hd2, hc2, hb2⟩; have HD2 := Lib.hid hd2; clear hd2))
  go_ret2
  refine ⟨_, _, rfl, ⟨none, 0, 0, [], rfl, Dig.nil _, by omega, by omega, by intro d h; simp at h, ?_⟩, IsDig.tight ⟨A2, n, c2, a, rfl, HD2.out, hc2, Nat.le_refl _, TA.out, ?_⟩ (Nat.lt_trans (Nat.mod_lt _ (by have := HLT.out; omega)) HVB.out), bel_ext hb1 hb2⟩
  · rw [Nat.div_eq_of_lt HLT.out]; rfl
  · rw [Nat.mod_eq_of_lt HLT.out]
/-- Numbers of two digits. -/
theorem divide_word (A A' : Option Addr) (n c n' c' : Nat) (a b : List Nat) (w : World) (ha : Dig w A n a) (hb : Dig w A' n' b) (ta : Dg.trimmed a) (tb : Dg.trimmed b) (h2 : n ≤ 2) (hn' : n' ≤ LIM) (hlt : Dg.val b ≤ Dg.val a) (h0 : 0 < Dg.val b) :
    Calls Tryz.prog 122 #[.slice A n c, .slice A' n' c'] w (DivPost (Dg.val a) (Dg.val b) n n' w) := by
  have hm : n ≤ maxLen := by unfold maxLen; omega
  have hm' : n' ≤ maxLen := by unfold maxLen; unfold LIM at hn'; omega
  have hva := Dg.val_lt ha.ok
  rw [← ha.len] at hva
  have hvb := Dg.val_lt hb.ok
  rw [← hb.len] at hvb
  have hn2 : n' ≤ 2 := by
    have : Dg.val b < Dg.B ^ n := by omega
    have := Dg.length_le_of_val tb this
    rw [hb.len]; omega
  have hva2 : Dg.val a < Dg.B * Dg.B := by
    have : Dg.B ^ n ≤ Dg.B ^ 2 := Nat.pow_le_pow_right Dg.B_pos h2
    rw [Nat.pow_two] at this; omega
  have HA := Lib.hid ha
  have HB := Lib.hid hb
  obtain ⟨K, hK⟩ : ∃ K : Int, K = cmpN (Dg.val a) (Dg.val b) := ⟨_, rfl⟩
  have hK0 : 0 ≤ K := by
    rw [hK]
    rcases Nat.lt_or_ge (Dg.val b) (Dg.val a) with h | h
    · rw [cmpN_gt h]; omega
    · have : Dg.val a = Dg.val b := by omega
      rw [this, cmpN_self]; omega
  have hdK : decide (K < 0) = false := by simp; omega
  have HC := Lib.hid (fun W hW => compare_any A A' n c n' c' a b W (HA.out.below (w' := W) hW) (HB.out.below hW) ta tb hm hm')
  rw [← hK] at HC
  have Wa := fun W hW => word_any A n c a W (HA.out.below (w' := W) hW) h2
  have Wb := fun W hW => word_any A' n' c' b W (HB.out.below (w' := W) hW) hn2
  have hxq : Dg.val a / Dg.val b ≤ Dg.val a := Nat.div_le_self _ _
  have hxr := Nat.mod_lt (Dg.val a) h0
  have W1 := fun W => wide_any (Dg.val a / Dg.val b) W (by omega)
  have W2 := fun W => wide_any (Dg.val a % Dg.val b) W (by omega)
  have HVA := Lib.hid hva
  have HVB := Lib.hid hvb
  have hQa : Dg.val a / Dg.val b < Dg.B ^ n := by omega
  have hQr : Dg.val a % Dg.val b < Dg.B ^ n' := by omega
  have HQa := Lib.hid hQa
  have HQr := Lib.hid hQr
  have hB64 : Dg.B * Dg.B = 18446744073709551616 := rfl
  have hq1 : IntKind.u64.wrap (((Dg.val a : Nat) : Int).tdiv (Dg.val b : Nat)) = ((Dg.val a / Dg.val b : Nat) : Int) := by
    rw [Int.tdiv_eq_ediv_of_nonneg (by omega), ← Int.natCast_ediv]
    generalize Dg.val a / Dg.val b = q at *
    exact IntWalk.u64_in _ ⟨by omega, by omega⟩
  have hr1 : IntKind.u64.wrap (((Dg.val a : Nat) : Int).tmod (Dg.val b : Nat)) = ((Dg.val a % Dg.val b : Nat) : Int) := by
    rw [Int.tmod_eq_emod_of_nonneg (by omega), ← Int.natCast_emod]
    generalize Dg.val a % Dg.val b = q at *
    exact IntWalk.u64_in _ ⟨by omega, by omega⟩
  have HW1 := Lib.hid W1
  have HW2 := Lib.hid W2
  have HWa := Lib.hid Wa
  have HWb := Lib.hid Wb
  obtain ⟨x, hx⟩ : ∃ x, x = Dg.val a := ⟨_, rfl⟩
  obtain ⟨y, hy⟩ : ∃ x, x = Dg.val b := ⟨_, rfl⟩
  rw [← hx, ← hy] at hq1 hr1 HW1 HW2 HQa HQr ⊢
  rw [← hx] at HWa
  rw [← hy] at HWb h0
  obtain ⟨X, hX⟩ : ∃ X : Int, X = x := ⟨_, rfl⟩
  obtain ⟨Y, hY⟩ : ∃ X : Int, X = y := ⟨_, rfl⟩
  have hX0 : 0 ≤ X := by omega
  have hY0 : 1 ≤ Y := by omega
  have hdn : decide ((n : Int) ≤ 2) = true := by simp; omega
  have hYb : (Y == 0) = false := by simp; omega
  have hYn : ¬ Y = 0 := by omega
  rw [← hX, ← hY] at hq1 hr1
  rw [← hX] at HWa
  rw [← hY] at HWb
  have hq2 : X / Y = ((x / y : Nat) : Int) := by rw [hX, hY, Int.natCast_ediv]
  have hr2 : X % Y = ((x % y : Nat) : Int) := by rw [hX, hY, Int.natCast_emod]
  obtain ⟨q, hqq⟩ : ∃ q, q = x / y := ⟨_, rfl⟩
  obtain ⟨r, hrr⟩ : ∃ q, q = x % y := ⟨_, rfl⟩
  rw [← hqq] at hq1 hq2 HW1 HQa
  rw [← hrr] at hr1 hr2 HW2 HQr
  have hr3 : X.tmod Y = (r : Int) := by rw [Int.tmod_eq_emod_of_nonneg hX0]; exact hr2
  have HQ := Lib.hid hqq
  have HR := Lib.hid hrr
  clear hqq hrr
  clear ha hb ta tb hlt hm hm' hn' hva hvb hva2 hK W1 W2 Wa Wb hxq hxr hQa hQr hB64 hx hy hX hY h0 HVA HVB h2 hn2
  go_enter Tryz.func122, Tryz.ntmps122
  go_wp2_with fail
  refine (HC.out _ (Below.refl _ _)).mono ?_
  rintro e w1 ⟨rfl, hb1⟩
  go_wp2_with fail
  refine (HWa.out _ hb1).mono ?_
  rintro e w2 ⟨rfl, hb2⟩
  have hb12 := bel_ext hb1 hb2
  clear hb1 hb2
  go_wp2_with fail
  refine (HWb.out _ hb12).mono ?_
  rintro e w3 ⟨rfl, hb3⟩
  have hb13 := bel_ext hb12 hb3
  clear hb12 hb3
  go_wp2_with fail
  go_region_held3 (fun _ => True) (trivial) (first | (go_at_call_of 85 (Value.int IntKind.u64 (q : Int)); refine (HW1.out _).mono ?_; rintro e w4 ⟨v1, rfl, hv1, hb4⟩; have HV1 := Lib.hid hv1; clear hv1) | (go_at_call_of 85 (Value.int IntKind.u64 (r : Int)); refine (HW2.out _).mono ?_; rintro e w5 ⟨v2, rfl, hv2, hb5⟩; have HV2 := Lib.hid hv2; clear hv2))
  go_wp2
  go_ret2
  have hbb := bel_ext (bel_ext hb13.drew hb4) hb5
  exact ⟨_, _, rfl, by rw [← HQ.out]; exact (HV1.out.below hb5).tight HQa.out, by rw [← HR.out]; exact HV2.out.tight HQr.out, hbb⟩
/-- A division by one digit. -/
theorem divide_short (A A' : Option Addr) (n c c' : Nat) (a b : List Nat) (w : World) (ha : Dig w A n a) (hb : Dig w A' 1 b) (ta : Dg.trimmed a) (tb : Dg.trimmed b) (h2 : 2 < n) (hn : n ≤ LIM) (hlt : Dg.val b ≤ Dg.val a) (h0 : 0 < Dg.val b) :
    Calls Tryz.prog 122 #[.slice A n c, .slice A' 1 c'] w (DivPost (Dg.val a) (Dg.val b) n 1 w) := by
  have hm : n ≤ maxLen := by unfold maxLen; unfold LIM at hn; omega
  have HA := Lib.hid ha
  have HB := Lib.hid hb
  obtain ⟨d, rfl⟩ := List.length_eq_one_iff.1 hb.len.symm
  have hdv : Dg.val [d] = d := by simp [Dg.val]
  rw [hdv] at hlt h0 ⊢
  have hdB := (Dg.ok_cons.1 hb.ok).1
  obtain ⟨K, hK⟩ : ∃ K : Int, K = cmpN (Dg.val a) (Dg.val [d]) := ⟨_, rfl⟩
  have hK0 : 0 ≤ K := by
    rw [hK, hdv]
    rcases Nat.lt_or_ge d (Dg.val a) with h | h
    · rw [cmpN_gt h]; omega
    · have : Dg.val a = d := by omega
      rw [this, cmpN_self]; omega
  have hdK : decide (K < 0) = false := by simp; omega
  have HC := Lib.hid (fun W hW => compare_any A A' n c 1 c' a [d] W (HA.out.below (w' := W) hW) (HB.out.below hW) ta tb hm (by unfold maxLen; omega))
  rw [← hK] at HC
  obtain ⟨b1, o1, rfl, hl1, hcell1⟩ := hb.at_ (by omega)
  have hc0 := hcell1 0 (by omega)
  simp only [List.getElem?_cons_zero, Option.getD_some, Nat.add_zero] at hc0
  obtain ⟨D, hD⟩ : ∃ D : Int, D = d := ⟨_, rfl⟩
  rw [← hD] at hc0
  have hD0 : 0 < D := by omega
  have hD1 : D < 4294967296 := by rw [Dg.B_eq] at hdB; omega
  have HS := Lib.hid (fun W hW => short_any A n c D a W (HA.out.below (w' := W) hW) hn hD0 hD1)
  have hdn : decide ((n : Int) ≤ 2) = false := by simp; omega
  have hva := Dg.val_lt ha.ok
  rw [← ha.len] at hva
  have HVA := Lib.hid hva
  have HDe := Lib.hid hD
  have hdB' : d < Dg.B ^ 1 := by rw [Nat.pow_one]; exact hdB
  have HDB := Lib.hid hdB'
  have HL := Lib.hid hm
  have H0 := Lib.hid h0
  clear hm ha hb ta tb hlt hdv hdB hdB' hK hcell1 hD hva h0 hn
  go_enter Tryz.func122, Tryz.ntmps122
  go_wp2_with fail
  refine (HC.out _ (Below.refl _ _)).mono ?_
  rintro e w1 ⟨rfl, hb1⟩
  have hc1 := (hb1.cell (p := ⟨b1, o1, none⟩) hl1).trans hc0
  clear hc0
  go_wp2_with fail
  refine (HS.out _ hb1).mono ?_
  rintro e w2 ⟨g, q, R, rfl, hq, hR0, hR1, hval, hb2⟩
  have HQ := Lib.hid hq
  have HVal := Lib.hid hval
  have hb12 := bel_ext hb1 hb2
  clear hq hval hc1 hb1 hb2
  go_wp2_with fail
  refine (trimmed_any _ _ _ q _ HQ.out HL.out (Nat.le_refl _)).mono ?_
  rintro e w3 ⟨rfl, rfl⟩
  obtain ⟨r, rfl⟩ := Int.eq_ofNat_of_zero_le hR0
  have hr64 : r < Dg.B * Dg.B := by have h1 := HDB.out; rw [Nat.pow_one] at h1; have h2 := HDe.out; have : Dg.B * 1 ≤ Dg.B * Dg.B := Nat.mul_le_mul_left _ Dg.B_pos; omega
  have HR := Lib.hid hr64
  clear hr64
  go_wp2_with fail
  refine (wide_any _ _ HR.out).mono ?_
  rintro e w4 ⟨v, rfl, hv, hb3⟩
  have HV := Lib.hid hv
  clear hv
  have hb14 := bel_ext hb12 hb3
  go_wp2
  go_ret2
  have hval := HVal.out
  have hd := HDe.out
  have hr := Dg.guess_right (U := Dg.val a) (V := d) (W := r) (g := Dg.val q) (M := 0) (by rw [hval, hd]; simp; omega) (by rw [hval, hd, Nat.add_mul, Nat.one_mul]; simp; omega)
  refine ⟨_, _, rfl, ?_, ?_, hb14⟩
  · refine IsDig.tight ⟨_, _, _, Dg.trim q, rfl, HQ.out.trim.below hb3, ?_, Nat.le_refl _, Dg.trim_trimmed q, ?_⟩ (Nat.lt_of_le_of_lt (Nat.div_le_self _ _) HVA.out)
    · have := trim_length q; have := HQ.out.len; omega
    · rw [Dg.val_trim]; exact hr.1.symm
  · rw [hr.2]
    exact HV.out.tight (by have := HDB.out; omega)
end Go.Proofs.YtlhdliafjconmaaGreat
/- The function divide of package bigint at divisors of two digits and more. The lengths are at most 2^39. -/
namespace Go.Proofs.YtlhdliafjconmaaGreat
open Go.RowKit
theorem OwnD.rebase {w : World} {base base' g n : Nat} {ds : List Nat} (h : OwnD w base g n ds) (hb : base' ≤ base) : OwnD w base' g n ds := by
  refine ⟨h.1, h.2.1, h.2.2.1, ?_⟩
  rcases h.2.2.2 with h1 | ⟨g', cap, cur, h1, h2, h3⟩
  · exact .inl h1
  · exact .inr ⟨g', cap, cur, h1, by omega, h3⟩
theorem OwnD.other {w w' : World} {base g n k : Nat} {ds : List Nat} (h : OwnD w base g n ds) (hg : w.grownBy w' (some k)) (hne : g ≠ k) : OwnD w' base g n ds :=
  ⟨h.1, h.2.1, h.2.2.kept hg (.inr (by simpa [Value.ownBlock] using hne))⟩
theorem OwnD.grown0 {w w' : World} {base g n : Nat} {ds : List Nat} (h : OwnD w base g n ds) (hg : w.grownBy w' none) : OwnD w' base g n ds :=
  ⟨h.1, h.2.1, h.2.2.kept hg (.inr (by simp [Value.ownBlock]))⟩
set_option maxRecDepth 100000 in
set_option maxHeartbeats 2000000 in
theorem divide_long (A A' : Option Addr) (p m c c' : Nat) (a b : List Nat) (w : World) (ha : Dig w A (p + m + 2) a) (hb : Dig w A' (m + 2) b) (ta : Dg.trimmed a) (tb : Dg.trimmed b) (h2 : 2 < p + m + 2) (hn : p + m + 3 ≤ LIM) (hlt : Dg.val b ≤ Dg.val a) (h0 : 0 < Dg.val b) :
    Calls Tryz.prog 122 #[.slice A (p + m + 2) c, .slice A' (m + 2) c'] w (DivPost (Dg.val a) (Dg.val b) (p + m + 2) (m + 2) w) := by
  have hm : p + m + 2 ≤ maxLen := by unfold maxLen; unfold LIM at hn; omega
  have hm' : m + 3 ≤ maxLen := by unfold maxLen; unfold LIM at hn; omega
  have HA := Lib.hid ha
  have HB := Lib.hid hb
  obtain ⟨i0, hi, hz0, hz1, hz2⟩ := info_parts info158
  obtain ⟨K, hK⟩ : ∃ K : Int, K = cmpN (Dg.val a) (Dg.val b) := ⟨_, rfl⟩
  have hK0 : 0 ≤ K := by
    rw [hK]
    rcases Nat.lt_or_ge (Dg.val b) (Dg.val a) with h | h
    · rw [cmpN_gt h]; omega
    · have : Dg.val a = Dg.val b := by omega
      rw [this, cmpN_self]; omega
  have hdK : decide (K < 0) = false := by simp; omega
  have HC := Lib.hid (fun W hW => compare_any A A' (p + m + 2) c (m + 2) c' a b W (HA.out.below (w' := W) hW) (HB.out.below hW) ta tb hm (by unfold maxLen at *; omega))
  rw [← hK] at HC
  obtain ⟨b1, o1, rfl, hl1, hcell1⟩ := hb.at_ (by omega)
  have hc0 := hcell1 (m + 1) (by omega)
  have hdB := Dg.ok_getD hb.ok (m + 1)
  have hml : m + 1 < b.length := by have := hb.len; omega
  have hd0 : 0 < b[m + 1]?.getD 0 := by
    rcases Nat.eq_zero_or_pos (b[m + 1]?.getD 0) with h | h
    · exfalso
      have hl : b.getLast? = some b[m + 1] := by
        rw [List.getLast?_eq_getElem?, ← hb.len]
        exact List.getElem?_eq_getElem hml
      rw [Dg.getD_eq hml] at h
      exact tb _ hl h
    · exact h
  obtain ⟨D, hD⟩ : ∃ D : Int, D = (b[m + 1]?.getD 0 : Nat) := ⟨_, rfl⟩
  rw [← hD] at hc0
  have hD0 : 0 < D := by omega
  have hD1 : D < 4294967296 := by rw [Dg.B_eq] at hdB; omega
  have hpm : ((p : Int) + m + 2) ≤ 2 ^ 40 := by unfold LIM at hn; omega
  have hdn : decide ((p : Int) + (m : Int) + 2 ≤ 2) = false := by simp; omega
  have hdb : (((m : Int) + 2) == 1) = false := by simp; omega
  have HDe := Lib.hid hD
  have HL := Lib.hid hm'
  have H0 := Lib.hid h0
  have HN := Lib.hid hn
  have HTa := Lib.hid ta
  clear hml hm hm' ha hb ta tb hlt hdB hK hcell1 hD h0 hn hd0
  go_enter Tryz.func122, Tryz.ntmps122
  go_wp2_with fail
  refine (HC.out _ (Below.refl _ _)).mono ?_
  rintro e w1 ⟨rfl, hb1⟩
  have hc1 := (hb1.cell (p := ⟨b1, o1 + (m + 1), none⟩) hl1).trans hc0
  clear hc0
  go_wp2_with fail
  refine (lz32_any _ _ hD0 hD1).mono ?_
  rintro e w2 ⟨s, rfl, hs1, hs2, hs3, rfl⟩
  have HS2 := Lib.hid hs2
  have HS3 := Lib.hid hs3
  clear hs2 hs3 hc1
  go_wp2_with fail
  refine (shifted_any A (p + m + 2) c s a _ (HA.out.below hb1) (by have := HN.out; omega) hs1).mono ?_
  rintro e w3 ⟨g1, us, rfl, hu, huv, hb2⟩
  have hb13 := bel_ext hb1 hb2
  have HU := Lib.hid hu
  have HUV := Lib.hid huv
  clear hu huv
  go_wp2_with fail
  refine (shifted_any _ (m + 2) c' s b _ (HB.out.below hb13) (by have := HN.out; omega) hs1).mono ?_
  rintro e w4 ⟨g2, vs, rfl, hv, hvv, hb3⟩
  have hDt : D.toNat = b[m + 1]?.getD 0 := by rw [HDe.out]; exact Int.toNat_natCast _
  have HM := Lib.hid (Dg.moved HB.out.len.symm HB.out.ok (by rw [← hDt]; exact HS2.out) (by rw [← hDt]; exact HS3.out) hv.2.1 hvv)
  have HV := Lib.hid hv
  have HVV := Lib.hid hvv
  clear hv hvv hDt
  go_wp2_with fail
  refine (trimmed_any _ _ _ vs _ HV.out.dig HL.out (Nat.le_refl _)).mono ?_
  rintro e w5 ⟨rfl, rfl⟩
  rw [HM.out.1]
  have hb14 := bel_ext hb13 hb3
  go_wp2_with (at_make; refine wpList_make_full _ rfl _ _ 24 rfl w.heap.size 84 i0 _ 1 Tryz.underlying24 hi hz0 hz1 .i64 .i64 _ _ (p + 1) rfl rfl (by omega) (by omega) (by rw [hz2]; have := HN.out; unfold LIM at this; omega) (by have := HN.out; unfold LIM at this; unfold maxLen; omega) hb14.size ?_; intro w6 hown hgr)
  have hv4 := HV.out.base
  have hu3 := HU.out.base
  have hs14 := hb1.size
  have hU6 := ((HU.out.below hb3).grown0 hgr).rebase (base' := w.heap.size) hs14
  have hQ6 := (OwnD.made hown)
  have hV6 := (HV.out.dig.trim).below (w' := w6) ⟨hgr.os, hgr.tape, hgr.output, hgr.size, fun k hk => hgr.block k hk (by simp)⟩
  rw [HM.out.1] at hV6
  have hb16 : Below w.heap.size w w6 := hb14.grown hgr hb14.size (by simp)
  have hgq : g1 ≠ w4.heap.size := by have := hb3.size; omega
  have hgv : g2 ≠ g1 := by omega
  have hgvq : g2 ≠ w4.heap.size := by omega
  have hwq : w.heap.size ≤ w4.heap.size := hb14.size
  have hw1 : w.heap.size ≤ g1 := by omega
  have hmade : Dg.Made (Dg.val a * 2 ^ s) (Dg.val vs) (p + 1) (List.replicate (p + 1) 0) us := by
    have := Dg.made_start (a := a) (us := us) (qs := List.replicate (p + 1) 0) (n := p + m + 2) (m := m) (s := s) (V := Dg.val vs) HA.out.len.symm HA.out.ok (by omega) (by have := HU.out.1; omega) HUV.out (by have := HM.out.2.2.2; exact this) (by simp; omega)
    rwa [show p + m + 2 + 1 - (m + 2) = p + 1 from by omega] at this
  have HU6 := Lib.hid hU6
  have HQ6 := Lib.hid hQ6
  have HV6 := Lib.hid hV6
  have HMade := Lib.hid hmade
  clear hv4 hu3 hs14 hU6 hQ6 hV6 hmade hb1 hb2 hb3 hb13 hown hgr HC hD0 hD1 HS2 HS3 HDe
  go_loopw [14] (fun z wr => ∃ (k : Nat) (us' qs : List Nat), k ≤ p + 1 ∧ z = .int .i64 ((k : Int) - 1) ∧ OwnD wr w.heap.size g1 (p + m + 2 + 1) us' ∧ OwnD wr w.heap.size w4.heap.size (p + 1) qs ∧ Dig wr (some ⟨g2, 0, none⟩) (m + 2) (Dg.trim vs) ∧ Hid (Dg.Made (Dg.val a * 2 ^ s) (Dg.val vs) k qs us') ∧ Below w.heap.size w wr) (fun z _ => (intOf z + 1).toNat)
  case atStart => exact ⟨p + 1, us, _, by omega, by go_num, HU6.out, HQ6.out, HV6.out, HMade.out, hb16⟩
  case round =>
    obtain ⟨k, us', qs, hk, rfl, hO, hQ, hVd, hMd, hbw⟩ := hrel
    by_cases hkp : 0 < k
    · obtain ⟨j, rfl⟩ : ∃ j, k = j + 1 := ⟨k - 1, by omega⟩
      have hpre := Dg.made_pre (m := m) (k := j) (by have := hO.1; omega) hO.2.1 hMd.out HM.out.2.2.1
      have HO := Lib.hid hO
      have HQ := Lib.hid hQ
      have HVd := Lib.hid hVd
      have HPre := Lib.hid hpre
      clear hO hQ hVd hpre
      have hj0 : (0 : Int) ≤ (j : Int) := by omega
      have hjp : (j : Int) ≤ (p : Int) := by omega
      go_wp2_with fail
      rw [show j + (m + 2) + 1 - j = m + 3 from by omega]
      refine (digit_any w.heap.size g1 j (p + m + 2 + 1) _ (some ⟨g2, 0, none⟩) m (m + 2 + 1) us' (Dg.trim vs) wr HO.out HVd.out (by omega) HN.out (by intro b' o' hbo; injection hbo with hbo; injection hbo with hb1 hb2; omega) HM.out.2.1 (by rw [Dg.val_trim]; exact HPre.out.1)).mono ?_
      rintro e w7 ⟨us2, qd, rfl, hu2, ht2, hd2, hq2, hr2, hg2⟩
      rw [Dg.val_trim] at hq2 hr2
      have hV0 : 0 < Dg.val vs := by
        rw [HVV.out]; exact Nat.mul_pos H0.out (Nat.pow_pos (by omega))
      have hstep := Dg.made_step (m := m) (k := j) (q := qd) (qs := qs) (by have := HO.out.1; omega) (by have := HQ.out.1; omega) (by have := hu2.1; have := HO.out.1; omega) hMd.out hV0 ht2 (by rw [show j + (m + 3) = j + m + 3 from by omega]; exact hd2) HPre.out.2 hq2 hr2
      have hqB : qd < Dg.B := by
        rw [hq2]
        exact Nat.div_lt_of_lt_mul HPre.out.1
      have HQ7 := HQ.out.other hg2 (Ne.symm hgq)
      have hoc := HQ7.cell (i := j) (by omega)
      have hof := HQ7.frozen j
      have HQ8 := Lib.hid (HQ7.set_ j qd hqB)
      have hgst := (HQ7.2.2.stored j (.int .u32 qd)).2
      have HU8 := Lib.hid (hu2.other (w' := w7.setCell ⟨w4.heap.size, j, none⟩ (.int .u32 qd)) hgst hgq)
      have HV8 := Lib.hid ((HVd.out.grown hg2 (by intro b' o' hbo; injection hbo with hbo; injection hbo with hb1 hb2; omega)).grown (w' := w7.setCell ⟨w4.heap.size, j, none⟩ (.int .u32 qd)) hgst (by intro b' o' hbo; injection hbo with hbo; injection hbo with hb1 hb2; omega))
      have hb7 : Below w.heap.size w w7 := hbw.grown hg2 hbw.size (fun k hk => by injection hk with hk; omega)
      have hb8 : Below w.heap.size w (w7.setCell ⟨w4.heap.size, j, none⟩ (.int .u32 qd)) := hb7.setCell hwq _
      have HStep := Lib.hid hstep
      clear hu2 ht2 hd2 hq2 hr2 hg2 hstep HQ7 hgst hqB hV0
      go_wp2_with fail
      go_roundw
      case rel => exact ⟨j, us2, _, by omega, by go_num, HU8.out, HQ8.out, HV8.out, HStep.out, hb8⟩
      case measure => simp [intOf] <;> omega
    · obtain rfl : k = 0 := by omega
      have hend := Dg.made_end HVV.out hMd.out
      have HEnd := Lib.hid hend
      have HO := Lib.hid hO
      have HQ := Lib.hid hQ
      have hus : Dg.val (us'.take (m + 2)) = Dg.val us' := by
        apply Dg.val_take_of_lt
        have := hMd.out.2
        rw [List.drop_zero] at this
        exact Nat.lt_trans this HM.out.2.2.1
      have HUs := Lib.hid hus
      clear hO hQ hVd hus hend
      have hP1 : p + 1 ≤ maxLen := by have := HN.out; unfold LIM at this; unfold maxLen; omega
      have hM2 : m + 2 ≤ maxLen := by have := HL.out; omega
      have HP1 := Lib.hid hP1
      have HM2 := Lib.hid hM2
      have hM3 : m + 2 ≤ LIM := by have := HN.out; omega
      have HM3 := Lib.hid hM3
      have HT := Lib.hid (HO.out.dig.take (k := m + 2) (by omega))
      have hi0 : (0 : Int) ≤ (m : Int) + 2 := by omega
      have hi1 : (m : Int) + 2 ≤ (p : Int) + (m : Int) + 2 + 1 := by omega
      clear hP1 hM2 hM3
      go_wp2_with fail
      go_region_held3 (fun _ => True) (trivial) (first | (go_at_call 90; refine (trimmed_any _ _ _ o3 _ HD3.out HM2.out (Nat.le_refl _)).mono ?_; rintro e w8 ⟨rfl, rfl⟩) | (go_at_call 90; refine (trimmed_any _ _ _ qs _ HQ.out.dig.drew HP1.out (Nat.le_refl _)).mono ?_; rintro e w8 ⟨rfl, rfl⟩) | (go_at_call 153; refine (unshifted_any _ _ _ s (us'.take (m + 2)) _ HT.out.drew HM3.out hs1).mono ?_; rintro e w9 ⟨g3, o3, rfl, hd3, hv3, hb3⟩; have HD3 := Lib.hid hd3; have HV3 := Lib.hid hv3; clear hd3 hv3))
      go_wp2
      go_ret2
      have hbb := bel_ext hbw.drew hb3
      refine ⟨_, _, rfl, ?_, ?_, hbb⟩
      · refine IsDig.tight (L := p + 1) ⟨_, _, _, Dg.trim qs, rfl, (HQ.out.dig.drew.trim).below hb3, ?_, ?_, Dg.trim_trimmed qs, by rw [Dg.val_trim]; exact HEnd.out.1⟩ ?_
        · have := trim_length qs; have := HQ.out.1; omega
        · have := trim_length qs; have := HQ.out.1; omega
        · refine Nat.lt_of_le_of_lt (Nat.div_le_self _ _) ?_
          have := Dg.val_lt HA.out.ok
          rwa [← HA.out.len] at this
      · refine ⟨_, _, _, Dg.trim o3, rfl, HD3.out.trim, ?_, ?_, Dg.trim_trimmed o3, ?_⟩
        · have := trim_length o3; have := HD3.out.len; omega
        · have := trim_length o3; have := HD3.out.len; omega
        · rw [Dg.val_trim, HV3.out, HUs.out]; exact HEnd.out.2
/-- Quotient and remainder of digits without leading zeros; the divisor is not 0. -/
theorem divide_any (A A' : Option Addr) (n c n' c' : Nat) (a b : List Nat) (w : World) (ha : Dig w A n a) (hb : Dig w A' n' b) (ta : Dg.trimmed a) (tb : Dg.trimmed b) (hn : n + 1 ≤ LIM) (hn' : n' ≤ LIM) (h0 : 0 < Dg.val b) :
    Calls Tryz.prog 122 #[.slice A n c, .slice A' n' c'] w (DivPost (Dg.val a) (Dg.val b) n n' w) := by
  rcases Nat.lt_or_ge (Dg.val a) (Dg.val b) with hlt | hlt
  · exact divide_less A A' n c n' c' a b w ha hb ta tb (by omega) hn' hlt
  · rcases Nat.lt_or_ge 2 n with h2 | h2
    · match n', hb with
      | 0, hb =>
        obtain rfl : b = [] := List.length_eq_zero_iff.1 hb.len.symm
        exact absurd h0 (by simp [Dg.val])
      | 1, hb => exact divide_short A A' n c c' a b w ha hb ta tb h2 (by omega) hlt h0
      | m + 2, hb =>
        have hle : m + 2 ≤ n := by
          have h1 := Dg.val_lt ha.ok
          rw [← ha.len] at h1
          have := Dg.length_le_of_val tb (Nat.lt_of_le_of_lt hlt h1)
          rw [hb.len]; exact this
        obtain ⟨p, rfl⟩ : ∃ p, n = p + m + 2 := ⟨n - m - 2, by omega⟩
        exact divide_long A A' p m c c' a b w ha hb ta tb h2 (by omega) hlt h0
    · exact divide_word A A' n c n' c' a b w ha hb ta tb h2 hn' hlt h0
end Go.Proofs.YtlhdliafjconmaaGreat
/- The functions Sign, Of, Normal, Neg, Abs of package bigint: what each computes. The lengths are at most 2^40. -/
namespace Go.Proofs.YtlhdliafjconmaaGreat
open Go.RowKit
theorem trim_pos (ds : List Nat) : 0 < (Dg.trim ds).length ↔ 0 < Dg.val ds := by
  rw [← Dg.val_trim ds]
  have h := Dg.val_eq_zero (Dg.trim_trimmed ds)
  constructor
  · intro h1
    rcases Nat.eq_zero_or_pos (Dg.val (Dg.trim ds)) with h2 | h2
    · rw [h.1 h2] at h1; simp at h1
    · exact h2
  · intro h1
    rcases Nat.eq_zero_or_pos (Dg.trim ds).length with h2 | h2
    · rw [List.length_eq_zero_iff.1 h2] at h1; simp [Dg.val] at h1
    · exact h2
theorem Dig.store {w : World} {A : Option Addr} {n : Nat} {ds : List Nat} (h : Dig w A n ds) (p : Addr) (u : Value) (hp : ∀ d : Int, w.cell? p ≠ some (.int .u32 d)) : Dig (w.setCell p u) A n ds := by
  refine ⟨h.1, h.2.1, fun hn => ?_⟩
  obtain ⟨b, o, hA, hlt, hc⟩ := h.2.2 hn
  refine ⟨b, o, hA, by simpa using hlt, fun i hi => ?_⟩
  rw [World.cell?_setCell_other w p ⟨b, o + i, none⟩ u (fun e => hp _ (by rw [e]; exact hc i hi))]
  exact hc i hi
theorem NInt.store {w : World} {v : Value} {x : Int} {L : Nat} (h : NInt w v x L) (p : Addr) (u : Value) (hp : ∀ d : Int, w.cell? p ≠ some (.int .u32 d)) : NInt (w.setCell p u) v x L := by
  obtain ⟨neg, A, n, c, ds, h1, h2, h3⟩ := h
  exact ⟨neg, A, n, c, ds, h1, h2.store p u hp, h3⟩
/-- The result's own two cells are written. -/
theorem NInt.ret {w : World} {v u0 u1 : Value} {x : Int} {L R n0 c0 : Nat} {b0 : Bool} {A0 : Option Addr} (h : NInt w v x L) (r0 : w.cell? ⟨R, 0, none⟩ = some (.bool b0)) (r1 : w.cell? ⟨R, 1, none⟩ = some (.slice A0 n0 c0)) :
    NInt ((w.setCell ⟨R, 0, none⟩ u0).setCell ⟨R, 1, none⟩ u1) v x L := by
  refine (h.store _ u0 (by rw [r0]; simp)).store _ u1 ?_
  rw [World.cell?_setCell_other w ⟨R, 0, none⟩ ⟨R, 1, none⟩ u0 (by simp), r1]
  simp
theorem cell_ret {w : World} {R B i : Nat} {u0 u1 a : Value} (h : w.cell? ⟨B, i, none⟩ = some a) (hne : B ≠ R) : ((w.setCell ⟨R, 0, none⟩ u0).setCell ⟨R, 1, none⟩ u1).cell? ⟨B, i, none⟩ = some a := by
  rw [World.cell?_setCell_other _ ⟨R, 1, none⟩ ⟨B, i, none⟩ u1 (by intro e; injection e with e1; omega), World.cell?_setCell_other _ ⟨R, 0, none⟩ ⟨B, i, none⟩ u0 (by intro e; injection e with e1; omega)]
  exact h
theorem bel_ret {w w2 : World} {R : Nat} {u0 u1 : Value} (h : Below w.heap.size w w2) (hR : w.heap.size ≤ R) : Below w.heap.size w ((w2.setCell ⟨R, 0, none⟩ u0).setCell ⟨R, 1, none⟩ u1) := (h.setCell (p := ⟨R, 0, none⟩) hR u0).setCell (p := ⟨R, 1, none⟩) hR u1
/-- A machine integer. -/
theorem int_of_any (x : Int) (w : World) (h0 : -9223372036854775808 ≤ x) (h1 : x ≤ 9223372036854775807) :
    Calls Tryz.prog 46 #[.int .i64 x] w fun e w' => ∃ v, e = .returned v ∧ NInt w' v x 2 ∧ Below w.heap.size w w' := by
  by_cases hx : x < 0
  · have hd : decide (x < 0) = true := by simp; omega
    obtain ⟨q, hq⟩ : ∃ q : Nat, -x = q := Int.eq_ofNat_of_zero_le (by omega)
    have hw : IntKind.u64.wrap (-(IntKind.u64.wrap x)) = (q : Int) := by
      simp [IntKind.wrap, IntKind.bits, IntKind.signed]; omega
    have hqB : q < Dg.B * Dg.B := by rw [Dg.B_eq]; omega
    have HQ := Lib.hid hqB
    have HX := Lib.hid hq
    clear hq hqB h0 h1 hx
    go_enter Tryz.func46, Tryz.ntmps46
    go_wp2_with fail
    refine (wide_any q _ HQ.out).mono ?_
    rintro e w1 ⟨v, rfl, ⟨A, n, c, ds, rfl, hd1, hc1, hn1, ht1, hv1⟩, hb1⟩
    have HD := Lib.hid hd1
    have HV := Lib.hid hv1
    clear hd1 hv1 ht1
    go_wp2_with fail
    refine (signed_any true A n c ds _ HD.out (by unfold maxLen; omega) hc1).mono ?_
    rintro e w2 ⟨v, rfl, ⟨neg, A2, n2, c2, ds2, rfl, hd2⟩, hb2⟩
    have HD2 := Lib.hid hd2
    have hb12 := bel_ext hb1 hb2
    have r0 := hb12.cell (p := ⟨w.heap.size, 0, none⟩) (by simp)
    have r1 := hb12.cell (p := ⟨w.heap.size, 1, none⟩) (by simp)
    have f0 := hb12.frozen (p := ⟨w.heap.size, 0, none⟩) (by simp)
    have f1 := hb12.frozen (p := ⟨w.heap.size, 1, none⟩) (by simp)
    simp at r0 r1 f0 f1
    clear hd2 hw hd
    have hbw : Below w.heap.size w w2 := ((Below.refl _ _).alloc (Nat.le_refl _) _).trans (hb12.mono (by simp))
    go_wp2
    refine bodyPost_ret (v := .agg #[.bool neg, .slice A2 n2 c2]) (by simp [results, Tryz.results46, go_sem, r0, r1]) rfl ⟨_, rfl, ?_, bel_ret hbw (Nat.le_refl _)⟩
    have hN : NInt w2 (.agg #[.bool neg, .slice A2 n2 c2]) (sgn true (Dg.val ds)) n := ⟨neg, A2, n2, c2, ds2, rfl, HD2.out⟩
    have e : sgn true (Dg.val ds) = x := by rw [HV.out]; have := HX.out; simp [sgn]; omega
    rw [e] at hN
    exact (hN.mono hn1).ret r0 r1
  · have hd : decide (x < 0) = false := by simp; omega
    obtain ⟨q, hq⟩ : ∃ q : Nat, x = q := Int.eq_ofNat_of_zero_le (by omega)
    have hw : IntKind.u64.wrap x = (q : Int) := by
      simp [IntKind.wrap, IntKind.bits, IntKind.signed]; omega
    have hqB : q < Dg.B * Dg.B := by rw [Dg.B_eq]; omega
    have HQ := Lib.hid hqB
    have HX := Lib.hid hq
    clear hq hqB h0 h1 hx
    go_enter Tryz.func46, Tryz.ntmps46
    go_wp2_with fail
    refine (wide_any q _ HQ.out).mono ?_
    rintro e w1 ⟨v, rfl, ⟨A, n, c, ds, rfl, hd1, hc1, hn1, ht1, hv1⟩, hb1⟩
    have HD := Lib.hid hd1
    have HV := Lib.hid hv1
    clear hd1 hv1 ht1
    go_wp2_with fail
    refine (signed_any false A n c ds _ HD.out (by unfold maxLen; omega) hc1).mono ?_
    rintro e w2 ⟨v, rfl, ⟨neg, A2, n2, c2, ds2, rfl, hd2⟩, hb2⟩
    have HD2 := Lib.hid hd2
    have hb12 := bel_ext hb1 hb2
    have r0 := hb12.cell (p := ⟨w.heap.size, 0, none⟩) (by simp)
    have r1 := hb12.cell (p := ⟨w.heap.size, 1, none⟩) (by simp)
    have f0 := hb12.frozen (p := ⟨w.heap.size, 0, none⟩) (by simp)
    have f1 := hb12.frozen (p := ⟨w.heap.size, 1, none⟩) (by simp)
    simp at r0 r1 f0 f1
    clear hd2 hw hd
    have hbw : Below w.heap.size w w2 := ((Below.refl _ _).alloc (Nat.le_refl _) _).trans (hb12.mono (by simp))
    go_wp2
    refine bodyPost_ret (v := .agg #[.bool neg, .slice A2 n2 c2]) (by simp [results, Tryz.results46, go_sem, r0, r1]) rfl ⟨_, rfl, ?_, bel_ret hbw (Nat.le_refl _)⟩
    have hN : NInt w2 (.agg #[.bool neg, .slice A2 n2 c2]) (sgn false (Dg.val ds)) n := ⟨neg, A2, n2, c2, ds2, rfl, HD2.out⟩
    have e : sgn false (Dg.val ds) = x := by rw [HV.out]; have := HX.out; simp [sgn]; omega
    rw [e] at hN
    exact (hN.mono hn1).ret r0 r1
end Go.Proofs.YtlhdliafjconmaaGreat
/- The functions Neg and Abs of package bigint: what each computes. The lengths are at most 2^40. -/
namespace Go.Proofs.YtlhdliafjconmaaGreat
open Go.RowKit
end Go.Proofs.YtlhdliafjconmaaGreat
/- The function Mul of package bigint: the product. The lengths are together at most 2^40. -/
namespace Go.Proofs.YtlhdliafjconmaaGreat
open Go.RowKit
theorem sgn_mul (p q : Bool) (a b : Nat) : sgn (!(p == q)) (a * b) = sgn p a * sgn q b := by
  cases p <;> cases q <;> simp [sgn, Int.neg_mul, Int.mul_neg]
theorem bel_undrew {w w' : World} (h : Below w.drew.heap.size w.drew w') : Below w.heap.size w w' := ⟨h.os, h.tape, h.output, h.size, h.block⟩
/-- Three new blocks of two cells. -/
structure Boxes (w W : World) (a b c d e f : Value) : Prop where
  below : Below w.heap.size w W
  size : w.heap.size + 1 + 1 < W.heap.size
  a0 : W.cell? ⟨w.heap.size, 0, none⟩ = some a
  a1 : W.cell? ⟨w.heap.size, 1, none⟩ = some b
  b0 : W.cell? ⟨w.heap.size + 1, 0, none⟩ = some c
  b1 : W.cell? ⟨w.heap.size + 1, 1, none⟩ = some d
  c0 : W.cell? ⟨w.heap.size + 1 + 1, 0, none⟩ = some e
  c1 : W.cell? ⟨w.heap.size + 1 + 1, 1, none⟩ = some f
  f0 : W.frozen? ⟨w.heap.size + 1 + 1, 0, none⟩ = false
  f1 : W.frozen? ⟨w.heap.size + 1 + 1, 1, none⟩ = false
theorem boxes (w : World) (a b c d e f : Value) (t1 t2 t3 : TypeId) : Boxes w (((w.alloc (.cells #[a, b] t1)).alloc (.cells #[c, d] t2)).alloc (.cells #[e, f] t3)) a b c d e f := by
  have h0 : ((w.alloc (.cells #[a, b] t1)).alloc (.cells #[c, d] t2)).heap.size = w.heap.size + 1 + 1 := by simp
  have h1 : (w.alloc (.cells #[a, b] t1)).heap.size = w.heap.size + 1 := by simp
  have k1 : (((w.alloc (.cells #[a, b] t1)).alloc (.cells #[c, d] t2)).alloc (.cells #[e, f] t3)).heap[w.heap.size]? = some (.cells #[a, b] t1 (0, 0)) := by
    rw [Below.heap_alloc _ _ _ (by omega), Below.heap_alloc _ _ _ (by omega)]; exact heap_alloc_new w _
  have k2 : (((w.alloc (.cells #[a, b] t1)).alloc (.cells #[c, d] t2)).alloc (.cells #[e, f] t3)).heap[w.heap.size + 1]? = some (.cells #[c, d] t2 (0, 0)) := by
    rw [Below.heap_alloc _ _ _ (by omega), ← h1]; exact heap_alloc_new _ _
  have k3 : (((w.alloc (.cells #[a, b] t1)).alloc (.cells #[c, d] t2)).alloc (.cells #[e, f] t3)).heap[w.heap.size + 1 + 1]? = some (.cells #[e, f] t3 (0, 0)) := by
    rw [← h0]; exact heap_alloc_new _ _
  refine ⟨(((Below.refl _ _).alloc (Nat.le_refl _) _).alloc (by omega) _).alloc (by omega) _, by simp, ?_, ?_, ?_, ?_, ?_, ?_, ?_, ?_⟩
  · simp only [World.cell?, k1]; rfl
  · simp only [World.cell?, k1]; rfl
  · simp only [World.cell?, k2]; rfl
  · simp only [World.cell?, k2]; rfl
  · simp only [World.cell?, k3]; rfl
  · simp only [World.cell?, k3]; rfl
  · simp only [World.frozen?, k3]; rfl
  · simp only [World.frozen?, k3]; rfl
set_option maxHeartbeats 1000000 in
theorem int_mul_any (v1 v2 : Value) (x y : Int) (L1 L2 : Nat) (w : World) (hv1 : RInt w v1 x L1) (hv2 : RInt w v2 y L2) (hL : L1 + L2 ≤ LIM) :
    Calls Tryz.prog 50 #[v1, v2] w fun e w' => ∃ v', e = .returned v' ∧ NInt w' v' (x * y) (L1 + L2) ∧ Below w.heap.size w w' := by
  obtain ⟨ng, A, n, c, ds, rfl, hd, hc, hn, hx⟩ := hv1
  obtain ⟨nh, A', n', c', es, rfl, he, hc', hn', hy⟩ := hv2
  have hm : n ≤ maxLen := by unfold maxLen; unfold LIM at hL; omega
  have hm' : n' ≤ maxLen := by unfold maxLen; unfold LIM at hL; omega
  have hle : (Dg.trim ds).length ≤ n := by have := trim_length ds; have := hd.len; omega
  have hle' : (Dg.trim es).length ≤ n' := by have := trim_length es; have := he.len; omega
  have H := Lib.hid hd
  have K := Lib.hid he
  have HX := Lib.hid hx
  have HY := Lib.hid hy
  have HL := Lib.hid (show (Dg.trim ds).length + (Dg.trim es).length ≤ LIM by omega)
  have HT := Lib.hid (show (Dg.trim ds).length + (Dg.trim es).length ≤ L1 + L2 by omega)
  have HLL := Lib.hid hL
  have T1 := Lib.hid (fun W hW => trimmed_any A n c ds W (H.out.below (w' := W) hW) hm hc)
  have T2 := Lib.hid (fun W hW => trimmed_any A' n' c' es W (K.out.below (w' := W) hW) hm' hc')
  clear hd he hx hy hm hm' hL hle hle'
  go_enter Tryz.func50, Tryz.ntmps50
  go_wp2_with fail
  have hbx := boxes w (.bool ng) (.slice A n c) (.bool nh) (.slice A' n' c') (.bool false) (.slice none 0 0) 26 26 26
  generalize ((w.alloc (.cells #[.bool ng, .slice A n c] 26)).alloc (.cells #[.bool nh, .slice A' n' c'] 26)).alloc (.cells #[.bool false, .slice none 0 0] 26) = W0 at hbx ⊢
  obtain ⟨hb0, hsz, c0, c1, c2, c3, q0, q1, f0, f1⟩ := hbx
  have hsz0 : w.heap.size < W0.heap.size := by omega
  have hsz1 : w.heap.size + 1 < W0.heap.size := by omega
  have HB0 := Lib.hid hb0
  have S0 := Lib.hid (And.intro c0 (And.intro c1 (And.intro c2 c3)))
  have Q0 := Lib.hid (And.intro q0 (And.intro q1 (And.intro f0 f1)))
  have SK : ∀ w1 : World, Below W0.heap.size W0 w1 → w1.cell? ⟨w.heap.size, 0, none⟩ = some (.bool ng) ∧ w1.cell? ⟨w.heap.size, 1, none⟩ = some (.slice A n c) ∧ w1.cell? ⟨w.heap.size + 1, 0, none⟩ = some (.bool nh) ∧ w1.cell? ⟨w.heap.size + 1, 1, none⟩ = some (.slice A' n' c') :=
    fun w1 hb => ⟨(hb.cell (p := ⟨w.heap.size, 0, none⟩) hsz0).trans c0, (hb.cell (p := ⟨w.heap.size, 1, none⟩) hsz0).trans c1, (hb.cell (p := ⟨w.heap.size + 1, 0, none⟩) hsz1).trans c2, (hb.cell (p := ⟨w.heap.size + 1, 1, none⟩) hsz1).trans c3⟩
  have HSK := Lib.hid SK
  clear hb0 c0 c1 c2 c3 q0 q1 f0 f1 SK
  go_region_held3 (fun w' => w'.cell? ⟨w.heap.size, 0, none⟩ = some (.bool ng) ∧ w'.cell? ⟨w.heap.size, 1, none⟩ = some (.slice A n c) ∧ w'.cell? ⟨w.heap.size + 1, 0, none⟩ = some (.bool nh) ∧ w'.cell? ⟨w.heap.size + 1, 1, none⟩ = some (.slice A' n' c')) (first | exact S2.out | exact ⟨cell_ret S2.out.1 (by omega), cell_ret S2.out.2.1 (by omega), cell_ret S2.out.2.2.1 (by omega), cell_ret S2.out.2.2.2 (by omega)⟩ | exact S1.out | exact S0.out) (first
    | (go_at_call 91; refine (times_any A A' _ c _ c' (Dg.trim ds) (Dg.trim es) _ (H.out.trim.below HB0.out.drew) (K.out.trim.below HB0.out.drew) HL.out).mono ?_; rintro e w1 ⟨v, rfl, ⟨A1, n1, c1, fs, rfl, hd1, hc1, hn1, hv1⟩, hb1⟩; have HD1 := Lib.hid hd1; have HV1 := Lib.hid hv1; have hb1' := bel_undrew hb1; have HB1 := Lib.hid hb1'; have S1 := Lib.hid (HSK.out w1 hb1'); clear hd1 hb1 hb1' hv1)
    | (go_at_call 84; refine (signed_any (!(ng == nh)) A1 n1 c1 fs _ HD1.out (by have := HLL.out; have := HT.out; unfold LIM at *; unfold maxLen; omega) hc1).mono ?_; rintro e w2 ⟨v, rfl, ⟨neg2, A2, n2, c2, ds2, rfl, hd2⟩, hb2⟩; have HD2 := Lib.hid hd2; have hb12 := bel_ext HB1.out hb2; have S2 := Lib.hid (HSK.out w2 hb12); have r0 := (hb12.cell (p := ⟨w.heap.size + 1 + 1, 0, none⟩) hsz).trans Q0.out.1; have r1 := (hb12.cell (p := ⟨w.heap.size + 1 + 1, 1, none⟩) hsz).trans Q0.out.2.1; have g0 := (hb12.frozen (p := ⟨w.heap.size + 1 + 1, 0, none⟩) hsz).trans Q0.out.2.2.1; have g1 := (hb12.frozen (p := ⟨w.heap.size + 1 + 1, 1, none⟩) hsz).trans Q0.out.2.2.2; have HB2 := Lib.hid hb12; clear hd2 hb2 hb12)
    | (go_at_call_of 90 (Value.slice A n c); refine (T1.out _ HB0.out.drew).mono ?_; rintro e w8 ⟨rfl, rfl⟩)
    | (go_at_call 90; refine (T2.out _ HB0.out.drew).mono ?_; rintro e w8 ⟨rfl, rfl⟩))
  go_wp2
  have hbw : Below w.heap.size w w2 := HB0.out.trans (HB2.out.mono HB0.out.size)
  refine bodyPost_ret (v := .agg #[.bool neg2, .slice A2 n2 c2]) (by simp [results, Tryz.results50, go_sem, r0, r1]) rfl ⟨_, rfl, ?_, bel_ret hbw (by omega)⟩
  have hN : NInt w2 (.agg #[.bool neg2, .slice A2 n2 c2]) (sgn (!(ng == nh)) (Dg.val fs)) n1 := ⟨neg2, A2, n2, c2, ds2, rfl, HD2.out⟩
  rw [HV1.out, Dg.val_trim, Dg.val_trim, sgn_mul, ← HX.out, ← HY.out] at hN
  exact (hN.mono (Nat.le_trans hn1 HT.out)).ret r0 r1
end Go.Proofs.YtlhdliafjconmaaGreat
/- The function add of package bigint: the sum of an integer and of another one that is given by its sign and digits. The lengths are at most 2^39. -/
namespace Go.Proofs.YtlhdliafjconmaaGreat
open Go.RowKit
/-- Two new blocks of two cells. -/
structure Boxes2 (w W : World) (a b e f : Value) : Prop where
  below : Below w.heap.size w W
  size : w.heap.size + 1 < W.heap.size
  a0 : W.cell? ⟨w.heap.size, 0, none⟩ = some a
  a1 : W.cell? ⟨w.heap.size, 1, none⟩ = some b
  c0 : W.cell? ⟨w.heap.size + 1, 0, none⟩ = some e
  c1 : W.cell? ⟨w.heap.size + 1, 1, none⟩ = some f
  f0 : W.frozen? ⟨w.heap.size + 1, 0, none⟩ = false
  f1 : W.frozen? ⟨w.heap.size + 1, 1, none⟩ = false
end Go.Proofs.YtlhdliafjconmaaGreat
/- The functions Add and Sub of package bigint: the sum and the difference. The lengths are at most 2^40. -/
namespace Go.Proofs.YtlhdliafjconmaaGreat
open Go.RowKit
end Go.Proofs.YtlhdliafjconmaaGreat
/- The function common of package bigint: the greatest common divisor by digits. The lengths are below 2^40. -/
namespace Go.Proofs.YtlhdliafjconmaaGreat
open Go.RowKit
end Go.Proofs.YtlhdliafjconmaaGreat
/- The function Gcd of package bigint: the greatest common divisor. The lengths are below 2^40. -/
namespace Go.Proofs.YtlhdliafjconmaaGreat
open Go.RowKit
end Go.Proofs.YtlhdliafjconmaaGreat
/- The function DivMod of package bigint: quotient and remainder, the remainder not negative. The lengths are below 2^40. -/
namespace Go.Proofs.YtlhdliafjconmaaGreat
open Go.RowKit
theorem sgn_div {p q : Bool} {a b : Nat} (hb : 0 < b) (h : p = false ∨ a % b = 0) : sgn p a / sgn q b = sgn (!(p == q)) (a / b) ∧ sgn p a % sgn q b = (a % b : Nat) := by
  have hd := Nat.div_add_mod a b
  have hm := Nat.mod_lt a hb
  have key : ∀ x y r k : Int, y ≠ 0 → 0 ≤ r → r < y.natAbs → r + y * k = x → x / y = k ∧ x % y = r := by
    intro x y r k hy h0 h1 h2
    subst h2
    refine ⟨?_, ?_⟩
    · rw [Int.add_mul_ediv_left _ _ hy]
      have : r / y = 0 := by
        rcases Int.natAbs_eq y with e | e
        · rw [e]; exact Int.ediv_eq_zero_of_lt h0 (by omega)
        · rw [e, Int.ediv_neg, Int.ediv_eq_zero_of_lt h0 (by omega)]; rfl
      omega
    · rw [Int.add_mul_emod_self_left]
      rcases Int.natAbs_eq y with e | e
      · rw [e]; exact Int.emod_eq_of_lt h0 (by omega)
      · rw [e, Int.emod_neg]; exact Int.emod_eq_of_lt h0 (by omega)
  generalize a / b = k at *
  generalize a % b = m at *
  have hi : (b : Int) * k + m = a := by rw [← Int.natCast_mul, ← Int.natCast_add, hd]
  generalize ht : (b : Int) * k = t at *
  apply key
  · cases q <;> simp [sgn] <;> omega
  · omega
  · cases q <;> simp [sgn] <;> omega
  · rcases h with rfl | h
    · cases q <;> simp [sgn, Int.mul_neg, Int.neg_mul, ht] <;> omega
    · rw [h] at hi ⊢
      cases p <;> cases q <;> simp [sgn, Int.mul_neg, Int.neg_mul, ht] at hi ⊢ <;> omega
/-- A negative number with a remainder: one more, and what is missing. -/
theorem sgn_div_up {q : Bool} {a b : Nat} (hb : 0 < b) (h : 0 < a % b) : sgn true a / sgn q b = sgn (!(true == q)) (a / b + 1) ∧ sgn true a % sgn q b = (b - a % b : Nat) := by
  have hd := Nat.div_add_mod a b
  have hm := Nat.mod_lt a hb
  have e : ∃ c : Nat, c + a = b * (a / b + 1) ∧ c = b - a % b ∧ c < b := ⟨b - a % b, by rw [Nat.mul_add]; omega, rfl, by omega⟩
  obtain ⟨c, hc, hc2, hc3⟩ := e
  rw [← hc2]
  generalize a / b + 1 = k at *
  have hi : (c : Int) + a = (b : Int) * k := by rw [← Int.natCast_mul, ← Int.natCast_add, hc]
  generalize ht : (b : Int) * k = t at *
  have hy : sgn q b ≠ 0 := by cases q <;> simp [sgn] <;> omega
  have hx : sgn true a = c + sgn q b * sgn (!(true == q)) k := by
    cases q <;> simp [sgn, Int.mul_neg, Int.neg_mul, ht] <;> omega
  have ha : (c : Int) < (sgn q b).natAbs := by cases q <;> simp [sgn] <;> omega
  rw [hx]
  refine ⟨?_, ?_⟩
  · rw [Int.add_mul_ediv_left _ _ hy]
    have : (c : Int) / sgn q b = 0 := by
      rcases Int.natAbs_eq (sgn q b) with e | e
      · rw [e]; exact Int.ediv_eq_zero_of_lt (by omega) (by omega)
      · rw [e, Int.ediv_neg, Int.ediv_eq_zero_of_lt (by omega) (by omega)]; rfl
    omega
  · rw [Int.add_mul_emod_self_left]
    rcases Int.natAbs_eq (sgn q b) with e | e
    · rw [e]; exact Int.emod_eq_of_lt (by omega) (by omega)
    · rw [e, Int.emod_neg]; exact Int.emod_eq_of_lt (by omega) (by omega)
end Go.Proofs.YtlhdliafjconmaaGreat
/- The function DivMod of package bigint at a divisor other than 0: quotient and remainder, the remainder not negative. The lengths are below 2^40. -/
namespace Go.Proofs.YtlhdliafjconmaaGreat
open Go.RowKit
/-- Four new blocks of two cells. -/
structure Boxes4 (w W : World) (a b c d e f : Value) : Prop where
  below : Below w.heap.size w W
  size : w.heap.size + 1 + 1 + 1 < W.heap.size
  a0 : W.cell? ⟨w.heap.size, 0, none⟩ = some a
  a1 : W.cell? ⟨w.heap.size, 1, none⟩ = some b
  b0 : W.cell? ⟨w.heap.size + 1, 0, none⟩ = some c
  b1 : W.cell? ⟨w.heap.size + 1, 1, none⟩ = some d
  c0 : W.cell? ⟨w.heap.size + 1 + 1, 0, none⟩ = some e
  c1 : W.cell? ⟨w.heap.size + 1 + 1, 1, none⟩ = some f
  f0 : W.frozen? ⟨w.heap.size + 1 + 1, 0, none⟩ = false
  f1 : W.frozen? ⟨w.heap.size + 1 + 1, 1, none⟩ = false
  d0 : W.cell? ⟨w.heap.size + 1 + 1 + 1, 0, none⟩ = some e
  d1 : W.cell? ⟨w.heap.size + 1 + 1 + 1, 1, none⟩ = some f
  g0 : W.frozen? ⟨w.heap.size + 1 + 1 + 1, 0, none⟩ = false
  g1 : W.frozen? ⟨w.heap.size + 1 + 1 + 1, 1, none⟩ = false
theorem boxes4 (w : World) (a b c d e f : Value) (t : TypeId) : Boxes4 w ((((w.alloc (.cells #[a, b] t)).alloc (.cells #[c, d] t)).alloc (.cells #[e, f] t)).alloc (.cells #[e, f] t)) a b c d e f := by
  have hx := boxes w a b c d e f t t t
  have hs : (((w.alloc (.cells #[a, b] t)).alloc (.cells #[c, d] t)).alloc (.cells #[e, f] t)).heap.size = w.heap.size + 1 + 1 + 1 := by simp
  generalize ((w.alloc (.cells #[a, b] t)).alloc (.cells #[c, d] t)).alloc (.cells #[e, f] t) = W at hx hs
  obtain ⟨h1, h2, h3, h4, h5, h6, h7, h8, h9, h10⟩ := hx
  have hb : Below W.heap.size W (W.alloc (.cells #[e, f] t)) := (Below.refl _ _).alloc (Nat.le_refl _) _
  have k : (W.alloc (.cells #[e, f] t)).heap[w.heap.size + 1 + 1 + 1]? = some (.cells #[e, f] t (0, 0)) := by rw [← hs]; exact heap_alloc_new _ _
  have l0 : w.heap.size < W.heap.size := by omega
  have l1 : w.heap.size + 1 < W.heap.size := by omega
  refine ⟨h1.trans (hb.mono (by omega)), by simp; omega, (hb.cell (p := ⟨w.heap.size, 0, none⟩) l0).trans h3, (hb.cell (p := ⟨w.heap.size, 1, none⟩) l0).trans h4, (hb.cell (p := ⟨w.heap.size + 1, 0, none⟩) l1).trans h5, (hb.cell (p := ⟨w.heap.size + 1, 1, none⟩) l1).trans h6, (hb.cell (p := ⟨w.heap.size + 1 + 1, 0, none⟩) h2).trans h7, (hb.cell (p := ⟨w.heap.size + 1 + 1, 1, none⟩) h2).trans h8, (hb.frozen (p := ⟨w.heap.size + 1 + 1, 0, none⟩) h2).trans h9, (hb.frozen (p := ⟨w.heap.size + 1 + 1, 1, none⟩) h2).trans h10, ?_, ?_, ?_, ?_⟩
  · simp only [World.cell?, k]; rfl
  · simp only [World.cell?, k]; rfl
  · simp only [World.frozen?, k]; rfl
  · simp only [World.frozen?, k]; rfl
/-- What DivMod hands back. -/
def DmPost (x y : Int) (L1 L2 : Nat) (w : World) (e : Ending) (w' : World) : Prop := ∃ q r, e = .returned (.tuple #[q, r, .int .i64 0]) ∧ NInt w' q (x / y) (L1 + 1) ∧ NInt w' r (x % y) L2 ∧ Below w.heap.size w w'
/-- The stores of both results, and what they leave. -/
theorem dm_fin {x y k r : Int} {L1 L2 n3 n4 n5 c5 n6 c6 : Nat} {w w2 w3 : World} {neg5 neg6 : Bool} {A5 A6 : Option Addr} {ds5 ds6 : List Nat}
    (h5 : Dig w2 A5 n5 ds5 ∧ n5 ≤ c5 ∧ n5 ≤ n3 ∧ k = sgn neg5 (Dg.val ds5) ∧ Dg.trimmed ds5 ∧ (neg5 = true → 0 < n5)) (hb3 : Below w2.heap.size w2 w3)
    (h6 : Dig w3 A6 n6 ds6 ∧ n6 ≤ c6 ∧ n6 ≤ n4 ∧ r = sgn neg6 (Dg.val ds6) ∧ Dg.trimmed ds6 ∧ (neg6 = true → 0 < n6))
    (e0 : w3.cell? ⟨w.heap.size + 1 + 1, 0, none⟩ = some (.bool false)) (e1 : w3.cell? ⟨w.heap.size + 1 + 1, 1, none⟩ = some (.slice none 0 0))
    (s0 : w3.cell? ⟨w.heap.size + 1 + 1 + 1, 0, none⟩ = some (.bool false)) (s1 : w3.cell? ⟨w.heap.size + 1 + 1 + 1, 1, none⟩ = some (.slice none 0 0))
    (hq : x / y = k) (hr : x % y = r) (hn3 : n3 ≤ L1 + 1) (hn4 : n4 ≤ L2) (hbw : Below w.heap.size w w3) :
    DmPost x y L1 L2 w (.returned (.tuple #[.agg #[.bool neg5, .slice A5 n5 c5], .agg #[.bool neg6, .slice A6 n6 c6], .int .i64 0])) ((((w3.setCell ⟨w.heap.size + 1 + 1, 0, none⟩ (.bool neg5)).setCell ⟨w.heap.size + 1 + 1, 1, none⟩ (.slice A5 n5 c5)).setCell ⟨w.heap.size + 1 + 1 + 1, 0, none⟩ (.bool neg6)).setCell ⟨w.heap.size + 1 + 1 + 1, 1, none⟩ (.slice A6 n6 c6)) := by
  have hN5 : NInt w2 (.agg #[.bool neg5, .slice A5 n5 c5]) k n3 := ⟨neg5, A5, n5, c5, ds5, rfl, h5⟩
  have hN6 : NInt w3 (.agg #[.bool neg6, .slice A6 n6 c6]) r n4 := ⟨neg6, A6, n6, c6, ds6, rfl, h6⟩
  rw [← hq] at hN5
  rw [← hr] at hN6
  exact ⟨_, _, rfl, (((hN5.mono hn3).below hb3).ret e0 e1).ret (cell_ret s0 (by omega)) (cell_ret s1 (by omega)), ((hN6.mono hn4).ret e0 e1).ret (cell_ret s0 (by omega)) (cell_ret s1 (by omega)), bel_ret (bel_ret hbw (by omega)) (by omega)⟩
set_option maxRecDepth 100000 in
set_option maxHeartbeats 1000000 in
theorem divMod_any (v1 v2 : Value) (x y : Int) (L1 L2 : Nat) (w : World) (hv1 : RInt w v1 x L1) (hv2 : RInt w v2 y L2) (hL1 : L1 + 2 ≤ LIM) (hL2 : L2 + 1 ≤ LIM) (hy0 : y ≠ 0) :
    Calls Tryz.prog 92 #[v1, v2] w (DmPost x y L1 L2 w) := by
  obtain ⟨ng, A, n, c, ds, rfl, hd, hc, hn, hx⟩ := hv1
  obtain ⟨nh, A', n', c', es, rfl, he, hc', hn', hy⟩ := hv2
  have hm : n ≤ maxLen := by unfold maxLen; unfold LIM at hL1; omega
  have hm' : n' ≤ maxLen := by unfold maxLen; unfold LIM at hL2; omega
  have hle : (Dg.trim ds).length ≤ n := by have := trim_length ds; have := hd.len; omega
  have hle' : (Dg.trim es).length ≤ n' := by have := trim_length es; have := he.len; omega
  have hpos : 0 < Dg.val es := by
    rcases Nat.eq_zero_or_pos (Dg.val es) with h | h
    · rw [h] at hy; exact absurd (by rw [hy]; cases nh <;> rfl) hy0
    · exact h
  have hlp := (trim_pos es).2 hpos
  have hb0 : (((Dg.trim es).length : Int) == 0) = false := by rw [beq_eq_false_iff_ne]; omega
  have H := Lib.hid hd
  have K := Lib.hid he
  have HX := Lib.hid hx
  have HY := Lib.hid hy
  have HT1 := Lib.hid (show (Dg.trim ds).length ≤ L1 by omega)
  have HT2 := Lib.hid (show (Dg.trim es).length ≤ L2 by omega)
  have HL1 := Lib.hid hL1
  have HL2 := Lib.hid hL2
  have HP := Lib.hid hpos
  have T1 := Lib.hid (fun W hW => trimmed_any A n c ds W (H.out.below (w' := W) hW) hm hc)
  have T2 := Lib.hid (fun W hW => trimmed_any A' n' c' es W (K.out.below (w' := W) hW) hm' hc')
  clear hd he hx hy hm hm' hL1 hL2 hle hle' hpos hlp hy0
  have hbx := boxes4 w (.bool ng) (.slice A n c) (.bool nh) (.slice A' n' c') (.bool false) (.slice none 0 0) 26
  go_enter Tryz.func92, Tryz.ntmps92
  go_wp2_with fail
  generalize (((w.alloc (.cells #[.bool ng, .slice A n c] 26)).alloc (.cells #[.bool nh, .slice A' n' c'] 26)).alloc (.cells #[.bool false, .slice none 0 0] 26)).alloc (.cells #[.bool false, .slice none 0 0] 26) = W0 at hbx ⊢
  obtain ⟨hb0', hsz, c0, c1, c2, c3, q0, q1, f0, f1, p0, p1, g0, g1⟩ := hbx
  have hsz0 : w.heap.size < W0.heap.size := by omega
  have hsz1 : w.heap.size + 1 < W0.heap.size := by omega
  have hsz2 : w.heap.size + 1 + 1 < W0.heap.size := by omega
  have HB0 := Lib.hid hb0'
  refine (T2.out _ HB0.out).mono ?_
  rintro e w8 ⟨rfl, rfl⟩
  go_wp2_with fail
  refine (T1.out _ HB0.out).mono ?_
  rintro e w8 ⟨rfl, rfl⟩
  go_wp2_with fail
  refine (divide_any _ _ _ _ _ _ (Dg.trim ds) (Dg.trim es) _ (H.out.trim.below HB0.out) (K.out.trim.below HB0.out) (Dg.trim_trimmed ds) (Dg.trim_trimmed es) (by have := HT1.out; have := HL1.out; omega) (by have := HT2.out; have := HL2.out; omega) (by rw [Dg.val_trim]; exact HP.out)).mono ?_
  rintro e w1 ⟨u1, u2, rfl, ⟨A3, n3, k3, qs, rfl, hd3, hk3, hn3, _, hv3⟩, ⟨A4, n4, k4, rs, rfl, hd4, hk4, hn4, ht4, hv4⟩, hb1⟩
  rw [Dg.val_trim, Dg.val_trim] at hv3 hv4
  have H3 := Lib.hid hd3
  have HV3 := Lib.hid hv3
  have H4 := Lib.hid hd4
  have HV4 := Lib.hid hv4
  have HT4 := Lib.hid ht4
  have HM3 := Lib.hid (show n3 ≤ maxLen by have := HT1.out; have := HL1.out; unfold LIM at *; unfold maxLen; omega)
  have HM4 := Lib.hid (show n4 ≤ maxLen by have := HT2.out; have := HL2.out; unfold LIM at *; unfold maxLen; omega)
  have HN3 := Lib.hid hn3
  have HN4 := Lib.hid hn4
  have c0 := (hb1.cell (p := ⟨w.heap.size, 0, none⟩) hsz0).trans c0
  have c2 := (hb1.cell (p := ⟨w.heap.size + 1, 0, none⟩) hsz1).trans c2
  have HB1 := Lib.hid hb1
  clear hd3 hd4 hv3 hv4 ht4 hb1 hb0' c1 c3
  have hng : ng = false ∨ (ng = true ∧ n4 = 0) ∨ (ng = true ∧ 0 < n4) := by
    rcases Bool.eq_false_or_eq_true ng with h | h
    · rcases Nat.eq_zero_or_pos n4 with h2 | h2
      · exact .inr (.inl ⟨h, h2⟩)
      · exact .inr (.inr ⟨h, h2⟩)
    · exact .inl h
  rcases hng with rfl | ⟨rfl, rfl⟩ | ⟨rfl, hn4⟩
  · have HZ := Lib.hid (sgn_div (p := false) (q := nh) (a := Dg.val ds) HP.out (.inl rfl))
    go_wp2_with fail
    refine (signed_any nh A3 n3 k3 qs _ H3.out HM3.out hk3).mono ?_
    rintro e w2 ⟨v, rfl, ⟨neg5, A5, n5, c5, ds5, rfl, hd5⟩, hb2⟩
    have HB2 := Lib.hid hb2
    have H5 := Lib.hid hd5
    clear hd5 hb2
    go_wp2_with fail
    refine (signed_any false A4 n4 k4 rs _ (H4.out.below HB2.out) HM4.out hk4).mono ?_
    rintro e w3 ⟨v, rfl, ⟨neg6, A6, n6, c6, ds6, rfl, hd6⟩, hb3⟩
    have HB3 := Lib.hid hb3
    have H6 := Lib.hid hd6
    clear hd6 hb3
    have hbw : Below W0.heap.size W0 w3 := bel_ext (bel_ext HB1.out HB2.out) HB3.out
    have e0 := (hbw.cell (p := ⟨w.heap.size + 1 + 1, 0, none⟩) hsz2).trans q0
    have e1 := (hbw.cell (p := ⟨w.heap.size + 1 + 1, 1, none⟩) hsz2).trans q1
    have e2 := (hbw.frozen (p := ⟨w.heap.size + 1 + 1, 0, none⟩) hsz2).trans f0
    have e3 := (hbw.frozen (p := ⟨w.heap.size + 1 + 1, 1, none⟩) hsz2).trans f1
    have s0 := (hbw.cell (p := ⟨w.heap.size + 1 + 1 + 1, 0, none⟩) hsz).trans p0
    have s1 := (hbw.cell (p := ⟨w.heap.size + 1 + 1 + 1, 1, none⟩) hsz).trans p1
    have s2 := (hbw.frozen (p := ⟨w.heap.size + 1 + 1 + 1, 0, none⟩) hsz).trans g0
    have s3 := (hbw.frozen (p := ⟨w.heap.size + 1 + 1 + 1, 1, none⟩) hsz).trans g1
    have HBW := Lib.hid (HB0.out.trans (hbw.mono HB0.out.size))
    clear q0 q1 f0 f1 p0 p1 g0 g1 hbw
    go_wp2
    refine bodyPost_ret (v := .tuple #[.agg #[.bool neg5, .slice A5 n5 c5], .agg #[.bool neg6, .slice A6 n6 c6], .int .i64 0]) (by simp [results, Tryz.results92, go_sem, e0, e1, s0, s1]) rfl (dm_fin H5.out HB3.out H6.out e0 e1 s0 s1 ?_ ?_ ?_ ?_ HBW.out)
    · rw [HX.out, HY.out, HZ.out.1, HV3.out]; cases nh <;> rfl
    · rw [HX.out, HY.out, HZ.out.2, HV4.out]; rfl
    · have := HN3.out; have := HT1.out; omega
    · have := HN4.out; have := HT2.out; omega
  · have hz : Dg.val ds % Dg.val es = 0 := by
      have h5 := H4.out.len
      have : rs = [] := List.length_eq_zero_iff.1 (by omega)
      rw [← HV4.out, this]; rfl
    have HZ := Lib.hid (sgn_div (p := true) (q := nh) (a := Dg.val ds) HP.out (.inr hz))
    clear hz
    go_wp2_with fail
    refine (signed_any (!nh) A3 n3 k3 qs _ H3.out HM3.out hk3).mono ?_
    rintro e w2 ⟨v, rfl, ⟨neg5, A5, n5, c5, ds5, rfl, hd5⟩, hb2⟩
    have HB2 := Lib.hid hb2
    have H5 := Lib.hid hd5
    clear hd5 hb2
    go_wp2_with fail
    refine (signed_any false A4 0 k4 rs _ (H4.out.below HB2.out) HM4.out hk4).mono ?_
    rintro e w3 ⟨v, rfl, ⟨neg6, A6, n6, c6, ds6, rfl, hd6⟩, hb3⟩
    have HB3 := Lib.hid hb3
    have H6 := Lib.hid hd6
    clear hd6 hb3
    have hbw : Below W0.heap.size W0 w3 := bel_ext (bel_ext HB1.out HB2.out) HB3.out
    have e0 := (hbw.cell (p := ⟨w.heap.size + 1 + 1, 0, none⟩) hsz2).trans q0
    have e1 := (hbw.cell (p := ⟨w.heap.size + 1 + 1, 1, none⟩) hsz2).trans q1
    have e2 := (hbw.frozen (p := ⟨w.heap.size + 1 + 1, 0, none⟩) hsz2).trans f0
    have e3 := (hbw.frozen (p := ⟨w.heap.size + 1 + 1, 1, none⟩) hsz2).trans f1
    have s0 := (hbw.cell (p := ⟨w.heap.size + 1 + 1 + 1, 0, none⟩) hsz).trans p0
    have s1 := (hbw.cell (p := ⟨w.heap.size + 1 + 1 + 1, 1, none⟩) hsz).trans p1
    have s2 := (hbw.frozen (p := ⟨w.heap.size + 1 + 1 + 1, 0, none⟩) hsz).trans g0
    have s3 := (hbw.frozen (p := ⟨w.heap.size + 1 + 1 + 1, 1, none⟩) hsz).trans g1
    have HBW := Lib.hid (HB0.out.trans (hbw.mono HB0.out.size))
    clear q0 q1 f0 f1 p0 p1 g0 g1 hbw
    go_wp2
    refine bodyPost_ret (v := .tuple #[.agg #[.bool neg5, .slice A5 n5 c5], .agg #[.bool neg6, .slice A6 n6 c6], .int .i64 0]) (by simp [results, Tryz.results92, go_sem, e0, e1, s0, s1]) rfl (dm_fin H5.out HB3.out H6.out e0 e1 s0 s1 ?_ ?_ ?_ ?_ HBW.out)
    · rw [HX.out, HY.out, HZ.out.1, HV3.out]; cases nh <;> rfl
    · rw [HX.out, HY.out, HZ.out.2, HV4.out]; rfl
    · have := HN3.out; have := HT1.out; omega
    · have := HN4.out; have := HT2.out; omega
  · have hgt : decide ((0 : Int) < (n4 : Int)) = true := decide_eq_true (by omega)
    have hgt' : decide (0 < n4) = true := decide_eq_true hn4
    have hrp : 0 < Dg.val ds % Dg.val es := by
      rw [← HV4.out]
      refine (trim_pos rs).1 ?_
      rw [Dg.trim_of_trimmed H4.out.ok HT4.out]
      have := H4.out.len; omega
    have HZ := Lib.hid (sgn_div_up (q := nh) HP.out hrp)
    have HLP := Lib.hid (show 0 < (Dg.trim ds).length from (trim_pos ds).2 (Nat.lt_of_lt_of_le hrp (Nat.mod_le _ _)))
    have HM8 := Lib.hid (show n3 ≤ LIM ∧ 1 ≤ LIM by have := HN3.out; have := HT1.out; have := HL1.out; omega)
    have hone : Dg.ok [1] := by intro d hd; simp at hd; subst hd; decide
    clear hrp
    clear hn4
    go_wp2_with fail
    refine (plus_any A3 (some ⟨w1.heap.size, 0, none⟩) n3 k3 1 1 qs [1] _ (H3.out.alloc _) (Dig.of_block (ds := [1]) (heap_alloc_new _ _) rfl hone) HM8.out.1 HM8.out.2).mono ?_
    rintro e w4 ⟨g, m, o, rfl, hm9, hdp, hvp, hbp⟩
    have HP2 := Lib.hid hdp
    have HVP := Lib.hid (show Dg.val o = Dg.val ds / Dg.val es + 1 by rw [hvp, HV3.out]; rfl)
    have HBP := Lib.hid (bel_ext HB1.out (bel_ext ((Below.refl _ _).alloc (Nat.le_refl _) _) hbp))
    have HB8 := Lib.hid (bel_ext ((Below.refl w1.heap.size w1).alloc (Nat.le_refl _) _) hbp)
    have HM7 := Lib.hid (show m ≤ L1 + 1 by have := HN3.out; have := HT1.out; have := HLP.out; omega)
    have HM5 := Lib.hid (show m ≤ maxLen by have := HM7.out; have := HL1.out; unfold LIM at *; unfold maxLen; omega)
    clear hdp hvp hbp hm9
    go_wp2_with fail
    refine (less_any A' A4 (Dg.trim es).length c' n4 k4 (Dg.trim es) rs _ ((K.out.trim.below HB0.out).below HBP.out) (H4.out.below HB8.out) (by have := HT2.out; have := HL2.out; omega) HN4.out (by rw [Dg.val_trim, HV4.out]; exact Nat.le_of_lt (Nat.mod_lt _ HP.out))).mono ?_
    rintro e w5 ⟨g7, o7, rfl, hd7, hv7, hbl⟩
    have HP7 := Lib.hid hd7
    have HVL := Lib.hid (show Dg.val o7 = Dg.val es - Dg.val ds % Dg.val es by rw [Dg.val_trim, HV4.out] at hv7; omega)
    have HBL := Lib.hid hbl
    have HM6 := Lib.hid (show (Dg.trim es).length ≤ maxLen by have := HT2.out; have := HL2.out; unfold LIM at *; unfold maxLen; omega)
    have c0 := ((bel_ext HB8.out HBL.out).cell (p := ⟨w.heap.size, 0, none⟩) (Nat.lt_of_lt_of_le hsz0 HB1.out.size)).trans c0
    have c2 := ((bel_ext HB8.out HBL.out).cell (p := ⟨w.heap.size + 1, 0, none⟩) (Nat.lt_of_lt_of_le hsz1 HB1.out.size)).trans c2
    clear hd7 hv7 hbl
    go_wp2_with fail
    refine (signed_any (!nh) (some ⟨g, 0, none⟩) m m o _ (HP2.out.below HBL.out) HM5.out (Nat.le_refl _)).mono ?_
    rintro e w2 ⟨v, rfl, ⟨neg5, A5, n5, c5, ds5, rfl, hd5⟩, hb2⟩
    have HB2 := Lib.hid hb2
    have H5 := Lib.hid hd5
    clear hd5 hb2
    go_wp2_with fail
    refine (signed_any false (some ⟨g7, 0, none⟩) (Dg.trim es).length (Dg.trim es).length o7 _ (HP7.out.below HB2.out) HM6.out (Nat.le_refl _)).mono ?_
    rintro e w3 ⟨v, rfl, ⟨neg6, A6, n6, c6, ds6, rfl, hd6⟩, hb3⟩
    have HB3 := Lib.hid hb3
    have H6 := Lib.hid hd6
    clear hd6 hb3
    have hbw : Below W0.heap.size W0 w3 := bel_ext (bel_ext (bel_ext HBP.out HBL.out) HB2.out) HB3.out
    have e0 := (hbw.cell (p := ⟨w.heap.size + 1 + 1, 0, none⟩) hsz2).trans q0
    have e1 := (hbw.cell (p := ⟨w.heap.size + 1 + 1, 1, none⟩) hsz2).trans q1
    have e2 := (hbw.frozen (p := ⟨w.heap.size + 1 + 1, 0, none⟩) hsz2).trans f0
    have e3 := (hbw.frozen (p := ⟨w.heap.size + 1 + 1, 1, none⟩) hsz2).trans f1
    have s0 := (hbw.cell (p := ⟨w.heap.size + 1 + 1 + 1, 0, none⟩) hsz).trans p0
    have s1 := (hbw.cell (p := ⟨w.heap.size + 1 + 1 + 1, 1, none⟩) hsz).trans p1
    have s2 := (hbw.frozen (p := ⟨w.heap.size + 1 + 1 + 1, 0, none⟩) hsz).trans g0
    have s3 := (hbw.frozen (p := ⟨w.heap.size + 1 + 1 + 1, 1, none⟩) hsz).trans g1
    have HBW := Lib.hid (HB0.out.trans (hbw.mono HB0.out.size))
    clear q0 q1 f0 f1 p0 p1 g0 g1 hbw
    go_wp2
    refine bodyPost_ret (v := .tuple #[.agg #[.bool neg5, .slice A5 n5 c5], .agg #[.bool neg6, .slice A6 n6 c6], .int .i64 0]) (by simp [results, Tryz.results92, go_sem, e0, e1, s0, s1]) rfl (dm_fin H5.out HB3.out H6.out e0 e1 s0 s1 ?_ ?_ ?_ ?_ HBW.out)
    · rw [HX.out, HY.out, HZ.out.1, HVP.out]; cases nh <;> rfl
    · rw [HX.out, HY.out, HZ.out.2, HVL.out]; rfl
    · exact HM7.out
    · exact HT2.out
end Go.Proofs.YtlhdliafjconmaaGreat
/- The contracts of package bigint in abstract words. -/
namespace Go.Proofs.YtlhdliafjconmaaGreat
open Go.RowKit
theorem dsC_dig {D : Nat → Prop} {w : World} {ρ : List Loc} {l : List Nat} {v : Value} (ho : Dg.ok l) (h : CRel D w ρ (dsC l) v) : ∃ A c, v = .slice A l.length c ∧ l.length ≤ c ∧ Dig w A l.length l := by
  obtain ⟨A, c, h1, h2, h3⟩ := h
  refine ⟨A, c, h1, h2, rfl, ho, fun hn => ?_⟩
  obtain ⟨b, o, hA, hb, _, hc⟩ := h3 hn
  refine ⟨b, o, hA, hb, fun i hi => ?_⟩
  obtain ⟨u, hu, hr⟩ := hc i 0 hi (by omega)
  have hr' : u = .int .u32 (l.getD i 0 : Nat) := hr
  rw [show o + (i * 1 + 0) = o + i by omega] at hu
  rw [hu, hr']
  simp [List.getD, hi]
theorem dig_dsC {D : Nat → Prop} {w : World} {ρ : List Loc} {l : List Nat} {A : Option Addr} {c : Nat} (h : Dig w A l.length l) (hc : l.length ≤ c) (hD : ∀ b o, 0 < l.length → A = some ⟨b, o, none⟩ → ¬ D b) : CRel D w ρ (dsC l) (.slice A l.length c) := by
  refine ⟨A, c, rfl, hc, fun hn => ?_⟩
  obtain ⟨b, o, hA, hb, hcell⟩ := h.2.2 hn
  refine ⟨b, o, hA, hb, hD b o hn hA, fun i j hi hj => ?_⟩
  have hj0 : j = 0 := by omega
  subst hj0
  refine ⟨_, by rw [show o + (i * 1 + 0) = o + i by omega]; exact hcell i hi, ?_⟩
  show Value.int .u32 _ = _
  simp [List.getD, hi]
theorem zr_rint {D : Nat → Prop} {w : World} {ρ : List Loc} {a : RawZ} {v : Value} (ho : Dg.ok a.ds) (h : VRel D w ρ (.g (zr a)) v) : RInt w v a.val a.ds.length := by
  obtain ⟨vs, rfl, h2⟩ := h
  match hv : vs.toList, h2 with
  | [x, y], h2 =>
    obtain ⟨h3, h4, _⟩ := h2
    obtain ⟨A, c, h5, h6, h7⟩ := dsC_dig ho h4
    have hvs : vs = #[x, y] := by rw [← Array.toList_inj]; simpa using hv
    rw [hvs, show x = .bool a.neg from h3, h5]
    exact ⟨a.neg, A, a.ds.length, c, a.ds, rfl, h7, h6, Nat.le_refl _, rfl⟩
  | [], h2 => exact h2.elim
  | [_], h2 => exact h2.2.elim
  | _ :: _ :: _ :: _, h2 => exact h2.2.2.elim
/-- Digits do not lie in a closed block, where none of those held digits. -/
theorem dig_free {D : Nat → Prop} {w w' : World} (hD : ∀ b, D b → b < w.heap.size) (hU : ∀ (b o : Nat) (d : Int), D b → w.cell? ⟨b, o, none⟩ ≠ some (.int .u32 d)) (hb : Below w.heap.size w w') {l : List Nat} {A : Option Addr} (h : Dig w' A l.length l) : ∀ b o, 0 < l.length → A = some ⟨b, o, none⟩ → ¬ D b := by
  intro b o hn hA hx
  obtain ⟨b', o', hA', _, hc⟩ := h.2.2 hn
  rw [hA] at hA'
  injection hA' with e
  injection e with e1 e2
  subst e1; subst e2
  have h1 := hc 0 hn
  rw [hb.cell (p := ⟨b, o + 0, none⟩) (hD b hx)] at h1
  exact hU b _ _ hx h1
theorem nint_nz {D : Nat → Prop} {w w' : World} (hD : ∀ b, D b → b < w.heap.size) (hU : ∀ (b o : Nat) (d : Int), D b → w.cell? ⟨b, o, none⟩ ≠ some (.int .u32 d)) (hb : Below w.heap.size w w') {v : Value} {x : Int} {L : Nat} (h : NInt w' v x L) : VRel D w' [] (.g (nz x)) v := by
  obtain ⟨neg, A, n, c, ds, rfl, hd, hc, _, hx, ht, hneg⟩ := h
  have hl := hd.len
  have hval : Dg.val ds = x.natAbs := by
    rw [hx]; unfold sgn; cases neg <;> simp
  have hds : ds = digs x.natAbs := digs_unique hd.ok ht hval
  have hn : neg = decide (x < 0) := by
    cases neg with
    | false => rw [hx]; simp [sgn]
    | true =>
      have h0 := hneg rfl
      have hp : 0 < Dg.val ds := by
        rcases Nat.eq_zero_or_pos (Dg.val ds) with e | e
        · rw [(Dg.val_eq_zero ht).1 e] at hl; simp at hl; omega
        · exact e
      rw [hx]; simp [sgn]; omega
  refine ⟨#[.bool neg, .slice A n c], rfl, ?_, ?_, trivial⟩
  · show Value.bool neg = .bool (decide (x < 0)); rw [hn]
  · show CRel D w' [] (dsC (digs x.natAbs)) (.slice A n c)
    rw [← hds]
    subst hl
    exact dig_dsC hd hc (dig_free hD hU hb hd)
theorem fnok_z2 {f : FuncId} (hbd : hasBody Tryz.prog f = true) {a b : RawZ} {X : V} (ho : Dg.ok a.ds) (ho' : Dg.ok b.ds) (h : ∀ (v v2 : Value) (w : World) (D : Nat → Prop), (∀ b, D b → b < w.heap.size) → (∀ (b o : Nat) (d : Int), D b → w.cell? ⟨b, o, none⟩ ≠ some (.int .u32 d)) → RInt w v a.val a.ds.length → RInt w v2 b.val b.ds.length → Calls Tryz.prog f #[v, v2] w fun e w' => ∃ v', e = .returned v' ∧ VRel D w' [] X v' ∧ Below w.heap.size w w') : FnOK Tryz.prog true f [.g (zr a), .g (zr b)] X := by
  refine ⟨hbd, ?_⟩
  intro D w vs hD hU hargs
  match vs, hargs with
  | [v, v2], hargs => exact h v v2 w D hD (hU rfl) (zr_rint ho hargs.1) (zr_rint ho' hargs.2.1)
  | [], hargs => exact hargs.elim
  | [_], hargs => exact hargs.2.elim
  | _ :: _ :: _ :: _, hargs => exact hargs.2.2.elim
theorem mul_ok {a b : RawZ} (ha : Dg.ok a.ds) (hb : Dg.ok b.ds) (hL : a.ds.length + b.ds.length ≤ LIM) : FnOK Tryz.prog true 50 [.g (zr a), .g (zr b)] (.g (nz (a.val * b.val))) :=
  fnok_z2 (by kernel_rfl) ha hb fun v v2 w _ hD hU h1 h2 => (int_mul_any v v2 _ _ _ _ w h1 h2 hL).mono fun _ _ ⟨v', e, h3, h4⟩ => ⟨v', e, nint_nz hD hU h4 h3, h4⟩
theorem of_ok {x : Int} (h0 : -9223372036854775808 ≤ x) (h1 : x ≤ 9223372036854775807) : FnOK Tryz.prog true 46 [.c (.int .i64 x)] (.g (nz x)) := by
  refine ⟨by kernel_rfl, ?_⟩
  intro D w vs hD hU hargs
  match vs, hargs with
  | [v], hargs =>
    rw [show v = .int .i64 x from hargs.1]
    exact (int_of_any x w h0 h1).mono fun _ _ ⟨v', e, h3, h4⟩ => ⟨v', e, nint_nz hD (hU rfl) h4 h3, h4⟩
  | [], hargs => exact hargs.elim
  | _ :: _ :: _, hargs => exact hargs.2.elim
end Go.Proofs.YtlhdliafjconmaaGreat
/- Types, and the functions DivMod and Exact of package bigint in abstract words. -/
namespace Go.Proofs.YtlhdliafjconmaaGreat
open Go.RowKit
theorem divmod_ok {a b : RawZ} (ha : Dg.ok a.ds) (hb : Dg.ok b.ds) (h1 : a.ds.length + 2 ≤ LIM) (h2 : b.ds.length + 1 ≤ LIM) (h0 : b.val ≠ 0) : FnOK Tryz.prog true 92 [.g (zr a), .g (zr b)] (.t3 (.g (nz (a.val / b.val))) (.g (nz (a.val % b.val))) (.c (.int .i64 0))) :=
  fnok_z2 (by kernel_rfl) ha hb fun v v2 w _ hD hU g1 g2 => (divMod_any v v2 _ _ _ _ w g1 g2 h1 h2 h0).mono fun _ _ ⟨q, r, e, h3, h4, h5⟩ => ⟨_, e, ⟨q, r, _, rfl, nint_nz hD hU h5 h3, nint_nz hD hU h5 h4, rfl⟩, h5⟩
theorem mul_nz (x y : Int) (h : zlen x + zlen y ≤ LIM) : FnOK Tryz.prog true 50 [.g (nz x), .g (nz y)] (.g (nz (x * y))) := by
  have := mul_ok (a := ofZ x) (b := ofZ y) (ofZ_ok x) (ofZ_ok y) h
  rwa [ofZ_val, ofZ_val] at this
end Go.Proofs.YtlhdliafjconmaaGreat
/- powMod with a number as exponent; the polynomial x; the p-th root; over polynomials. -/
namespace Go.Proofs.YtlhdliafjconmaaGreat
open Go.RowKit
theorem val_bit : ∀ (l : List Nat) (i : Nat), Dg.ok l → Dg.val l / 2 ^ i % 2 = l.getD (i / 32) 0 / 2 ^ (i % 32) % 2
  | [], i, _ => by
    show 0 / 2 ^ i % 2 = 0 / 2 ^ (i % 32) % 2
    rw [Nat.zero_div, Nat.zero_div]
  | d :: l, i, h => by
    have h := Dg.ok_cons.1 h
    have e : Dg.val (d :: l) = d + 2 ^ 32 * Dg.val l := rfl
    rw [e]
    rcases Nat.lt_or_ge i 32 with hi | hi
    · rw [Nat.div_eq_of_lt hi, Nat.mod_eq_of_lt hi]
      obtain ⟨k, hk⟩ : ∃ k, 32 = i + (k + 1) := ⟨31 - i, by omega⟩
      rw [hk, Nat.pow_add, Nat.mul_assoc, Nat.add_mul_div_left _ _ (Nat.pow_pos (by decide)), Nat.pow_succ, Nat.mul_comm (2 ^ k) 2, Nat.mul_assoc, Nat.add_mul_mod_self_left]
      rfl
    · obtain ⟨k, rfl⟩ : ∃ k, i = 32 + k := ⟨i - 32, by omega⟩
      rw [Nat.pow_add, ← Nat.div_div_eq_div_mul, Nat.add_mul_div_left _ _ (by decide), Nat.div_eq_of_lt (show d < 2 ^ 32 from h.1), Nat.zero_add, val_bit l k h.2]
      rw [show (32 + k) / 32 = k / 32 + 1 by omega, show (32 + k) % 32 = k % 32 by omega]
      rfl
theorem bs_digs (n : Nat) : Fp.bs (Fp.bt fun i => (((digs n).getD i 0 : Nat) : Int)) 0 (Fp.nb (fun i => (((digs n).getD i 0 : Nat) : Int)) (Fp.tl (fun i => (((digs n).getD i 0 : Nat) : Int)) (digs n).length)) = n := by
  have hok := digs_ok n
  have hr : ∀ i, (0 : Int) ≤ (((digs n).getD i 0 : Nat) : Int) ∧ (((digs n).getD i 0 : Nat) : Int) < 4294967296 := fun i => by
    refine ⟨Int.natCast_nonneg _, ?_⟩
    have : (digs n).getD i 0 < 4294967296 := by
      rcases Nat.lt_or_ge i (digs n).length with h | h
      · rw [List.getD_eq_getElem?_getD, List.getElem?_eq_getElem h]
        exact hok _ (List.getElem_mem h)
      · rw [List.getD_eq_getElem?_getD, List.getElem?_eq_none h]
        decide
    omega
  have htl : Fp.tl (fun i => (((digs n).getD i 0 : Nat) : Int)) (digs n).length = (digs n).length := Fp.tl_full fun h0 e => by
    have e : (digs n).getD ((digs n).length - 1) 0 = 0 := by
      have e : (((digs n).getD ((digs n).length - 1) 0 : Nat) : Int) = 0 := e
      omega
    have ht := digs_trimmed n
    rw [List.getD_eq_getElem?_getD, ← List.getLast?_eq_getElem?] at e
    cases hl : (digs n).getLast? with
    | none => rw [List.getLast?_eq_none_iff] at hl; rw [hl] at h0; exact absurd h0 (by decide)
    | some d =>
      rw [hl] at e
      exact ht d hl e
  rw [htl, ← Fp.bs_norm hr, Fp.bs_congr (c := fun j => n / 2 ^ j % 2) fun i _ => by
    show (((digs n).getD ((0 + i) / 32) 0 : Nat) : Int).toNat / 2 ^ ((0 + i) % 32) % 2 = n / 2 ^ (0 + i) % 2
    rw [Int.toNat_natCast, ← val_bit _ _ hok, digs_val], Fp.bs_bits]
  refine Nat.mod_eq_of_lt ?_
  have := Dg.val_lt hok
  rw [digs_val, show Dg.B = 2 ^ 32 from rfl, ← Nat.pow_mul] at this
  exact this
section
variable {p : Int} [hp : Prm p] (hm : Fp.md p)
include hm
theorem rp_P {m a : Pol (Zp p)} (h0 : m ≠ 0) (hl : m.len ≤ 4096) (e : Nat) : Fp.Rp p (ofP m) (Fp.pw (ofP a).2 e) (ofP (Pol.rm (Crg.pw a e) m)) := by
  have _ := hm
  obtain ⟨h1, h2⟩ := Pol.rm_spec (Crg.pw a e) h0
  obtain ⟨c, hc⟩ := h1
  obtain ⟨n, hn⟩ := (-c).fin
  refine ⟨ofP_NL _ (by omega), h2, fun i => ((-c).f i).v, ⟨n, fun j hj => ?_⟩, fun k => ?_⟩
  · show ((-c).f j).v = 0
    rw [hn j hj]
    exact Int.zero_emod p
  · refine (Zp.red_eq (p := p)).1 ?_
    rw [red_v', Zp.red_add, red_pw, red_cf]
    have e1 : (fun i => (Zp.red ((-c).f i).v : Zp p)) = (-c).f := funext fun i => Zp.red_v _
    have e2 : (fun i => (Zp.red ((ofP m).2 i) : Zp p)) = m.f := funext fun i => red_v' m i
    rw [e1, e2]
    have e3 : Pol.rm (Crg.pw a e) m = Crg.pw a e + -c * m := by
      have : Crg.pw a e = Pol.rm (Crg.pw a e) m + m * c := by
        rw [← hc]
        exact Crg.RE.eq [Crg.pw a e, Pol.rm (Crg.pw a e) m] Crg.t0 (Crg.t1 + (Crg.t0 - Crg.t1)) rfl
      generalize Pol.rm (Crg.pw a e) m = r at *
      rw [this]
      exact Crg.RE.eq [r, m, c] Crg.t0 (Crg.t0 + Crg.t1 * Crg.t2 + -Crg.t2 * Crg.t1) rfl
    have e4 := congrArg (fun b : Pol (Zp p) => b.f k) e3
    exact e4
theorem powMod_P {a m : Pol (Zp p)} {e : Nat} (ha : a.len ≤ 4096) (h0 : m ≠ 0) (hl : m.len ≤ 1024) (he : (digs e).length ≤ 1024) : FnOK Tryz.prog false 100 [.c (.int .i64 p), pl a, .g (nz (e : Int)), pl m] (pl (Pol.rm (Crg.pw a e) m)) := by
  have h := Fp.powMod_ok (p := p) (f := ofP a) (m := ofP m) (r := ofP (Pol.rm (Crg.pw a e) m)) (s := decide ((e : Int) < 0)) (q := (digs e).length) (a := fun i => (((digs e).getD i 0 : Nat) : Int)) hm (ofP_NL a ha) (ofP_NL m (by omega)) (Pol.len_pos h0) hl he (fun i => ⟨Int.natCast_nonneg _, by
    rcases Nat.lt_or_ge i (digs e).length with h | h
    · have : (digs e).getD i 0 < 4294967296 := by
        rw [List.getD_eq_getElem?_getD, List.getElem?_eq_getElem h]
        exact digs_ok e _ (List.getElem_mem h)
      omega
    · rw [List.getD_eq_getElem?_getD, List.getElem?_eq_none h]
      decide⟩) (by rw [bs_digs]; exact rp_P hm h0 (by omega) e)
  have e1 : ((e : Int)).natAbs = e := Int.natAbs_natCast e
  have e2 : (.g (nz (e : Int)) : V) = Fp.bi (decide ((e : Int) < 0)) (digs e).length fun i => (((digs e).getD i 0 : Nat) : Int) := by
    show V.g [.bool _, dsC (digs ((e : Int)).natAbs)] = _
    rw [e1]
    rfl
  rw [e2]
  exact h
omit hm in
theorem ofP_X : ofP (Pol.X : Pol (Zp p)) = (2, fun i => if i = 1 then 1 else 0) := by
  have h1 : (1 : Int) % p = 1 := Int.emod_eq_of_lt (by omega) (by have := hp.two; omega)
  refine Prod.ext ?_ (funext fun i => ?_)
  · exact Pol.len_eq (k := 1) (fun j hj => if_neg (by omega)) (by
      show (if 1 = 1 then (1 : Zp p) else 0) ≠ 0
      rw [if_pos rfl]
      exact Fld.one_ne)
  · show (if i = 1 then (1 : Zp p) else 0).v = if i = 1 then 1 else 0
    split
    · exact h1
    · exact Int.zero_emod p
end
end Go.Proofs.YtlhdliafjconmaaGreat
/- The number of binary digits of a small number; small powers of a prime; the trial's half power. -/
namespace Go.Proofs.YtlhdliafjconmaaGreat
open Go.RowKit
def Len64Post (X : Int) (w : World) (e : Ending) (w' : World) : Prop := ∃ n : Nat, e = .returned (.int .i64 n) ∧ IsLen X n ∧ w = w'
set_option maxRecDepth 100000 in
set_option maxHeartbeats 1000000 in
theorem len64_small (X : Int) (w : World) (h0 : 0 < X) (h1 : X < 256) :
    Calls Tryz.prog 113 #[.int .u64 X] w (Len64Post X w) := by
  have hd0 : decide (4294967296 ≤ X) = false := by simp; omega
  have hd1 : decide (65536 ≤ X) = false := by simp; omega
  have hd2 : decide (256 ≤ X) = false := by simp; omega
  have hl : X.toNat < lenTab.size := by rw [lenTab_size]; omega
  have L := Lib.hid (isLen_of (X := X) (k := 0) (Y := X) (by omega) (by simp) hl (by omega))
  have hT := Lib.hid (lenTab_at _ hl (by omega))
  have hb1 : 0 ≤ X := by omega
  have hb2 : X < 256 := by omega
  go_enter Tryz.func113, Tryz.ntmps113
  go_wp2
  go_ret
  exact ⟨_, ret_int (by have := len_sum 0 (lenTab[X.toNat]'hl).toNat (by omega) (by omega) hT.out.2.1; rw [Int.zero_add] at this; exact this), L.out, rfl⟩
theorem isLen_log {X : Nat} {n : Nat} (h : IsLen (X : Int) n) : n = Nat.log2 X + 1 := by
  obtain ⟨h1, _, h3, h4⟩ := h
  rw [Int.toNat_natCast] at h3 h4
  have h0 : X ≠ 0 := by
    have := Nat.pow_pos (n := n - 1) (show 0 < 2 by decide)
    omega
  have e1 := (Nat.le_log2 h0).2 h3
  have e2 := (Nat.log2_lt h0).2 h4
  omega
theorem len64_ok {X : Nat} (h0 : 0 < X) (h1 : X < 256) : FnOK Tryz.prog false 113 [.c (.int .u64 X)] (.c (.int .i64 (Nat.log2 X + 1 : Nat))) := by
  refine ⟨by kernel_rfl, fun D w vs _ _ hargs => ?_⟩
  match vs, hargs with
  | [v0], ⟨e0, _⟩ =>
    obtain rfl : v0 = .int .u64 X := e0
    refine (len64_small X w (by omega) (by omega)).mono ?_
    rintro e w' ⟨n, rfl, hn, rfl⟩
    exact ⟨_, rfl, by rw [isLen_log hn]; exact rfl, Below.refl _ _⟩
set_option maxHeartbeats 4000000 in
theorem len_small {X : Nat} (h0 : 0 < X) (h1 : X < 256) : FnOK Tryz.prog false 74 [.c (.int .u64 X)] (.c (.int .i64 (Nat.log2 X + 1 : Nat))) := by
  refine fn_ok (E := E0) E0_ok Tryz.func74 rfl mixed (by kernel_rfl) (by kernel_rfl) ?_
  conv => whnf
  refine ⟨_, len64_ok h0 h1, ?_⟩
  conv => whnf
  exact ⟨rfl, Sub.refl _⟩
theorem digs_one {x : Nat} (h0 : 0 < x) (h : x < 4294967296) : digs x = [x] := by
  refine (digs_unique (l := [x]) (Dg.ok_cons.2 ⟨h, Dg.ok_nil⟩) (fun d hd => ?_) (by show x + Dg.B * 0 = x; omega)).symm
  simp at hd
  omega
theorem zlen_nat (n k : Nat) (h : n < 4294967296 ^ k) : zlen (n : Int) ≤ k := zlen_le (by rw [Int.natAbs_natCast]; exact h)
theorem lb16 {x : Nat} (h2 : 2 ≤ x) (hx : x < 65536) : 2 ≤ Nat.log2 x + 1 ∧ Nat.log2 x + 1 ≤ 16 := by
  have a := (Nat.le_log2 (n := x) (k := 1) (by omega)).2 (by omega)
  have b := (Nat.log2_lt (n := x) (k := 16) (by omega)).2 (by omega)
  omega
theorem bits_small {x : Nat} (h2 : 2 ≤ x) (hx : x < 65536) : FnOK Tryz.prog false 88 [.g (nz (x : Int))] (.c (.int .i64 (Nat.log2 x + 1 : Nat))) := by
  have hd := digs_one (x := x) (by omega) (by omega)
  have h := Fp.bits_ok (n := 1) (a := fun i => (([x] : List Nat).getD i 0 : Int)) (s := decide ((x : Int) < 0)) (by omega) fun i => by
    cases i with
    | zero => show (0 : Int) ≤ (x : Int) ∧ (x : Int) < 4294967296; omega
    | succ i => show (0 : Int) ≤ 0 ∧ (0 : Int) < 4294967296; omega
  have e1 : (.g (nz (x : Int)) : V) = Fp.bi (decide ((x : Int) < 0)) 1 fun i => (([x] : List Nat).getD i 0 : Int) := by
    show V.g [.bool _, dsC (digs ((x : Int)).natAbs)] = _
    rw [Int.natAbs_natCast, hd]
    rfl
  have e2 : Fp.tl (fun i => (([x] : List Nat).getD i 0 : Int)) 1 = 1 := Fp.tl_full fun _ => by show (x : Int) ≠ 0; omega
  rw [e2] at h
  have e3 : Fp.nb (fun i => (([x] : List Nat).getD i 0 : Int)) 1 = Nat.log2 x + 1 := by
    show 32 * (1 - 1) + (Nat.log2 (x : Int).toNat + 1) = _
    rw [Int.toNat_natCast]
    omega
  rw [e3] at h
  rw [e1]
  exact h
end Go.Proofs.YtlhdliafjconmaaGreat
/- Digits to base 2^32 as functions: their value, the digits of a number, leading zeros. No condition. -/
namespace Go.Proofs.YtlhdliafjconmaaGreat
open Go.RowKit
namespace Rf
abbrev BB : Nat := 4294967296
/-- The value of the first q digits. -/
def nv (d : Nat → Nat) : Nat → Nat
  | 0 => 0
  | q + 1 => nv d q + BB ^ q * d q
/-- A digit of a number. -/
def dg (x i : Nat) : Nat := x / BB ^ i % BB
/-- The digits of a list. -/
abbrev ld (l : List Nat) : Nat → Nat := fun i => l.getD i 0
def lr (d : Nat → Nat) (q : Nat) : List Nat := (List.range q).map d
end Rf
end Go.Proofs.YtlhdliafjconmaaGreat
/- Sums, differences and products of digits: plain laws. No condition. -/
namespace Go.Proofs.YtlhdliafjconmaaGreat
open Go.RowKit
namespace Rf
/-- Digits, and 0 behind their end. -/
def ext (n : Nat) (a : Nat → Nat) (i : Nat) : Nat := if i < n then a i else 0
/-- The borrow below a place. -/
def bor (A B : Nat → Nat) (i : Nat) : Nat := if nv A i < nv B i then 1 else 0
/-- A place written. -/
def upd (d : Nat → Nat) (j v i : Nat) : Nat := if i = j then v else d i
end Rf
end Go.Proofs.YtlhdliafjconmaaGreat
/- The document's integers: trim, Norm, Sign, signed, Abs, Neg, Of. -/
namespace Go.Proofs.YtlhdliafjconmaaGreat
open Go.RowKit
namespace Rf
abbrev dn (q : Nat) (d : Nat → Nat) : Cell := .row 1 q fun i _ => .int .u32 (d i : Nat)
def wr (a : RawZ) : Prop := Dg.ok a.ds ∧ a.ds.length ≤ 1048576
end Rf
end Go.Proofs.YtlhdliafjconmaaGreat
/- The document's sums and differences of digits. -/
namespace Go.Proofs.YtlhdliafjconmaaGreat
open Go.RowKit
namespace Rf
abbrev gd (q : Nat) (d : Nat → Nat) : Gx := ⟨84, 1, q, fun i _ => .int .u32 (d i : Nat)⟩
end Rf
end Go.Proofs.YtlhdliafjconmaaGreat
/- The document's comparisons of integers, and the number of binary digits. -/
namespace Go.Proofs.YtlhdliafjconmaaGreat
open Go.RowKit
namespace Rf
theorem box_clos {l : List Cell} {i j : Nat} (h : l.all Cell.clos = true) : (boxF l i j).clos = true := by
  unfold boxF
  rw [List.getD_eq_getElem?_getD]
  cases e : l[j]? with
  | none => rfl
  | some c => exact List.all_eq_true.1 h _ (List.mem_of_getElem? e)
/-- A box that stands as it was. -/
theorem boxK {q k t sz u : Nat} {bl : List Blk} {ks : List (Option Nat)} {l : List Cell} (h : bl[k]? = some ⟨t, sz, 1, u, 0, boxF l⟩) (hc : l.all Cell.clos = true) : srcG q bl ks ⟨t, sz, 1, boxF l⟩ (some k) :=
  ⟨_, h, rfl, rfl, rfl, rfl, fun i j _ _ => regE rfl (box_clos (i := i) (j := j) hc)⟩
abbrev gi (s : Bool) (q : Nat) (d : Nat → Nat) : Gx := ⟨26, 2, 1, boxF [.bool s, dn q d]⟩
end Rf
end Go.Proofs.YtlhdliafjconmaaGreat
/- The document's Bits, Add and Sub. -/
namespace Go.Proofs.YtlhdliafjconmaaGreat
open Go.RowKit
namespace Rf
/-- The number of binary digits. -/
def lb (x : Nat) : Nat := if x = 0 then 0 else Nat.log2 x + 1
end Rf
end Go.Proofs.YtlhdliafjconmaaGreat
/- The document's word, split and shifted. -/
namespace Go.Proofs.YtlhdliafjconmaaGreat
open Go.RowKit
namespace Rf
end Rf
end Go.Proofs.YtlhdliafjconmaaGreat
/- The document's shifted and divided. -/
namespace Go.Proofs.YtlhdliafjconmaaGreat
open Go.RowKit
namespace Rf
/-- The carry of a shift. -/
def sc (a : Nat → Nat) (r i : Nat) : Nat := 2 ^ r * nv a i / BB ^ i
end Rf
end Go.Proofs.YtlhdliafjconmaaGreat
/- The document's division of digits. -/
namespace Go.Proofs.YtlhdliafjconmaaGreat
open Go.RowKit
namespace Rf
end Rf
end Go.Proofs.YtlhdliafjconmaaGreat
/- The document's quotient and remainder, and the greatest common divisor. -/
namespace Go.Proofs.YtlhdliafjconmaaGreat
open Go.RowKit
namespace Rf
end Rf
end Go.Proofs.YtlhdliafjconmaaGreat
/- The document's division of integers. -/
namespace Go.Proofs.YtlhdliafjconmaaGreat
open Go.RowKit
namespace Rf
end Rf
end Go.Proofs.YtlhdliafjconmaaGreat
/- The document's greatest common divisor. -/
namespace Go.Proofs.YtlhdliafjconmaaGreat
open Go.RowKit
namespace Rf
/-- A box that was written. -/
theorem boxU {q k t sz u : Nat} {bl : List Blk} {ks : List (Option Nat)} {l : List Cell} {f : Nat → Nat → Cell} (h : bl[k]? = some ⟨t, sz, 1, u, 0, updF f 0 0 l⟩) (hs : sz = l.length) (hc : l.all Cell.clos = true) : srcG q bl ks ⟨t, sz, 1, boxF l⟩ (some k) :=
  ⟨_, h, rfl, rfl, rfl, rfl, fun i j hi hj => regE (by
    have hi : i < 1 := hi
    have hj : j < sz := hj
    show updF f 0 0 l i j = boxF l i j
    unfold updF boxF
    rw [if_pos ⟨by omega, by omega, by omega⟩, Nat.sub_zero]) (box_clos (i := i) (j := j) hc)⟩
end Rf
end Go.Proofs.YtlhdliafjconmaaGreat
/- Small powers of a prime. -/
namespace Go.Proofs.YtlhdliafjconmaaGreat
open Go.RowKit
theorem pow_lt16 {x k : Nat} (h : x < 65536) : x ^ k < 4294967296 ^ k ∨ k = 0 := by
  rcases Nat.eq_zero_or_pos k with h0 | h0
  · exact .inr h0
  · exact .inl (Nat.pow_lt_pow_left (by omega) (by omega))
theorem zlen_pow {x k : Nat} (h : x < 65536) : zlen ((x ^ k : Nat) : Int) ≤ k + 1 := by
  refine zlen_nat _ _ ?_
  have hb : 0 < 4294967296 := Nat.succ_pos _
  rcases pow_lt16 (k := k) h with h1 | h1
  · exact Nat.lt_of_lt_of_le h1 (Nat.pow_le_pow_right hb (by omega))
  · subst h1
    show x ^ 0 < 4294967296 ^ 1
    rw [Nat.pow_zero, Nat.pow_one]
    omega
theorem pow_cast (x a b : Nat) : ((x ^ (a + b) : Nat) : Int) = ((x ^ a : Nat) : Int) * ((x ^ b : Nat) : Int) := by rw [Nat.pow_add, Int.natCast_mul]
theorem bit_i64 {n k : Nat} (hn : n ≤ 64) (hk : k < 64) : IntKind.i64.wrap ((BitVec.ofInt IntKind.i64.bits ((n : Int).fdiv (2 ^ min k IntKind.i64.bits)) &&& BitVec.ofInt IntKind.i64.bits 1).toNat : Nat) = ((n / 2 ^ k % 2 : Nat) : Int) := by
  have e0 : (n : Int).fdiv (2 ^ min k IntKind.i64.bits) = ((n / 2 ^ k : Nat) : Int) := by
    rw [show min k IntKind.i64.bits = k from Nat.min_eq_left (Nat.le_of_lt hk), Int.fdiv_eq_ediv_of_nonneg _ (Int.le_of_lt (Int.pow_pos (by decide)))]
    rw [Int.natCast_ediv, Int.natCast_pow]
    rfl
  rw [e0]
  have hle := Nat.div_le_self n (2 ^ k)
  generalize n / 2 ^ k = m at *
  have e : (BitVec.ofInt IntKind.i64.bits (m : Int) &&& BitVec.ofInt IntKind.i64.bits 1).toNat = m % 2 := by
    rw [BitVec.toNat_and]
    have e1 : (BitVec.ofInt IntKind.i64.bits (m : Int)).toNat = m := by
      show (BitVec.ofInt 64 (m : Int)).toNat = _
      rw [BitVec.toNat_ofInt]
      omega
    have e2 : (BitVec.ofInt IntKind.i64.bits 1).toNat = 1 := by decide
    rw [e1, e2, Nat.and_one_is_mod]
  rw [e]
  have := Nat.mod_lt m (show 0 < 2 by decide)
  exact inR_wrap (Fp.i64 (by omega) (by omega))
set_option maxHeartbeats 16000000 in
theorem pow_ok {x n : Nat} (h2 : 2 ≤ x) (hx : x < 65536) (h1 : 1 ≤ n) (hn : n ≤ 64) : FnOK Tryz.prog true 48 [.g (nz (x : Int)), .c (.int .i64 n)] (.t2 (.g (nz ((x ^ n : Nat) : Int))) (.c (.int .i64 0))) := by
  have hb := (bits_small h2 hx).weak (r := true)
  have hw : IntKind.u64.wrap (n : Int) = n := inR_wrap ⟨by show (0 : Int) ≤ n; omega, by show (n : Int) < 18446744073709551616; omega⟩
  have hl : FnOK Tryz.prog true 74 [.c (.int .u64 (IntKind.u64.wrap (n : Int)))] (.c (.int .i64 (Nat.log2 n + 1 : Nat))) := by
    rw [hw]
    exact (len_small (X := n) (by omega) (by omega)).weak
  obtain ⟨b1, b2⟩ := lb16 h2 hx
  have ho := of_ok (x := 1) (by decide) (by decide)
  have hlog : n < 2 ^ (Nat.log2 n + 1) := Nat.lt_log2_self
  have hll : Nat.log2 n + 1 ≤ 7 := by
    have := (Nat.log2_lt (n := n) (k := 7) (by omega)).2 (by omega)
    omega
  generalize Nat.log2 x + 1 = B at *
  generalize Nat.log2 n + 1 = l at *
  have q1 : Int.tdiv 1048576 (B : Int) = ((1048576 / B : Nat) : Int) := by
    rw [Int.tdiv_eq_ediv_of_nonneg (by decide)]
    exact (Int.natCast_ediv 1048576 B).symm
  have q2 : 65536 ≤ 1048576 / B := (Nat.le_div_iff_mul_le (by omega)).2 (by omega)
  have q3 : 1048576 / B ≤ 1048576 := Nat.div_le_self _ _
  refine fn_ok (E := E1) E1_ok Tryz.func48 rfl mixed (by kernel_rfl) (by kernel_rfl) ?_
  conv => whnf
  refine ⟨_, hb, ?_⟩
  conv => whnf
  refine bpos (show gw true (decide ((1 : Int) < B)) = true by rw [decide_eq_true (by omega)]; rfl) ?_
  conv => whnf
  refine ⟨by omega, Fp.i64 (by rw [q1]; omega) (by rw [q1]; omega), ?_⟩
  conv => whnf
  refine bneg (show decide (Int.tdiv 1048576 (B : Int) < (n : Int)) = false from decide_eq_false (by rw [q1]; omega)) ?_
  conv => whnf
  refine bneg (show decide ((B : Int) ≤ 1) = false from decide_eq_false (by omega)) ?_
  conv => whnf
  refine ⟨_, ho, ?_⟩
  conv => whnf
  refine ⟨_, hl, ?_⟩
  conv => whnf
  refine ⟨Fp.i64 (by omega) (by omega), ?_⟩
  conv => whnf
  refine loop_ints (fun ((k, y) : Nat × Int) => gst [(1, .c (.int .i64 n)), (2, .c (.p 0 0 2 0 0)), (4, .c (.p 1 0 2 0 0)), (5, .c (.int .i64 0)), (7, .c (.p 2 0 2 0 0)), (8, .c (.int .i64 ((k : Int) - 1)))] [⟨26, 2, 1, boxF (nz (x : Int))⟩, ⟨26, 2, 1, boxF [.bool false, .nil]⟩, ⟨26, 2, 1, boxF (nz y)⟩]) (fun (k, _) => k) (fun (k, y) => k ≤ l ∧ y = ((x ^ (n / 2 ^ k) : Nat) : Int)) (l, 1) rfl ?start ⟨Nat.le_refl _, by rw [Nat.div_eq_of_lt hlog]; rfl⟩ ?round
  case start =>
    exact Weak.gen [some 0, some 1, some 2] rfl ⟨Rf.boxK rfl rfl, Rf.boxK rfl rfl, Rf.boxU rfl rfl rfl, trivial⟩ ⟨⟨_, rfl, rfl⟩, ⟨_, rfl, rfl, rfl⟩, ⟨_, rfl, rfl, rfl⟩, ⟨_, rfl, rfl⟩, ⟨_, rfl, rfl, rfl⟩, ⟨_, rfl, rfl⟩, trivial⟩
  case round =>
    rintro ⟨k, y⟩ ⟨hk, hy⟩
    match k, hk, hy with
    | 0, hk, hy =>
      have hy : y = ((x ^ n : Nat) : Int) := by rw [hy, Nat.pow_zero, Nat.div_one]
      conv => whnf
      refine ⟨rfl, ?_⟩
      show Sub (.t2 (.g (nz y)) (.c (.int .i64 0))) (.t2 (.g (nz ((x ^ n : Nat) : Int))) (.c (.int .i64 0)))
      rw [hy]
      exact Sub.refl _
    | k + 1, hk, hy =>
      have hz : zlen y ≤ 65 := by
        rw [hy]
        refine Nat.le_trans (zlen_pow hx) ?_
        have := Nat.div_le_self n (2 ^ (k + 1))
        omega
      have hx1 : zlen (x : Int) ≤ 1 := zlen_nat x 1 (by rw [Nat.pow_one]; omega)
      have hyy : zlen (y * y) ≤ 130 := Nat.le_trans (zlen_mul y y) (by omega)
      have m1 := mul_nz y y (by unfold LIM; omega)
      have m2 := mul_nz (y * y) (x : Int) (by unfold LIM; omega)
      have ek : (((k + 1 : Nat) : Int) - 1).toNat = k := by omega
      have eb := bit_i64 (n := n) (k := k) (by omega) (by omega)
      rw [← ek] at eb
      have hdiv : n / 2 ^ k = 2 * (n / 2 ^ (k + 1)) + n / 2 ^ k % 2 := by
        rw [Nat.pow_succ, ← Nat.div_div_eq_div_mul]
        have := Nat.div_add_mod (n / 2 ^ k) 2
        omega
      have ny : y * y = ((x ^ (2 * (n / 2 ^ (k + 1))) : Nat) : Int) := by
        rw [hy, Nat.two_mul, pow_cast]
      have c1 : n / 2 ^ k % 2 = 1 → y * y * (x : Int) = ((x ^ (n / 2 ^ k) : Nat) : Int) := fun h => by
        rw [ny]
        conv => rhs; rw [hdiv, h, pow_cast, Nat.pow_one]
      have c0 : n / 2 ^ k % 2 ≠ 1 → y * y = ((x ^ (n / 2 ^ k) : Nat) : Int) := fun h => by
        rw [ny]
        conv => rhs; rw [hdiv, show n / 2 ^ k % 2 = 0 by have := Nat.mod_lt (n / 2 ^ k) (show 0 < 2 by decide); omega, Nat.add_zero]
      conv => whnf
      refine bpos (show decide ((0 : Int) ≤ ((k + 1 : Nat) : Int) - 1) = true from decide_eq_true (by omega)) ?_
      conv => whnf
      refine ⟨_, m1, ?_⟩
      conv => whnf
      refine ⟨by omega, ?_⟩
      conv => whnf
      refine bcase (fun (h : decide (IntKind.i64.wrap ((BitVec.ofInt IntKind.i64.bits ((n : Int).fdiv (2 ^ min (((k + 1 : Nat) : Int) - 1).toNat IntKind.i64.bits)) &&& BitVec.ofInt IntKind.i64.bits 1).toNat : Nat) = 1) = true) => ?_) fun (h : decide (IntKind.i64.wrap ((BitVec.ofInt IntKind.i64.bits ((n : Int).fdiv (2 ^ min (((k + 1 : Nat) : Int) - 1).toNat IntKind.i64.bits)) &&& BitVec.ofInt IntKind.i64.bits 1).toNat : Nat) = 1) = false) => ?_
      · have h := of_decide_eq_true h
        have c1 := c1 (by
          have h9 := congrArg Int.toNat (eb.symm.trans h)
          rw [Int.toNat_natCast, ek] at h9
          exact h9)
        conv => whnf
        refine ⟨_, m2, ?_⟩
        conv => whnf
        refine ⟨Fp.i64 (by omega) (by omega), ?_⟩
        conv => whnf
        exact ⟨(k, y * y * (x : Int)), by show k < k + 1; omega, Weak.gen [some 0, some 1, some 2] rfl ⟨Rf.boxK rfl rfl, Rf.boxK rfl rfl, Rf.boxU rfl rfl rfl, trivial⟩ ⟨⟨_, rfl, rfl⟩, ⟨_, rfl, rfl, rfl⟩, ⟨_, rfl, rfl, rfl⟩, ⟨_, rfl, rfl⟩, ⟨_, rfl, rfl, rfl⟩, ⟨_, rfl, by omega⟩, trivial⟩, by show k ≤ l; omega, c1⟩
      · have h := of_decide_eq_false h
        have c0 := c0 (by intro h9; exact h (eb.trans (by rw [ek, h9]; rfl)))
        conv => whnf
        refine ⟨Fp.i64 (by omega) (by omega), ?_⟩
        conv => whnf
        exact ⟨(k, y * y), by show k < k + 1; omega, Weak.gen [some 0, some 1, some 2] rfl ⟨Rf.boxK rfl rfl, Rf.boxK rfl rfl, Rf.boxU rfl rfl rfl, trivial⟩ ⟨⟨_, rfl, rfl⟩, ⟨_, rfl, rfl, rfl⟩, ⟨_, rfl, rfl, rfl⟩, ⟨_, rfl, rfl⟩, ⟨_, rfl, rfl, rfl⟩, ⟨_, rfl, by omega⟩, trivial⟩, by show k ≤ l; omega, c0⟩
end Go.Proofs.YtlhdliafjconmaaGreat
/- The program's fpoly.variable, root, halves, over polynomials. -/
namespace Go.Proofs.YtlhdliafjconmaaGreat
open Go.RowKit
section
variable {p : Int} [hp : Prm p] (hm : Fp.md p)
omit hp in
set_option maxHeartbeats 4000000 in
theorem var_list : FnOK Tryz.prog false 99 [] (.c (.row 1 2 (rowF 1 [.int .i64 0, .int .i64 1]))) := by
  refine fn_ok (E := E0) E0_ok Tryz.func99 rfl mixed (by kernel_rfl) (by kernel_rfl) ?_
  conv => whnf
  refine ⟨fun i j hi hj => ?_, ?_⟩
  · match i, j, hi, hj with
    | 0, 0, _, _ => rfl
    | 1, 0, _, _ => rfl
  conv => whnf
  exact ⟨rfl, Sub.refl _⟩
theorem var_P : FnOK Tryz.prog false 99 [] (pl (Pol.X : Pol (Zp p))) := by
  have h := var_list
  refine ⟨h.1, fun D w vs h1 h2 h3 => (h.2 D w vs h1 h2 h3).mono ?_⟩
  rintro e w' ⟨v, h4, h5, h6⟩
  refine ⟨v, h4, ?_, h6⟩
  show VRel D w' [] (Fp.cl (ofP (Pol.X : Pol (Zp p)))) v
  rw [ofP_X]
  refine subRowG rfl (fun i j hi hj => ?_) D w' v h5
  match i, j, hi, hj with
  | 0, 0, _, _ => rfl
  | 1, 0, _, _ => rfl
theorem rtp_len {a : Pol (Zp p)} (hd : Pol.dv a = 0) (ha : a ≠ 0) : ∃ k, a.len = p.toNat * k + 1 ∧ (rtp a).len = k + 1 := by
  have h2 := two_le (p := p)
  have e := root_p hd
  have h0 := Pol.len_pos ha
  have h1 : (a.len - 1) % p.toNat = 0 := Classical.byContradiction fun hn => by
    obtain ⟨_, h4⟩ := pw_p_f (rtp a)
    have := h4 _ hn
    rw [e] at this
    exact Pol.lead_ne ha this
  have e2 := Nat.div_add_mod (a.len - 1) p.toNat
  refine ⟨(a.len - 1) / p.toNat, by omega, Pol.len_eq (fun j hj => ?_) ?_⟩
  · show a.f (p.toNat * j) = 0
    refine Pol.len_out a _ ?_
    have := Nat.mul_le_mul_left p.toNat hj
    rw [Nat.mul_succ] at this
    omega
  · show a.f (p.toNat * ((a.len - 1) / p.toNat)) ≠ 0
    rw [show p.toNat * ((a.len - 1) / p.toNat) = a.len - 1 by omega]
    exact Pol.lead_ne ha
omit hp in
set_option maxHeartbeats 4000000 in
theorem root_list {q n k : Nat} {F : Nat → Int} (hq : p = q) (h1 : 1 ≤ q) (hn : n = q * k + 1) (hl : n ≤ 4096) (hp2 : q ≤ 65521) : FnOK Tryz.prog false 66 [.c (.int .i64 p), .c (il n F)] (.c (il (k + 1) fun j => F (q * j))) := by
  have hmul : ∀ j, q * (j + 1) = q * j + q := fun j => Nat.mul_succ q j
  have hk : ∀ j, q * j < n ↔ j ≤ k := fun j => by
    rw [hn, Nat.lt_succ_iff]
    exact ⟨fun h => Nat.le_of_mul_le_mul_left h h1, fun h => Nat.mul_le_mul_left q h⟩
  have hj0 : ∀ j, j ≤ q * j := fun j => Nat.le_mul_of_pos_left j h1
  refine fn_ok (E := E0) E0_ok Tryz.func66 rfl mixed (by kernel_rfl) (by kernel_rfl) ?_
  conv => whnf
  refine loop_ints (fun j : Nat => ist [(0, .c (.int .i64 p)), (1, .c (il n F)), (5, .c (.gs 0 0)), (6, .c (.int .i64 ((q * j : Nat) : Int)))] [(3, j, fun j => F (q * j))]) (fun j => k + 1 - j) (fun j => j ≤ k + 1) 0 rfl ?_ (Nat.zero_le _) fun j hj => ?_
  · exact Weak.ints [none] rfl ⟨rfl, trivial⟩ ⟨⟨_, rfl, rfl⟩, ⟨_, _, rfl, rfl, fun _ _ _ _ => rfl⟩, rfl, ⟨_, rfl, by rw [Nat.mul_zero]; rfl⟩, trivial⟩
  have hjj := hj0 j
  have hkj := hk j
  have hmj := hmul j
  generalize hqj : q * j = m at *
  conv => whnf
  refine bcase (fun (h : decide ((m : Int) < n) = true) => ?_) fun (h : decide ((m : Int) < n) = false) => ?_
  · have h := of_decide_eq_true h
    have hjk : j ≤ k := hkj.1 (by omega)
    conv => whnf
    refine ⟨by omega, by show (m : Int) < (n : Int); omega, ?_⟩
    conv => whnf
    refine ⟨by show j + 1 ≤ 16777216; omega, fun x y hx hy => ?_, ?_⟩
    · obtain rfl : x = 0 := by have h : x < 1 := hx
                               omega
      obtain rfl : y = 0 := by have h : y < 1 := hy
                               omega
      exact ⟨rfl, fun h => by cases h⟩
    conv => whnf
    refine ⟨Fp.i64 (by omega) (by omega), ?_⟩
    conv => whnf
    refine ⟨j + 1, by omega, ?_, by omega⟩
    refine Weak.ints [some 0] rfl ⟨⟨_, rfl, rfl, rfl, rfl, rfl, fun i hi => appI ?_ (show j + 1 ≤ j + 1 from Nat.le_refl _) hi⟩, trivial⟩ ⟨⟨_, rfl, rfl⟩, ⟨_, _, rfl, rfl, fun _ _ _ _ => rfl⟩, ⟨_, rfl, rfl, rfl⟩, ⟨_, rfl, by rw [hmj]; omega⟩, trivial⟩
    show (if i = j then F (m : Int).toNat else F (q * i)) = F (q * i)
    by_cases e : i = j
    · subst e; rw [if_pos rfl, Int.toNat_natCast, hqj]
    · rw [if_neg e]
  · have h := of_decide_eq_false h
    have hjk : j = k + 1 := by
      have : ¬ j ≤ k := fun c => h (by have := hkj.2 c; omega)
      omega
    subst hjk
    conv => whnf
    refine ⟨fun i j _ _ => rfl, ?_⟩
    conv => whnf
    exact ⟨rfl, Sub.refl _⟩
include hm
theorem root_P {a : Pol (Zp p)} (hl : a.len ≤ 4096) (hd : Pol.dv a = 0) (ha : a ≠ 0) : FnOK Tryz.prog false 66 [.c (.int .i64 p), pl a] (pl (rtp a)) := by
  have hm1 := hm.1
  have hm2 := hm.2.1
  obtain ⟨k, e1, e2⟩ := rtp_len hd ha
  have := root_list (p := p) (q := p.toNat) (n := a.len) (k := k) (F := fun i => (a.f i).v) (by omega) (by omega) e1 hl (by omega)
  rw [← e2] at this
  exact this
end
end Go.Proofs.YtlhdliafjconmaaGreat
/- The program's fpoly.halves, over polynomials. -/
namespace Go.Proofs.YtlhdliafjconmaaGreat
open Go.RowKit
section
variable {p : Int} [hp : Prm p] (hm : Fp.md p)
theorem ofP_one : ofP (1 : Pol (Zp p)) = (1, fun i => if i = 0 then 1 else 0) := by
  have h1 : (1 : Int) % p = 1 := Int.emod_eq_of_lt (by omega) (by have := hp.two; omega)
  refine Prod.ext Pol.len_one (funext fun i => ?_)
  show (if i = 0 then (1 : Zp p) else 0).v = if i = 0 then 1 else 0
  split
  · exact h1
  · exact Int.zero_emod p
theorem divmod_nz {x y : Int} (hx : zlen x ≤ 1000000) (h0 : y ≠ 0) (hy : zlen y ≤ 1000000 := by decide) : FnOK Tryz.prog true 92 [.g (nz x), .g (nz y)] (.t3 (.g (nz (x / y))) (.g (nz (x % y))) (.c (.int .i64 0))) := by
  have := divmod_ok (a := ofZ x) (b := ofZ y) (ofZ_ok x) (ofZ_ok y) (by show zlen x + 2 ≤ LIM; unfold LIM; omega) (by show zlen y + 1 ≤ LIM; unfold LIM; omega) (by rw [ofZ_val]; exact h0)
  rw [ofZ_val, ofZ_val] at this
  exact this
/-- The polynomial 1 as the program writes it. -/
abbrev oneV : V := .c (.row 1 1 (rowF 1 [.int .i64 1]))
theorem sub_oneV : Sub oneV (pl (1 : Pol (Zp p))) := by
  show Sub _ (Fp.cl (ofP (1 : Pol (Zp p))))
  rw [ofP_one]
  refine subRowG rfl fun i j hi hj => ?_
  match i, j, hi, hj with
  | 0, 0, _, _ => rfl
include hm
theorem subs_one {a : Pol (Zp p)} (ha : a.len ≤ 4096) : FnOK Tryz.prog false 101 [.c (.int .i64 p), pl a, oneV, .c (.int .i64 (p - 1))] (pl (a - 1)) := by
  refine Fp.arg_ok (subs_P hm ha (by rw [Pol.len_one]; omega)) fun D w vs h => ?_
  match vs, h with
  | [v0, v1, v2, v3], ⟨h0, h1, h2, h3, h4⟩ => exact ⟨h0, h1, sub_oneV D w v2 h2, h3, h4⟩
omit hp hm in
theorem digs_len {e k : Nat} (h : e < 4294967296 ^ k) : (digs e).length ≤ k := by
  have := zlen_nat e k h
  unfold zlen at this
  rwa [Int.natAbs_natCast] at this
set_option maxHeartbeats 8000000 in
theorem halves_odd {d : Nat} {f t : Pol (Zp p)} (h2 : p ≠ 2) (hd : 1 ≤ d) (hd2 : d ≤ 64) (hf : f ≠ 0) (lf : f.len ≤ 1024) (lt : t.len ≤ 4096) : FnOK Tryz.prog true 102 [.c (.int .i64 p), .c (.int .i64 d), pl f, pl t] (pl (Pol.rm (Crg.pw t (p.toNat ^ d / 2)) f - 1)) := by
  have hm1 := hm.1
  have hm2 := hm.2.1
  have hq : (p.toNat : Int) = p := by omega
  have hlt : p.toNat ^ d < 4294967296 ^ d := Nat.pow_lt_pow_left (by omega) (by omega)
  have k0 := of_ok (x := p) (by omega) (by omega)
  have k1 := pow_ok (x := p.toNat) (n := d) (by omega) (by omega) hd hd2
  rw [hq] at k1
  have k2 := of_ok (x := 2) (by decide) (by decide)
  have z1 : zlen ((p.toNat ^ d : Nat) : Int) ≤ d := zlen_nat _ _ hlt
  have k3 := divmod_nz (x := ((p.toNat ^ d : Nat) : Int)) (y := 2) (by omega) (by decide)
  have e3 : ((p.toNat ^ d : Nat) : Int) / 2 = ((p.toNat ^ d / 2 : Nat) : Int) := (Int.natCast_ediv _ 2).symm
  rw [e3] at k3
  have k4 := (powMod_P hm (a := t) (m := f) (e := p.toNat ^ d / 2) lt hf lf (Nat.le_trans (digs_len (k := d) (by have := Nat.div_le_self (p.toNat ^ d) 2; omega)) (by omega))).weak (r := true)
  have lr : (Pol.rm (Crg.pw t (p.toNat ^ d / 2)) f).len ≤ 4096 := by have := (Pol.rm_spec (Crg.pw t (p.toNat ^ d / 2)) hf).2; omega
  have k5 := (subs_one hm lr).weak (r := true)
  generalize ((p.toNat ^ d : Nat) : Int) % 2 = r at *
  generalize hP : ((p.toNat ^ d : Nat) : Int) = P at *
  generalize ((p.toNat ^ d / 2 : Nat) : Int) = H at *
  generalize Pol.rm (Crg.pw t (p.toNat ^ d / 2)) f - 1 = R at *
  generalize Pol.rm (Crg.pw t (p.toNat ^ d / 2)) f = R0 at *
  refine fn_ok (E := E1) E1_ok Tryz.func102 rfl mixed (by kernel_rfl) (by kernel_rfl) ?_
  conv => whnf
  refine bneg (show decide (p = 2) = false from decide_eq_false h2) ?_
  conv => whnf
  refine ⟨_, k0, ?_⟩
  conv => whnf
  refine ⟨_, k1, ?_⟩
  conv => whnf
  refine ⟨_, k2, ?_⟩
  conv => whnf
  refine ⟨_, k3, ?_⟩
  conv => whnf
  refine ⟨_, k4, ?_⟩
  conv => whnf
  refine ⟨Fp.i64 (by omega) (by omega), ?_⟩
  conv => whnf
  refine ⟨fun i j hi hj => ?_, ?_⟩
  · match i, j, hi, hj with
    | 0, 0, _, _ => rfl
  conv => whnf
  refine ⟨_, k5, ?_⟩
  conv => whnf
  exact ⟨rfl, Sub.refl _⟩
/-- Sums of squares of squares, where p is 2. -/
noncomputable def hv2 (f t : Pol (Zp p)) : Nat → Pol (Zp p) × Pol (Zp p)
  | 0 => (t, t)
  | n + 1 => ((hv2 f t n).1 + Pol.rm ((hv2 f t n).2 * (hv2 f t n).2) f, Pol.rm ((hv2 f t n).2 * (hv2 f t n).2) f)
omit hm in
theorem hv2_len {f t : Pol (Zp p)} (hf : f ≠ 0) (lt : t.len ≤ 1024) (lf : f.len ≤ 1024) : ∀ n, (hv2 f t n).1.len ≤ 1024 ∧ (hv2 f t n).2.len ≤ 1024
  | 0 => ⟨lt, lt⟩
  | n + 1 => by
    obtain ⟨h1, h2⟩ := hv2_len hf lt lf n
    have h3 := (Pol.rm_spec ((hv2 f t n).2 * (hv2 f t n).2) hf).2
    have h4 := Pol.len_add (hv2 f t n).1 (Pol.rm ((hv2 f t n).2 * (hv2 f t n).2) f)
    exact ⟨by show ((hv2 f t n).1 + Pol.rm ((hv2 f t n).2 * (hv2 f t n).2) f).len ≤ 1024; omega, by show (Pol.rm ((hv2 f t n).2 * (hv2 f t n).2) f).len ≤ 1024; omega⟩
set_option maxHeartbeats 8000000 in
theorem halves_two {d : Nat} {f t : Pol (Zp p)} (h2 : p = 2) (hd : 1 ≤ d) (hd2 : d ≤ 64) (hf : f ≠ 0) (lf : f.len ≤ 1024) (lt : t.len ≤ 1024) : FnOK Tryz.prog true 102 [.c (.int .i64 p), .c (.int .i64 d), pl f, pl t] (pl (hv2 f t (d - 1)).1) := by
  have hl := hv2_len hf lt lf
  have k1 := fun n => (times_P hm (hl n).2 (hl n).2).weak (r := true)
  have k2 : ∀ n, FnOK Tryz.prog true 68 [.c (.int .i64 p), pl ((hv2 f t n).2 * (hv2 f t n).2), pl f] (.t2 (pl (Pol.qo ((hv2 f t n).2 * (hv2 f t n).2) f)) (pl (hv2 f t (n + 1)).2)) := fun n => by
    have h3 := Pol.len_mul_le (hv2 f t n).2 (hv2 f t n).2
    have h4 := hl n
    exact (divide_P hm (by omega) (by omega) (Pol.qo_spec _ hf) (Pol.rm_spec _ hf).2).weak
  have k3 : ∀ n, FnOK Tryz.prog true 101 [.c (.int .i64 p), pl (hv2 f t n).1, pl (hv2 f t (n + 1)).2, .c (.int .i64 1)] (pl (hv2 f t (n + 1)).1) := fun n => (adds_P hm (by have := hl n; omega) (by have := hl (n + 1); omega)).weak
  clear hl
  refine fn_ok (E := E1) E1_ok Tryz.func102 rfl mixed (by kernel_rfl) (by kernel_rfl) ?_
  conv => whnf
  refine bpos (show decide (p = 2) = true from decide_eq_true h2) ?_
  conv => whnf
  refine ⟨Fp.i64 (by omega) (by omega), ?_⟩
  conv => whnf
  refine loop_ints (fun j : Nat => gst [(0, .c (.int .i64 p)), (2, pl f), (9, pl (hv2 f t j).1), (10, pl (hv2 f t j).2), (18, .c (.int .i64 ((d : Int) - 1))), (19, .c (.int .i64 j))] []) (fun j => d - j) (fun j => j ≤ d - 1) 0 rfl ?_ (Nat.zero_le _) fun j hj => ?_
  · exact Weak.gen [] rfl trivial ⟨⟨_, rfl, rfl⟩, .inl ⟨_, _, rfl, rfl, fun _ _ _ _ => rfl⟩, .inl ⟨_, _, rfl, rfl, fun _ _ _ _ => rfl⟩, .inl ⟨_, _, rfl, rfl, fun _ _ _ _ => rfl⟩, ⟨_, rfl, rfl⟩, ⟨_, rfl, rfl⟩, trivial⟩
  have k1 := k1 j
  have k2 := k2 j
  have k3 := k3 j
  conv => whnf
  refine bcase (fun (h : decide ((j : Int) < (d : Int) - 1) = true) => ?_) fun (h : decide ((j : Int) < (d : Int) - 1) = false) => ?_
  · have h := of_decide_eq_true h
    conv => whnf
    refine ⟨_, k1, ?_⟩
    conv => whnf
    refine ⟨_, k2, ?_⟩
    conv => whnf
    refine ⟨_, k3, ?_⟩
    conv => whnf
    refine ⟨Fp.i64 (by omega) (by omega), ?_⟩
    conv => whnf
    exact ⟨j + 1, by omega, Weak.gen [] rfl trivial ⟨⟨_, rfl, rfl⟩, .inl ⟨_, _, rfl, rfl, fun _ _ _ _ => rfl⟩, .inl ⟨_, _, rfl, rfl, fun _ _ _ _ => rfl⟩, .inl ⟨_, _, rfl, rfl, fun _ _ _ _ => rfl⟩, ⟨_, rfl, rfl⟩, ⟨_, rfl, rfl⟩, trivial⟩, by omega⟩
  · have h := of_decide_eq_false h
    have hj1 : j = d - 1 := by omega
    subst hj1
    conv => whnf
    exact ⟨rfl, Sub.refl _⟩
end
end Go.Proofs.YtlhdliafjconmaaGreat
