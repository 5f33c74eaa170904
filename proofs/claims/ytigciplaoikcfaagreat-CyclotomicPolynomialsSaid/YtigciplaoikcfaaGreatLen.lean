/- The functions Len32 and LeadingZeros32 of package math/bits, and slices.Clone at digits. -/
import Derived.Test.YtigciplaoikcfaaGreatBig
import Derived.Test.YtigciplaoikcfaaGreatDg
import Derived.Test.YtigciplaoikcfaaGreatBase
import Derived.Deep.RegionHeld3
namespace Go.Proofs.YtigciplaoikcfaaGreat
open Go.RowKit
set_option maxRecDepth 100000
/-- The table of the numbers of binary digits, as the library has it. -/
def lenTab : ByteArray := { data := #[0, 1, 2, 2, 3, 3, 3, 3, 4, 4, 4, 4, 4, 4, 4, 4, 5, 5, 5, 5, 5, 5, 5, 5, 5, 5, 5, 5, 5, 5, 5, 5, 6, 6, 6, 6, 6, 6, 6, 6, 6, 6, 6, 6, 6, 6, 6, 6, 6, 6, 6, 6, 6, 6, 6, 6, 6, 6, 6, 6, 6, 6, 6, 6, 7, 7, 7, 7, 7, 7, 7, 7, 7, 7, 7, 7, 7, 7, 7, 7, 7, 7, 7, 7, 7, 7, 7, 7, 7, 7, 7, 7, 7, 7, 7, 7, 7, 7, 7, 7, 7, 7, 7, 7, 7, 7, 7, 7, 7, 7, 7, 7, 7, 7, 7, 7, 7, 7, 7, 7, 7, 7, 7, 7, 7, 7, 7, 7, 8, 8, 8, 8, 8, 8, 8, 8, 8, 8, 8, 8, 8, 8, 8, 8, 8, 8, 8, 8, 8, 8, 8, 8, 8, 8, 8, 8, 8, 8, 8, 8, 8, 8, 8, 8, 8, 8, 8, 8, 8, 8, 8, 8, 8, 8, 8, 8, 8, 8, 8, 8, 8, 8, 8, 8, 8, 8, 8, 8, 8, 8, 8, 8, 8, 8, 8, 8, 8, 8, 8, 8, 8, 8, 8, 8, 8, 8, 8, 8, 8, 8, 8, 8, 8, 8, 8, 8, 8, 8, 8, 8, 8, 8, 8, 8, 8, 8, 8, 8, 8, 8, 8, 8, 8, 8, 8, 8, 8, 8, 8, 8, 8, 8, 8, 8, 8, 8, 8, 8, 8, 8, 8, 8, 8, 8, 8, 8] }
theorem lenTab_size : lenTab.size = 256 := by decide +kernel
theorem lenTab_all : ∀ i : Fin 256, 0 < i.1 → 1 ≤ (lenTab.data.toList[i.1]?.getD 0).toNat ∧ (lenTab.data.toList[i.1]?.getD 0).toNat ≤ 8 ∧ 2 ^ ((lenTab.data.toList[i.1]?.getD 0).toNat - 1) ≤ i.1 ∧ i.1 < 2 ^ (lenTab.data.toList[i.1]?.getD 0).toNat := by decide +kernel
theorem lenTab_at (i : Nat) (h : i < lenTab.size) (h0 : 0 < i) : 1 ≤ lenTab[i].toNat ∧ lenTab[i].toNat ≤ 8 ∧ 2 ^ (lenTab[i].toNat - 1) ≤ i ∧ i < 2 ^ lenTab[i].toNat := by
  have h2 : i < 256 := h
  have := lenTab_all ⟨i, h2⟩ h0
  have e : lenTab.data.toList[i]?.getD 0 = lenTab[i] := by
    rw [List.getElem?_eq_getElem (show i < lenTab.data.toList.length from h2)]; rfl
  have h3 : 1 ≤ (lenTab.data.toList[i]?.getD 0).toNat ∧ (lenTab.data.toList[i]?.getD 0).toNat ≤ 8 ∧ 2 ^ ((lenTab.data.toList[i]?.getD 0).toNat - 1) ≤ i ∧ i < 2 ^ (lenTab.data.toList[i]?.getD 0).toNat := this
  rwa [e] at h3
theorem len_fin {x y k t : Nat} (hy : y = x / 2 ^ k) (h1 : 1 ≤ t) (h2 : 2 ^ (t - 1) ≤ y) (h3 : y < 2 ^ t) : 2 ^ (k + t - 1) ≤ x ∧ x < 2 ^ (k + t) := by
  subst hy
  have hp : 0 < 2 ^ k := Nat.pow_pos (by omega)
  constructor
  · rw [show k + t - 1 = (t - 1) + k from by omega, Nat.pow_add]
    exact (Nat.le_div_iff_mul_le hp).1 h2
  · rw [Nat.add_comm k t, Nat.pow_add]
    exact (Nat.div_lt_iff_lt_mul hp).1 h3
/-- The number of binary digits. -/
def IsLen (X : Int) (n : Nat) : Prop := 1 ≤ n ∧ n ≤ 32 ∧ 2 ^ (n - 1) ≤ X.toNat ∧ X.toNat < 2 ^ n
theorem isLen_of {X Y : Int} {k : Nat} (hk : k ≤ 24) (hY : Y.toNat = X.toNat / 2 ^ k) (h : Y.toNat < lenTab.size) (h0 : 0 < Y.toNat) : IsLen X (k + lenTab[Y.toNat].toNat) := by
  obtain ⟨h1, h2, h3, h4⟩ := lenTab_at Y.toNat h h0
  have := len_fin hY h1 h3 h4
  exact ⟨by omega, by omega, this.1, this.2⟩
theorem len_sum (a : Int) (t : Nat) (h0 : 0 ≤ a) (h1 : a ≤ 24) (ht : t ≤ 8) : wrap64 (a + wrap64 (t : Int)) = ((a.toNat + t : Nat) : Int) := by
  rw [IntWalk.wrap64_in (t : Int) ⟨by omega, by omega⟩, IntWalk.wrap64_in _ ⟨by omega, by omega⟩]; omega
def LenPost (X : Int) (w : World) (e : Ending) (w' : World) : Prop := ∃ n : Nat, e = .returned (.int .i64 n) ∧ IsLen X n ∧ w = w'
set_option maxRecDepth 100000 in
set_option maxHeartbeats 1000000 in
theorem len32_any (X : Int) (w : World) (h0 : 0 < X) (h1 : X < 4294967296) :
    Calls Tryz.prog 165 #[.int .u32 X] w (LenPost X w) := by
  by_cases c1 : 65536 ≤ X
  · have hd1 : decide (65536 ≤ X) = true := by simp; omega
    by_cases c2 : 16777216 ≤ X
    · have hd2 : decide (256 ≤ X / 65536) = true := by simp; omega
      have hl : (X / 65536 / 256).toNat < lenTab.size := by rw [lenTab_size]; omega
      have L := Lib.hid (isLen_of (X := X) (k := 24) (Y := X / 65536 / 256) (by omega) (by simp only [show (2 : Nat) ^ 24 = 16777216 from rfl]; omega) hl (by omega))
      have hT := Lib.hid (lenTab_at _ hl (by omega))
      have hb1 : 0 ≤ X / 65536 / 256 := by omega
      have hb2 : X / 65536 / 256 < 256 := by omega
      go_enter Tryz.func165, Tryz.ntmps165
      go_wp2
      go_ret
      exact ⟨_, ret_int (len_sum 24 _ (by omega) (by omega) hT.out.2.1), L.out, rfl⟩
    · have hd2 : decide (256 ≤ X / 65536) = false := by simp; omega
      have hl : (X / 65536).toNat < lenTab.size := by rw [lenTab_size]; omega
      have L := Lib.hid (isLen_of (X := X) (k := 16) (Y := X / 65536) (by omega) (by simp only [show (2 : Nat) ^ 16 = 65536 from rfl]; omega) hl (by omega))
      have hT := Lib.hid (lenTab_at _ hl (by omega))
      have hb1 : 0 ≤ X / 65536 := by omega
      have hb2 : X / 65536 < 256 := by omega
      go_enter Tryz.func165, Tryz.ntmps165
      go_wp2
      go_ret
      exact ⟨_, ret_int (len_sum 16 _ (by omega) (by omega) hT.out.2.1), L.out, rfl⟩
  · have hd1 : decide (65536 ≤ X) = false := by simp; omega
    by_cases c2 : 256 ≤ X
    · have hd2 : decide (256 ≤ X) = true := by simp; omega
      have hl : (X / 256).toNat < lenTab.size := by rw [lenTab_size]; omega
      have L := Lib.hid (isLen_of (X := X) (k := 8) (Y := X / 256) (by omega) (by simp only [show (2 : Nat) ^ 8 = 256 from rfl]; omega) hl (by omega))
      have hT := Lib.hid (lenTab_at _ hl (by omega))
      have hb1 : 0 ≤ X / 256 := by omega
      have hb2 : X / 256 < 256 := by omega
      go_enter Tryz.func165, Tryz.ntmps165
      go_wp2
      go_ret
      exact ⟨_, ret_int (len_sum 8 _ (by omega) (by omega) hT.out.2.1), L.out, rfl⟩
    · have hd2 : decide (256 ≤ X) = false := by simp; omega
      have hl : X.toNat < lenTab.size := by rw [lenTab_size]; omega
      have L := Lib.hid (isLen_of (X := X) (k := 0) (Y := X) (by omega) (by simp) hl (by omega))
      have hT := Lib.hid (lenTab_at _ hl (by omega))
      have hb1 : 0 ≤ X := by omega
      have hb2 : X < 256 := by omega
      go_enter Tryz.func165, Tryz.ntmps165
      go_wp2
      go_ret
      exact ⟨_, ret_int (by have := len_sum 0 (lenTab[X.toNat]'hl).toNat (by omega) (by omega) hT.out.2.1; rw [Int.zero_add] at this; exact this), L.out, rfl⟩
/-- How many binary places a digit is moved so that its highest bit is set. -/
def LzPost (X : Int) (w : World) (e : Ending) (w' : World) : Prop := ∃ s : Nat, e = .returned (.int .i64 s) ∧ s ≤ 31 ∧ Dg.B ≤ 2 * (X.toNat * 2 ^ s) ∧ X.toNat * 2 ^ s < Dg.B ∧ w = w'
theorem lz_of {x n : Nat} (h1 : 1 ≤ n) (h2 : n ≤ 32) (h3 : 2 ^ (n - 1) ≤ x) (h4 : x < 2 ^ n) : Dg.B ≤ 2 * (x * 2 ^ (32 - n)) ∧ x * 2 ^ (32 - n) < Dg.B := by
  have hp : 0 < 2 ^ (32 - n) := Nat.pow_pos (by omega)
  have e : Dg.B = 2 ^ n * 2 ^ (32 - n) := by rw [← Nat.pow_add, show n + (32 - n) = 32 from by omega]; rfl
  have e2 : 2 ^ n = 2 * 2 ^ (n - 1) := by rw [Nat.mul_comm, ← Nat.pow_succ]; congr 1; omega
  constructor
  · rw [e, e2, Nat.mul_assoc]
    exact Nat.mul_le_mul_left 2 (Nat.mul_le_mul_right _ h3)
  · rw [e]; exact Nat.mul_lt_mul_of_pos_right h4 hp
theorem lz32_any (X : Int) (w : World) (h0 : 0 < X) (h1 : X < 4294967296) :
    Calls Tryz.prog 194 #[.int .u32 X] w (LzPost X w) := by
  go_enter Tryz.func194, Tryz.ntmps194
  go_wp2_with (go_at_call 165; refine (len32_any _ _ h0 h1).mono ?_; rintro e w' ⟨n, rfl, hL, rfl⟩; have HL := Lib.hid hL; have hn1 := hL.1; have hn2 := hL.2.1; clear hL)
  go_ret
  have := lz_of HL.out.1 HL.out.2.1 HL.out.2.2.1 HL.out.2.2.2
  exact ⟨32 - n, ret_int (by omega), by omega, this.1, this.2, rfl⟩
/-- A row of the call's own reads as its digits. -/
theorem isVal_of_own {w : World} {base n : Nat} {v : Value} {ds : List Nat} (h : w.ownsRow base 128 1 v n (u32s ds)) (ho : Dg.ok ds) : ∃ A c, v = .slice A n c ∧ Dig w A n ds ∧ n ≤ c := by
  have hl : ds.length = n := by have := h.1; rw [u32s_length] at this; omega
  rcases h.2 with ⟨rfl, rfl⟩ | ⟨g, cap, cur, rfl, _, hh, hnc, _, _, htk⟩
  · obtain rfl : ds = [] := List.length_eq_zero_iff.1 hl
    exact ⟨none, 0, rfl, Dig.nil w, by omega⟩
  · refine ⟨_, cap, rfl, ⟨hl.symm, ho, fun _ => ⟨g, 0, rfl, ?_, fun i hi => ?_⟩⟩, hnc⟩
    · rcases Nat.lt_or_ge g w.heap.size with h1 | h1
      · exact h1
      · rw [Array.getElem?_eq_none h1] at hh; cases hh
    · have e : cur.toList[i]? = (u32s ds)[i]? := by rw [← htk, List.getElem?_take, if_pos (by omega)]
      simp only [World.cell?, hh, Nat.zero_add, Option.isSome_none]
      rw [if_neg (by simp)]
      have e2 : cur[i]? = cur.toList[i]? := by simp
      rw [e2, e, u32s_get ds i hi]
      simp [hi]
theorem u32s_one (ds : List Nat) : ∀ u ∈ u32s ds, u.oneCell' = true := by
  intro u hu
  simp only [u32s, List.mem_map] at hu
  obtain ⟨d, _, rfl⟩ := hu
  rfl
set_option maxHeartbeats 1000000 in
theorem clone_any (A : Option Addr) (n c : Nat) (ds : List Nat) (w : World) (hd : Dig w A n ds) (hn : n ≤ LIM) :
    Calls Tryz.prog 148 #[.slice A n c] w fun e w' => ∃ A' c', e = .returned (.slice A' n c') ∧ Dig w' A' n ds ∧ n ≤ c' ∧ Below w.heap.size w w' := by
  have H := Lib.hid hd
  clear hd
  obtain ⟨i0, hi, hz0, hz1, hz2⟩ := info_parts info158
  unfold LIM at hn
  have heq := fun (W : World) => Lib.run_eql_slice_nil (P := Tryz.prog) W 59 128 A n c 0 0 Tryz.underlying59
  rcases A with _ | ad
  · have h0 : n = 0 := by
      rcases Nat.eq_zero_or_pos n with h | h
      · exact h
      · obtain ⟨b, o, hA, _⟩ := H.out.2.2 h; cases hA
    subst h0
    obtain rfl : ds = [] := List.length_eq_zero_iff.1 H.out.len.symm
    go_enter Tryz.func148, Tryz.ntmps148
    go_wp2
    go_ret
    exact ⟨none, 0, rfl, Dig.nil _, by omega, Below.refl _ _⟩
  · have hcells : ∀ W, Below w.heap.size w W → ∀ j u, (u32s ds)[j]? = some u → W.cell? (ad.add j) = some u := by
      intro W hb j u hj
      have hjl : j < ds.length := by
        rcases Nat.lt_or_ge j ds.length with h | h
        · exact h
        · rw [List.getElem?_eq_none (by rw [u32s_length]; exact h)] at hj; cases hj
      obtain ⟨b, o, hA, _, hc⟩ := (H.out.below hb).at_ (by have := H.out.len; omega)
      injection hA with hA
      subst hA
      rw [u32s_get ds j hjl] at hj
      rw [← hj, ← hc j (by have := H.out.len; omega)]
      unfold Addr.add
      by_cases h0 : j = 0 <;> simp [h0]
    have HC := Lib.hid hcells
    clear hcells
    go_enter Tryz.func148, Tryz.ntmps148
    go_wp2_with (at_builtin; refine wpList_append_own _ rfl _ _ 59 rfl w.heap.size 128 i0 _ 1 4 Tryz.underlying59 hi hz0 hz1 hz2 rfl (by decide) _ 0 [] rfl (World.ownsRow_lit w #[] 0 (Nat.le_refl _) (by decide) rfl) ad n c (u32s ds) rfl (by rw [u32s_length]; have := H.out.len; omega) (HC.out _ ((Below.refl w.heap.size w).alloc (Nat.le_refl _) _)) (u32s_one ds) (by unfold maxLen; omega) (by omega) (by simp) ?_; intro v' w1 hown hgr hnil)
    go_ret
    rw [Nat.zero_add, List.nil_append] at hown
    obtain ⟨A', c', rfl, hd', hc'⟩ := isVal_of_own hown H.out.ok
    exact ⟨_, _, rfl, hd', hc', ((Below.refl w.heap.size w).alloc (Nat.le_refl _) _).grown hgr (by simp) (fun k hk => by have h2 : some w.heap.size = some k := hk; injection h2 with h2; omega)⟩
end Go.Proofs.YtigciplaoikcfaaGreat
/- The function divide of package bigint: quotient and remainder of two numbers by their digits, which have no leading zeros; the second one is not 0. The lengths are at most 2^39. -/
namespace Go.Proofs.YtigciplaoikcfaaGreat
open Go.RowKit
theorem IsDig.tight {w : World} {v : Value} {x L M : Nat} (h : IsDig w v x L) (hx : x < Dg.B ^ M) : IsDig w v x M := by
  obtain ⟨A, n, c, ds, h1, h2, h3, h4, h5, h6⟩ := h
  exact ⟨A, n, c, ds, h1, h2, h3, by have := Dg.length_le_of_val h5 (by rw [h6]; exact hx); have := h2.len; omega, h5, h6⟩
/-- What divide hands back. -/
def DivPost (x y n m : Nat) (w : World) (e : Ending) (w' : World) : Prop := ∃ v1 v2, e = .returned (.tuple #[v1, v2]) ∧ IsDig w' v1 (x / y) n ∧ IsDig w' v2 (x % y) m ∧ Below w.heap.size w w'
/-- The first number is the lesser one. -/
theorem divide_less (A A' : Option Addr) (n c n' c' : Nat) (a b : List Nat) (w : World) (ha : Dig w A n a) (hb : Dig w A' n' b) (ta : Dg.trimmed a) (tb : Dg.trimmed b) (hn : n ≤ LIM) (hn' : n' ≤ LIM) (hlt : Dg.val a < Dg.val b) :
    Calls Tryz.prog 185 #[.slice A n c, .slice A' n' c'] w (DivPost (Dg.val a) (Dg.val b) n n' w) := by
  have hm : n ≤ maxLen := by unfold maxLen; unfold LIM at hn; omega
  have hm' : n' ≤ maxLen := by unfold maxLen; unfold LIM at hn'; omega
  have HA := Lib.hid ha
  have HB := Lib.hid hb
  have TA := Lib.hid ta
  have TB := Lib.hid tb
  have HLT := Lib.hid hlt
  have C := fun W hW => compare_any A A' n c n' c' a b W (HA.out.below (w' := W) hW) (HB.out.below hW) ta tb hm hm'
  rw [cmpN_lt hlt] at C
  have HC := Lib.hid C
  have HN := Lib.hid hn
  have hvb := Dg.val_lt HB.out.ok
  rw [← HB.out.len] at hvb
  have HVB := Lib.hid hvb
  clear ha hb ta tb hlt C hm hm' hn hn' hvb
  go_enter Tryz.func185, Tryz.ntmps185
  go_wp2_with (first
    | (go_at_call 172; refine (HC.out _ (Below.refl _ _)).mono ?_; rintro e w1 ⟨rfl, hb1⟩)
    | (go_at_call 148; refine (clone_any A n c a _ (HA.out.below hb1) HN.out).mono ?_; rintro e w2 ⟨A2, c2, rfl, hd2, hc2, hb2⟩; have HD2 := Lib.hid hd2; clear hd2))
  go_ret2
  refine ⟨_, _, rfl, ⟨none, 0, 0, [], rfl, Dig.nil _, by omega, by omega, by intro d h; simp at h, ?_⟩, IsDig.tight ⟨A2, n, c2, a, rfl, HD2.out, hc2, Nat.le_refl _, TA.out, ?_⟩ (Nat.lt_trans (Nat.mod_lt _ (by have := HLT.out; omega)) HVB.out), bel_ext hb1 hb2⟩
  · rw [Nat.div_eq_of_lt HLT.out]; rfl
  · rw [Nat.mod_eq_of_lt HLT.out]
/-- Numbers of two digits. -/
theorem divide_word (A A' : Option Addr) (n c n' c' : Nat) (a b : List Nat) (w : World) (ha : Dig w A n a) (hb : Dig w A' n' b) (ta : Dg.trimmed a) (tb : Dg.trimmed b) (h2 : n ≤ 2) (hn' : n' ≤ LIM) (hlt : Dg.val b ≤ Dg.val a) (h0 : 0 < Dg.val b) :
    Calls Tryz.prog 185 #[.slice A n c, .slice A' n' c'] w (DivPost (Dg.val a) (Dg.val b) n n' w) := by
  have hm : n ≤ maxLen := by unfold maxLen; omega
  have hm' : n' ≤ maxLen := by unfold maxLen; unfold LIM at hn'; omega
  have hva := Dg.val_lt ha.ok
  rw [← ha.len] at hva
  have hvb := Dg.val_lt hb.ok
  rw [← hb.len] at hvb
  have hn2 : n' ≤ 2 := by
    have : Dg.val b < Dg.B ^ n := by omega
    have := Dg.length_le_of_val tb this
    rw [hb.len]; omega
  have hva2 : Dg.val a < Dg.B * Dg.B := by
    have : Dg.B ^ n ≤ Dg.B ^ 2 := Nat.pow_le_pow_right Dg.B_pos h2
    rw [Nat.pow_two] at this; omega
  have HA := Lib.hid ha
  have HB := Lib.hid hb
  obtain ⟨K, hK⟩ : ∃ K : Int, K = cmpN (Dg.val a) (Dg.val b) := ⟨_, rfl⟩
  have hK0 : 0 ≤ K := by
    rw [hK]
    rcases Nat.lt_or_ge (Dg.val b) (Dg.val a) with h | h
    · rw [cmpN_gt h]; omega
    · have : Dg.val a = Dg.val b := by omega
      rw [this, cmpN_self]; omega
  have hdK : decide (K < 0) = false := by simp; omega
  have HC := Lib.hid (fun W hW => compare_any A A' n c n' c' a b W (HA.out.below (w' := W) hW) (HB.out.below hW) ta tb hm hm')
  rw [← hK] at HC
  have Wa := fun W hW => word_any A n c a W (HA.out.below (w' := W) hW) h2
  have Wb := fun W hW => word_any A' n' c' b W (HB.out.below (w' := W) hW) hn2
  have hxq : Dg.val a / Dg.val b ≤ Dg.val a := Nat.div_le_self _ _
  have hxr := Nat.mod_lt (Dg.val a) h0
  have W1 := fun W => wide_any (Dg.val a / Dg.val b) W (by omega)
  have W2 := fun W => wide_any (Dg.val a % Dg.val b) W (by omega)
  have HVA := Lib.hid hva
  have HVB := Lib.hid hvb
  have hQa : Dg.val a / Dg.val b < Dg.B ^ n := by omega
  have hQr : Dg.val a % Dg.val b < Dg.B ^ n' := by omega
  have HQa := Lib.hid hQa
  have HQr := Lib.hid hQr
  have hB64 : Dg.B * Dg.B = 18446744073709551616 := rfl
  have hq1 : IntKind.u64.wrap (((Dg.val a : Nat) : Int).tdiv (Dg.val b : Nat)) = ((Dg.val a / Dg.val b : Nat) : Int) := by
    rw [Int.tdiv_eq_ediv_of_nonneg (by omega), ← Int.natCast_ediv]
    generalize Dg.val a / Dg.val b = q at *
    exact IntWalk.u64_in _ ⟨by omega, by omega⟩
  have hr1 : IntKind.u64.wrap (((Dg.val a : Nat) : Int).tmod (Dg.val b : Nat)) = ((Dg.val a % Dg.val b : Nat) : Int) := by
    rw [Int.tmod_eq_emod_of_nonneg (by omega), ← Int.natCast_emod]
    generalize Dg.val a % Dg.val b = q at *
    exact IntWalk.u64_in _ ⟨by omega, by omega⟩
  have HW1 := Lib.hid W1
  have HW2 := Lib.hid W2
  have HWa := Lib.hid Wa
  have HWb := Lib.hid Wb
  obtain ⟨x, hx⟩ : ∃ x, x = Dg.val a := ⟨_, rfl⟩
  obtain ⟨y, hy⟩ : ∃ x, x = Dg.val b := ⟨_, rfl⟩
  rw [← hx, ← hy] at hq1 hr1 HW1 HW2 HQa HQr ⊢
  rw [← hx] at HWa
  rw [← hy] at HWb h0
  obtain ⟨X, hX⟩ : ∃ X : Int, X = x := ⟨_, rfl⟩
  obtain ⟨Y, hY⟩ : ∃ X : Int, X = y := ⟨_, rfl⟩
  have hX0 : 0 ≤ X := by omega
  have hY0 : 1 ≤ Y := by omega
  have hdn : decide ((n : Int) ≤ 2) = true := by simp; omega
  have hYb : (Y == 0) = false := by simp; omega
  have hYn : ¬ Y = 0 := by omega
  rw [← hX, ← hY] at hq1 hr1
  rw [← hX] at HWa
  rw [← hY] at HWb
  have hq2 : X / Y = ((x / y : Nat) : Int) := by rw [hX, hY, Int.natCast_ediv]
  have hr2 : X % Y = ((x % y : Nat) : Int) := by rw [hX, hY, Int.natCast_emod]
  obtain ⟨q, hqq⟩ : ∃ q, q = x / y := ⟨_, rfl⟩
  obtain ⟨r, hrr⟩ : ∃ q, q = x % y := ⟨_, rfl⟩
  rw [← hqq] at hq1 hq2 HW1 HQa
  rw [← hrr] at hr1 hr2 HW2 HQr
  have hr3 : X.tmod Y = (r : Int) := by rw [Int.tmod_eq_emod_of_nonneg hX0]; exact hr2
  have HQ := Lib.hid hqq
  have HR := Lib.hid hrr
  clear hqq hrr
  clear ha hb ta tb hlt hm hm' hn' hva hvb hva2 hK W1 W2 Wa Wb hxq hxr hQa hQr hB64 hx hy hX hY h0 HVA HVB h2 hn2
  go_enter Tryz.func185, Tryz.ntmps185
  go_wp2_with fail
  refine (HC.out _ (Below.refl _ _)).mono ?_
  rintro e w1 ⟨rfl, hb1⟩
  go_wp2_with fail
  refine (HWa.out _ hb1).mono ?_
  rintro e w2 ⟨rfl, hb2⟩
  have hb12 := bel_ext hb1 hb2
  clear hb1 hb2
  go_wp2_with fail
  refine (HWb.out _ hb12).mono ?_
  rintro e w3 ⟨rfl, hb3⟩
  have hb13 := bel_ext hb12 hb3
  clear hb12 hb3
  go_wp2_with fail
  go_region_held3 (fun _ => True) (trivial) (first | (go_at_call_of 102 (Value.int IntKind.u64 (q : Int)); refine (HW1.out _).mono ?_; rintro e w4 ⟨v1, rfl, hv1, hb4⟩; have HV1 := Lib.hid hv1; clear hv1) | (go_at_call_of 102 (Value.int IntKind.u64 (r : Int)); refine (HW2.out _).mono ?_; rintro e w5 ⟨v2, rfl, hv2, hb5⟩; have HV2 := Lib.hid hv2; clear hv2))
  go_wp2
  go_ret2
  have hbb := bel_ext (bel_ext hb13.drew hb4) hb5
  exact ⟨_, _, rfl, by rw [← HQ.out]; exact (HV1.out.below hb5).tight HQa.out, by rw [← HR.out]; exact HV2.out.tight HQr.out, hbb⟩
/-- A division by one digit. -/
theorem divide_short (A A' : Option Addr) (n c c' : Nat) (a b : List Nat) (w : World) (ha : Dig w A n a) (hb : Dig w A' 1 b) (ta : Dg.trimmed a) (tb : Dg.trimmed b) (h2 : 2 < n) (hn : n ≤ LIM) (hlt : Dg.val b ≤ Dg.val a) (h0 : 0 < Dg.val b) :
    Calls Tryz.prog 185 #[.slice A n c, .slice A' 1 c'] w (DivPost (Dg.val a) (Dg.val b) n 1 w) := by
  have hm : n ≤ maxLen := by unfold maxLen; unfold LIM at hn; omega
  have HA := Lib.hid ha
  have HB := Lib.hid hb
  obtain ⟨d, rfl⟩ := List.length_eq_one_iff.1 hb.len.symm
  have hdv : Dg.val [d] = d := by simp [Dg.val]
  rw [hdv] at hlt h0 ⊢
  have hdB := (Dg.ok_cons.1 hb.ok).1
  obtain ⟨K, hK⟩ : ∃ K : Int, K = cmpN (Dg.val a) (Dg.val [d]) := ⟨_, rfl⟩
  have hK0 : 0 ≤ K := by
    rw [hK, hdv]
    rcases Nat.lt_or_ge d (Dg.val a) with h | h
    · rw [cmpN_gt h]; omega
    · have : Dg.val a = d := by omega
      rw [this, cmpN_self]; omega
  have hdK : decide (K < 0) = false := by simp; omega
  have HC := Lib.hid (fun W hW => compare_any A A' n c 1 c' a [d] W (HA.out.below (w' := W) hW) (HB.out.below hW) ta tb hm (by unfold maxLen; omega))
  rw [← hK] at HC
  obtain ⟨b1, o1, rfl, hl1, hcell1⟩ := hb.at_ (by omega)
  have hc0 := hcell1 0 (by omega)
  simp only [List.getElem?_cons_zero, Option.getD_some, Nat.add_zero] at hc0
  obtain ⟨D, hD⟩ : ∃ D : Int, D = d := ⟨_, rfl⟩
  rw [← hD] at hc0
  have hD0 : 0 < D := by omega
  have hD1 : D < 4294967296 := by rw [Dg.B_eq] at hdB; omega
  have HS := Lib.hid (fun W hW => short_any A n c D a W (HA.out.below (w' := W) hW) hn hD0 hD1)
  have hdn : decide ((n : Int) ≤ 2) = false := by simp; omega
  have hva := Dg.val_lt ha.ok
  rw [← ha.len] at hva
  have HVA := Lib.hid hva
  have HDe := Lib.hid hD
  have hdB' : d < Dg.B ^ 1 := by rw [Nat.pow_one]; exact hdB
  have HDB := Lib.hid hdB'
  have HL := Lib.hid hm
  have H0 := Lib.hid h0
  clear hm ha hb ta tb hlt hdv hdB hdB' hK hcell1 hD hva h0 hn
  go_enter Tryz.func185, Tryz.ntmps185
  go_wp2_with fail
  refine (HC.out _ (Below.refl _ _)).mono ?_
  rintro e w1 ⟨rfl, hb1⟩
  have hc1 := (hb1.cell (p := ⟨b1, o1, none⟩) hl1).trans hc0
  clear hc0
  go_wp2_with fail
  refine (HS.out _ hb1).mono ?_
  rintro e w2 ⟨g, q, R, rfl, hq, hR0, hR1, hval, hb2⟩
  have HQ := Lib.hid hq
  have HVal := Lib.hid hval
  have hb12 := bel_ext hb1 hb2
  clear hq hval hc1 hb1 hb2
  go_wp2_with fail
  refine (trimmed_any _ _ _ q _ HQ.out HL.out (Nat.le_refl _)).mono ?_
  rintro e w3 ⟨rfl, rfl⟩
  obtain ⟨r, rfl⟩ := Int.eq_ofNat_of_zero_le hR0
  have hr64 : r < Dg.B * Dg.B := by have h1 := HDB.out; rw [Nat.pow_one] at h1; have h2 := HDe.out; have : Dg.B * 1 ≤ Dg.B * Dg.B := Nat.mul_le_mul_left _ Dg.B_pos; omega
  have HR := Lib.hid hr64
  clear hr64
  go_wp2_with fail
  refine (wide_any _ _ HR.out).mono ?_
  rintro e w4 ⟨v, rfl, hv, hb3⟩
  have HV := Lib.hid hv
  clear hv
  have hb14 := bel_ext hb12 hb3
  go_wp2
  go_ret2
  have hval := HVal.out
  have hd := HDe.out
  have hr := Dg.guess_right (U := Dg.val a) (V := d) (W := r) (g := Dg.val q) (M := 0) (by rw [hval, hd]; simp; omega) (by rw [hval, hd, Nat.add_mul, Nat.one_mul]; simp; omega)
  refine ⟨_, _, rfl, ?_, ?_, hb14⟩
  · refine IsDig.tight ⟨_, _, _, Dg.trim q, rfl, HQ.out.trim.below hb3, ?_, Nat.le_refl _, Dg.trim_trimmed q, ?_⟩ (Nat.lt_of_le_of_lt (Nat.div_le_self _ _) HVA.out)
    · have := trim_length q; have := HQ.out.len; omega
    · rw [Dg.val_trim]; exact hr.1.symm
  · rw [hr.2]
    exact HV.out.tight (by have := HDB.out; omega)
end Go.Proofs.YtigciplaoikcfaaGreat
/- The function divide of package bigint at divisors of two digits and more. The lengths are at most 2^39. -/
namespace Go.Proofs.YtigciplaoikcfaaGreat
open Go.RowKit
theorem OwnD.rebase {w : World} {base base' g n : Nat} {ds : List Nat} (h : OwnD w base g n ds) (hb : base' ≤ base) : OwnD w base' g n ds := by
  refine ⟨h.1, h.2.1, h.2.2.1, ?_⟩
  rcases h.2.2.2 with h1 | ⟨g', cap, cur, h1, h2, h3⟩
  · exact .inl h1
  · exact .inr ⟨g', cap, cur, h1, by omega, h3⟩
theorem OwnD.other {w w' : World} {base g n k : Nat} {ds : List Nat} (h : OwnD w base g n ds) (hg : w.grownBy w' (some k)) (hne : g ≠ k) : OwnD w' base g n ds :=
  ⟨h.1, h.2.1, h.2.2.kept hg (.inr (by simpa [Value.ownBlock] using hne))⟩
theorem OwnD.grown0 {w w' : World} {base g n : Nat} {ds : List Nat} (h : OwnD w base g n ds) (hg : w.grownBy w' none) : OwnD w' base g n ds :=
  ⟨h.1, h.2.1, h.2.2.kept hg (.inr (by simp [Value.ownBlock]))⟩
set_option maxRecDepth 100000 in
set_option maxHeartbeats 2000000 in
theorem divide_long (A A' : Option Addr) (p m c c' : Nat) (a b : List Nat) (w : World) (ha : Dig w A (p + m + 2) a) (hb : Dig w A' (m + 2) b) (ta : Dg.trimmed a) (tb : Dg.trimmed b) (h2 : 2 < p + m + 2) (hn : p + m + 3 ≤ LIM) (hlt : Dg.val b ≤ Dg.val a) (h0 : 0 < Dg.val b) :
    Calls Tryz.prog 185 #[.slice A (p + m + 2) c, .slice A' (m + 2) c'] w (DivPost (Dg.val a) (Dg.val b) (p + m + 2) (m + 2) w) := by
  have hm : p + m + 2 ≤ maxLen := by unfold maxLen; unfold LIM at hn; omega
  have hm' : m + 3 ≤ maxLen := by unfold maxLen; unfold LIM at hn; omega
  have HA := Lib.hid ha
  have HB := Lib.hid hb
  obtain ⟨i0, hi, hz0, hz1, hz2⟩ := info_parts info158
  obtain ⟨K, hK⟩ : ∃ K : Int, K = cmpN (Dg.val a) (Dg.val b) := ⟨_, rfl⟩
  have hK0 : 0 ≤ K := by
    rw [hK]
    rcases Nat.lt_or_ge (Dg.val b) (Dg.val a) with h | h
    · rw [cmpN_gt h]; omega
    · have : Dg.val a = Dg.val b := by omega
      rw [this, cmpN_self]; omega
  have hdK : decide (K < 0) = false := by simp; omega
  have HC := Lib.hid (fun W hW => compare_any A A' (p + m + 2) c (m + 2) c' a b W (HA.out.below (w' := W) hW) (HB.out.below hW) ta tb hm (by unfold maxLen at *; omega))
  rw [← hK] at HC
  obtain ⟨b1, o1, rfl, hl1, hcell1⟩ := hb.at_ (by omega)
  have hc0 := hcell1 (m + 1) (by omega)
  have hdB := Dg.ok_getD hb.ok (m + 1)
  have hml : m + 1 < b.length := by have := hb.len; omega
  have hd0 : 0 < b[m + 1]?.getD 0 := by
    rcases Nat.eq_zero_or_pos (b[m + 1]?.getD 0) with h | h
    · exfalso
      have hl : b.getLast? = some b[m + 1] := by
        rw [List.getLast?_eq_getElem?, ← hb.len]
        exact List.getElem?_eq_getElem hml
      rw [Dg.getD_eq hml] at h
      exact tb _ hl h
    · exact h
  obtain ⟨D, hD⟩ : ∃ D : Int, D = (b[m + 1]?.getD 0 : Nat) := ⟨_, rfl⟩
  rw [← hD] at hc0
  have hD0 : 0 < D := by omega
  have hD1 : D < 4294967296 := by rw [Dg.B_eq] at hdB; omega
  have hpm : ((p : Int) + m + 2) ≤ 2 ^ 40 := by unfold LIM at hn; omega
  have hdn : decide ((p : Int) + (m : Int) + 2 ≤ 2) = false := by simp; omega
  have hdb : (((m : Int) + 2) == 1) = false := by simp; omega
  have HDe := Lib.hid hD
  have HL := Lib.hid hm'
  have H0 := Lib.hid h0
  have HN := Lib.hid hn
  have HTa := Lib.hid ta
  clear hml hm hm' ha hb ta tb hlt hdB hK hcell1 hD h0 hn hd0
  go_enter Tryz.func185, Tryz.ntmps185
  go_wp2_with fail
  refine (HC.out _ (Below.refl _ _)).mono ?_
  rintro e w1 ⟨rfl, hb1⟩
  have hc1 := (hb1.cell (p := ⟨b1, o1 + (m + 1), none⟩) hl1).trans hc0
  clear hc0
  go_wp2_with fail
  refine (lz32_any _ _ hD0 hD1).mono ?_
  rintro e w2 ⟨s, rfl, hs1, hs2, hs3, rfl⟩
  have HS2 := Lib.hid hs2
  have HS3 := Lib.hid hs3
  clear hs2 hs3 hc1
  go_wp2_with fail
  refine (shifted_any A (p + m + 2) c s a _ (HA.out.below hb1) (by have := HN.out; omega) hs1).mono ?_
  rintro e w3 ⟨g1, us, rfl, hu, huv, hb2⟩
  have hb13 := bel_ext hb1 hb2
  have HU := Lib.hid hu
  have HUV := Lib.hid huv
  clear hu huv
  go_wp2_with fail
  refine (shifted_any _ (m + 2) c' s b _ (HB.out.below hb13) (by have := HN.out; omega) hs1).mono ?_
  rintro e w4 ⟨g2, vs, rfl, hv, hvv, hb3⟩
  have hDt : D.toNat = b[m + 1]?.getD 0 := by rw [HDe.out]; exact Int.toNat_natCast _
  have HM := Lib.hid (Dg.moved HB.out.len.symm HB.out.ok (by rw [← hDt]; exact HS2.out) (by rw [← hDt]; exact HS3.out) hv.2.1 hvv)
  have HV := Lib.hid hv
  have HVV := Lib.hid hvv
  clear hv hvv hDt
  go_wp2_with fail
  refine (trimmed_any _ _ _ vs _ HV.out.dig HL.out (Nat.le_refl _)).mono ?_
  rintro e w5 ⟨rfl, rfl⟩
  rw [HM.out.1]
  have hb14 := bel_ext hb13 hb3
  go_wp2_with (at_make; refine wpList_make_full _ rfl _ _ 59 rfl w.heap.size 128 i0 _ 1 Tryz.underlying59 hi hz0 hz1 .i64 .i64 _ _ (p + 1) rfl rfl (by omega) (by omega) (by rw [hz2]; have := HN.out; unfold LIM at this; omega) (by have := HN.out; unfold LIM at this; unfold maxLen; omega) hb14.size ?_; intro w6 hown hgr)
  have hv4 := HV.out.base
  have hu3 := HU.out.base
  have hs14 := hb1.size
  have hU6 := ((HU.out.below hb3).grown0 hgr).rebase (base' := w.heap.size) hs14
  have hQ6 := (OwnD.made hown)
  have hV6 := (HV.out.dig.trim).below (w' := w6) ⟨hgr.os, hgr.tape, hgr.output, hgr.size, fun k hk => hgr.block k hk (by simp)⟩
  rw [HM.out.1] at hV6
  have hb16 : Below w.heap.size w w6 := hb14.grown hgr hb14.size (by simp)
  have hgq : g1 ≠ w4.heap.size := by have := hb3.size; omega
  have hgv : g2 ≠ g1 := by omega
  have hgvq : g2 ≠ w4.heap.size := by omega
  have hwq : w.heap.size ≤ w4.heap.size := hb14.size
  have hw1 : w.heap.size ≤ g1 := by omega
  have hmade : Dg.Made (Dg.val a * 2 ^ s) (Dg.val vs) (p + 1) (List.replicate (p + 1) 0) us := by
    have := Dg.made_start (a := a) (us := us) (qs := List.replicate (p + 1) 0) (n := p + m + 2) (m := m) (s := s) (V := Dg.val vs) HA.out.len.symm HA.out.ok (by omega) (by have := HU.out.1; omega) HUV.out (by have := HM.out.2.2.2; exact this) (by simp; omega)
    rwa [show p + m + 2 + 1 - (m + 2) = p + 1 from by omega] at this
  have HU6 := Lib.hid hU6
  have HQ6 := Lib.hid hQ6
  have HV6 := Lib.hid hV6
  have HMade := Lib.hid hmade
  clear hv4 hu3 hs14 hU6 hQ6 hV6 hmade hb1 hb2 hb3 hb13 hown hgr HC hD0 hD1 HS2 HS3 HDe
  go_loopw [14] (fun z wr => ∃ (k : Nat) (us' qs : List Nat), k ≤ p + 1 ∧ z = .int .i64 ((k : Int) - 1) ∧ OwnD wr w.heap.size g1 (p + m + 2 + 1) us' ∧ OwnD wr w.heap.size w4.heap.size (p + 1) qs ∧ Dig wr (some ⟨g2, 0, none⟩) (m + 2) (Dg.trim vs) ∧ Hid (Dg.Made (Dg.val a * 2 ^ s) (Dg.val vs) k qs us') ∧ Below w.heap.size w wr) (fun z _ => (intOf z + 1).toNat)
  case atStart => exact ⟨p + 1, us, _, by omega, by go_num, HU6.out, HQ6.out, HV6.out, HMade.out, hb16⟩
  case round =>
    obtain ⟨k, us', qs, hk, rfl, hO, hQ, hVd, hMd, hbw⟩ := hrel
    by_cases hkp : 0 < k
    · obtain ⟨j, rfl⟩ : ∃ j, k = j + 1 := ⟨k - 1, by omega⟩
      have hpre := Dg.made_pre (m := m) (k := j) (by have := hO.1; omega) hO.2.1 hMd.out HM.out.2.2.1
      have HO := Lib.hid hO
      have HQ := Lib.hid hQ
      have HVd := Lib.hid hVd
      have HPre := Lib.hid hpre
      clear hO hQ hVd hpre
      have hj0 : (0 : Int) ≤ (j : Int) := by omega
      have hjp : (j : Int) ≤ (p : Int) := by omega
      go_wp2_with fail
      rw [show j + (m + 2) + 1 - j = m + 3 from by omega]
      refine (digit_any w.heap.size g1 j (p + m + 2 + 1) _ (some ⟨g2, 0, none⟩) m (m + 2 + 1) us' (Dg.trim vs) wr HO.out HVd.out (by omega) HN.out (by intro b' o' hbo; injection hbo with hbo; injection hbo with hb1 hb2; omega) HM.out.2.1 (by rw [Dg.val_trim]; exact HPre.out.1)).mono ?_
      rintro e w7 ⟨us2, qd, rfl, hu2, ht2, hd2, hq2, hr2, hg2⟩
      rw [Dg.val_trim] at hq2 hr2
      have hV0 : 0 < Dg.val vs := by
        rw [HVV.out]; exact Nat.mul_pos H0.out (Nat.pow_pos (by omega))
      have hstep := Dg.made_step (m := m) (k := j) (q := qd) (qs := qs) (by have := HO.out.1; omega) (by have := HQ.out.1; omega) (by have := hu2.1; have := HO.out.1; omega) hMd.out hV0 ht2 (by rw [show j + (m + 3) = j + m + 3 from by omega]; exact hd2) HPre.out.2 hq2 hr2
      have hqB : qd < Dg.B := by
        rw [hq2]
        exact Nat.div_lt_of_lt_mul HPre.out.1
      have HQ7 := HQ.out.other hg2 (Ne.symm hgq)
      have hoc := HQ7.cell (i := j) (by omega)
      have hof := HQ7.frozen j
      have HQ8 := Lib.hid (HQ7.set_ j qd hqB)
      have hgst := (HQ7.2.2.stored j (.int .u32 qd)).2
      have HU8 := Lib.hid (hu2.other (w' := w7.setCell ⟨w4.heap.size, j, none⟩ (.int .u32 qd)) hgst hgq)
      have HV8 := Lib.hid ((HVd.out.grown hg2 (by intro b' o' hbo; injection hbo with hbo; injection hbo with hb1 hb2; omega)).grown (w' := w7.setCell ⟨w4.heap.size, j, none⟩ (.int .u32 qd)) hgst (by intro b' o' hbo; injection hbo with hbo; injection hbo with hb1 hb2; omega))
      have hb7 : Below w.heap.size w w7 := hbw.grown hg2 hbw.size (fun k hk => by injection hk with hk; omega)
      have hb8 : Below w.heap.size w (w7.setCell ⟨w4.heap.size, j, none⟩ (.int .u32 qd)) := hb7.setCell hwq _
      have HStep := Lib.hid hstep
      clear hu2 ht2 hd2 hq2 hr2 hg2 hstep HQ7 hgst hqB hV0
      go_wp2_with fail
      go_roundw
      case rel => exact ⟨j, us2, _, by omega, by go_num, HU8.out, HQ8.out, HV8.out, HStep.out, hb8⟩
      case measure => simp [intOf] <;> omega
    · obtain rfl : k = 0 := by omega
      have hend := Dg.made_end HVV.out hMd.out
      have HEnd := Lib.hid hend
      have HO := Lib.hid hO
      have HQ := Lib.hid hQ
      have hus : Dg.val (us'.take (m + 2)) = Dg.val us' := by
        apply Dg.val_take_of_lt
        have := hMd.out.2
        rw [List.drop_zero] at this
        exact Nat.lt_trans this HM.out.2.2.1
      have HUs := Lib.hid hus
      clear hO hQ hVd hus hend
      have hP1 : p + 1 ≤ maxLen := by have := HN.out; unfold LIM at this; unfold maxLen; omega
      have hM2 : m + 2 ≤ maxLen := by have := HL.out; omega
      have HP1 := Lib.hid hP1
      have HM2 := Lib.hid hM2
      have hM3 : m + 2 ≤ LIM := by have := HN.out; omega
      have HM3 := Lib.hid hM3
      have HT := Lib.hid (HO.out.dig.take (k := m + 2) (by omega))
      have hi0 : (0 : Int) ≤ (m : Int) + 2 := by omega
      have hi1 : (m : Int) + 2 ≤ (p : Int) + (m : Int) + 2 + 1 := by omega
      clear hP1 hM2 hM3
      go_wp2_with fail
      go_region_held3 (fun _ => True) (trivial) (first | (go_at_call 139; refine (trimmed_any _ _ _ o3 _ HD3.out HM2.out (Nat.le_refl _)).mono ?_; rintro e w8 ⟨rfl, rfl⟩) | (go_at_call 139; refine (trimmed_any _ _ _ qs _ HQ.out.dig.drew HP1.out (Nat.le_refl _)).mono ?_; rintro e w8 ⟨rfl, rfl⟩) | (go_at_call 197; refine (unshifted_any _ _ _ s (us'.take (m + 2)) _ HT.out.drew HM3.out hs1).mono ?_; rintro e w9 ⟨g3, o3, rfl, hd3, hv3, hb3⟩; have HD3 := Lib.hid hd3; have HV3 := Lib.hid hv3; clear hd3 hv3))
      go_wp2
      go_ret2
      have hbb := bel_ext hbw.drew hb3
      refine ⟨_, _, rfl, ?_, ?_, hbb⟩
      · refine IsDig.tight (L := p + 1) ⟨_, _, _, Dg.trim qs, rfl, (HQ.out.dig.drew.trim).below hb3, ?_, ?_, Dg.trim_trimmed qs, by rw [Dg.val_trim]; exact HEnd.out.1⟩ ?_
        · have := trim_length qs; have := HQ.out.1; omega
        · have := trim_length qs; have := HQ.out.1; omega
        · refine Nat.lt_of_le_of_lt (Nat.div_le_self _ _) ?_
          have := Dg.val_lt HA.out.ok
          rwa [← HA.out.len] at this
      · refine ⟨_, _, _, Dg.trim o3, rfl, HD3.out.trim, ?_, ?_, Dg.trim_trimmed o3, ?_⟩
        · have := trim_length o3; have := HD3.out.len; omega
        · have := trim_length o3; have := HD3.out.len; omega
        · rw [Dg.val_trim, HV3.out, HUs.out]; exact HEnd.out.2
/-- Quotient and remainder of digits without leading zeros; the divisor is not 0. -/
theorem divide_any (A A' : Option Addr) (n c n' c' : Nat) (a b : List Nat) (w : World) (ha : Dig w A n a) (hb : Dig w A' n' b) (ta : Dg.trimmed a) (tb : Dg.trimmed b) (hn : n + 1 ≤ LIM) (hn' : n' ≤ LIM) (h0 : 0 < Dg.val b) :
    Calls Tryz.prog 185 #[.slice A n c, .slice A' n' c'] w (DivPost (Dg.val a) (Dg.val b) n n' w) := by
  rcases Nat.lt_or_ge (Dg.val a) (Dg.val b) with hlt | hlt
  · exact divide_less A A' n c n' c' a b w ha hb ta tb (by omega) hn' hlt
  · rcases Nat.lt_or_ge 2 n with h2 | h2
    · match n', hb with
      | 0, hb =>
        obtain rfl : b = [] := List.length_eq_zero_iff.1 hb.len.symm
        exact absurd h0 (by simp [Dg.val])
      | 1, hb => exact divide_short A A' n c c' a b w ha hb ta tb h2 (by omega) hlt h0
      | m + 2, hb =>
        have hle : m + 2 ≤ n := by
          have h1 := Dg.val_lt ha.ok
          rw [← ha.len] at h1
          have := Dg.length_le_of_val tb (Nat.lt_of_le_of_lt hlt h1)
          rw [hb.len]; exact this
        obtain ⟨p, rfl⟩ : ∃ p, n = p + m + 2 := ⟨n - m - 2, by omega⟩
        exact divide_long A A' p m c c' a b w ha hb ta tb h2 (by omega) hlt h0
    · exact divide_word A A' n c n' c' a b w ha hb ta tb h2 hn' hlt h0
end Go.Proofs.YtigciplaoikcfaaGreat
