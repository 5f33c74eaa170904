/- slices.SortFunc at lists of factors: the contract. -/
import Derived.Test.YtlhdliafjconmaaGreatUf13
import Derived.Test.YtlhdliafjconmaaGreatUf8
import Derived.Test.YtlhdliafjconmaaGreatUf6
import Derived.Test.YtlhdliafjconmaaGreatRows
import Derived.ProofKit
import Derived.OpenShut
import Derived.Carry
import Derived.ChangeSame
import Derived.Test.YtlhdliafjconmaaGreatUf5
namespace Go.Proofs.YtlhdliafjconmaaGreat
open Go.RowKit Go.Sort
section
variable {p : Int} [hp : Prm p]
theorem get!_some {α : Type} [Inhabited α] {a : Array α} {i : Nat} {x : α} (h : a[i]? = some x) : a[i]! = x := by
  rw [getElem!_def, h]
/-- The order in which the sort lays a list. -/
noncomputable def srtA (l : List (Pol (Zp p) × Nat)) (h0 : 0 < l.length) : Array (Ix l.length) :=
  letI : Inhabited (Ix l.length) := ⟨⟨0, h0⟩⟩
  pdq (ltOf fun x y : Ix l.length => cmpP (l.getD x.1 (0, 0)).1 (l.getD y.1 (0, 0)).1) (Array.ofFn fun i : Fin l.length => (⟨i.1, i.2⟩ : Ix l.length)) 0 (Array.ofFn fun i : Fin l.length => (⟨i.1, i.2⟩ : Ix l.length)).size (Lib.bitLen (Array.ofFn fun i : Fin l.length => (⟨i.1, i.2⟩ : Ix l.length)).size) true true
noncomputable def srtL (l : List (Pol (Zp p) × Nat)) (h0 : 0 < l.length) : List (Pol (Zp p) × Nat) := (srtA l h0).toList.map fun x => l.getD x.1 (0, 0)
theorem srtA_size (l : List (Pol (Zp p) × Nat)) (h0 : 0 < l.length) : (srtA l h0).size = l.length := by
  letI : Inhabited (Ix l.length) := ⟨⟨0, h0⟩⟩
  have h := (pdq_sorts (ltOf fun x y : Ix l.length => cmpP (l.getD x.1 (0, 0)).1 (l.getD y.1 (0, 0)).1) (cmpP_swo fun x : Ix l.length => (l.getD x.1 (0, 0)).1) (Array.ofFn fun i : Fin l.length => (⟨i.1, i.2⟩ : Ix l.length)) 0 (Array.ofFn fun i : Fin l.length => (⟨i.1, i.2⟩ : Ix l.length)).size (Lib.bitLen (Array.ofFn fun i : Fin l.length => (⟨i.1, i.2⟩ : Ix l.length)).size) true true (Nat.zero_le _) (Nat.le_refl _) (Or.inl rfl)).1.1
  have e : (Array.ofFn fun i : Fin l.length => (⟨i.1, i.2⟩ : Ix l.length)).size = l.length := Array.size_ofFn
  exact h.trans e
theorem srtL_len (l : List (Pol (Zp p) × Nat)) (h0 : 0 < l.length) : (srtL l h0).length = l.length := by
  unfold srtL
  rw [List.length_map, Array.length_toList, srtA_size]
theorem srtL_perm (l : List (Pol (Zp p) × Nat)) (h0 : 0 < l.length) : (srtL l h0).Perm l := by
  letI : Inhabited (Ix l.length) := ⟨⟨0, h0⟩⟩
  have h := (pdq_sorts (ltOf fun x y : Ix l.length => cmpP (l.getD x.1 (0, 0)).1 (l.getD y.1 (0, 0)).1) (cmpP_swo fun x : Ix l.length => (l.getD x.1 (0, 0)).1) (Array.ofFn fun i : Fin l.length => (⟨i.1, i.2⟩ : Ix l.length)) 0 (Array.ofFn fun i : Fin l.length => (⟨i.1, i.2⟩ : Ix l.length)).size (Lib.bitLen (Array.ofFn fun i : Fin l.length => (⟨i.1, i.2⟩ : Ix l.length)).size) true true (Nat.zero_le _) (Nat.le_refl _) (Or.inl rfl)).1
  obtain ⟨h1, _, h2⟩ := h
  have h3 : (srtA l h0).toList.Perm (Array.ofFn fun i : Fin l.length => (⟨i.1, i.2⟩ : Ix l.length)).toList := by
    have e1 := srtA_size l h0
    have e2 : (Array.ofFn fun i : Fin l.length => (⟨i.1, i.2⟩ : Ix l.length)).size = l.length := Array.size_ofFn
    have a1 : (srtA l h0).extract 0 (Array.ofFn fun i : Fin l.length => (⟨i.1, i.2⟩ : Ix l.length)).size = srtA l h0 := by rw [e2]; exact Array.extract_eq_self_of_le (Nat.le_of_eq e1)
    have a2 : (Array.ofFn fun i : Fin l.length => (⟨i.1, i.2⟩ : Ix l.length)).extract 0 (Array.ofFn fun i : Fin l.length => (⟨i.1, i.2⟩ : Ix l.length)).size = Array.ofFn fun i : Fin l.length => (⟨i.1, i.2⟩ : Ix l.length) := Array.extract_size
    rw [a2] at h2
    have h2' : ((srtA l h0).extract 0 (Array.ofFn fun i : Fin l.length => (⟨i.1, i.2⟩ : Ix l.length)).size).toList.Perm _ := h2
    rw [a1] at h2'
    exact h2'
  have h4 := h3.map fun x => l.getD x.1 (0, 0)
  have e : (Array.ofFn fun i : Fin l.length => (⟨i.1, i.2⟩ : Ix l.length)).toList.map (fun x => l.getD x.1 (0, 0)) = l := by
    refine List.ext_getElem (by simp) fun i h5 h6 => ?_
    simp [List.getD_eq_getElem?_getD, h6]
  rw [e] at h4
  exact h4
theorem srtL_sorted (l : List (Pol (Zp p) × Nat)) (h0 : 0 < l.length) : (srtL l h0).Pairwise fun a b => ¬ cmpP b.1 a.1 < 0 := by
  letI : Inhabited (Ix l.length) := ⟨⟨0, h0⟩⟩
  have h := (pdq_sorts (ltOf fun x y : Ix l.length => cmpP (l.getD x.1 (0, 0)).1 (l.getD y.1 (0, 0)).1) (cmpP_swo fun x : Ix l.length => (l.getD x.1 (0, 0)).1) (Array.ofFn fun i : Fin l.length => (⟨i.1, i.2⟩ : Ix l.length)) 0 (Array.ofFn fun i : Fin l.length => (⟨i.1, i.2⟩ : Ix l.length)).size (Lib.bitLen (Array.ofFn fun i : Fin l.length => (⟨i.1, i.2⟩ : Ix l.length)).size) true true (Nat.zero_le _) (Nat.le_refl _) (Or.inl rfl)).2
  have e1 := srtA_size l h0
  have e2 : (Array.ofFn fun i : Fin l.length => (⟨i.1, i.2⟩ : Ix l.length)).size = l.length := Array.size_ofFn
  unfold srtL
  rw [List.pairwise_map, List.pairwise_iff_getElem]
  intro i j hi hj hij
  rw [Array.length_toList] at hi hj
  have h1 := h i j (Nat.zero_le _) hij (by rw [e2, ← e1]; exact hj)
  have h1 : ltOf (fun x y : Ix l.length => cmpP (l.getD x.1 (0, 0)).1 (l.getD y.1 (0, 0)).1) (srtA l h0)[j]! (srtA l h0)[i]! = false := h1
  rw [getElem!_pos (srtA l h0) j hj, getElem!_pos (srtA l h0) i hi] at h1
  have h2 := of_decide_eq_false h1
  simpa using h2
theorem srtL_get (l : List (Pol (Zp p) × Nat)) (h0 : 0 < l.length) {i : Nat} (hi : i < l.length) : ∃ x : Ix l.length, (srtA l h0)[i]? = some x ∧ (srtL l h0).getD i (0, 0) = l.getD x.1 (0, 0) := by
  have hs : i < (srtA l h0).size := by rw [srtA_size]; exact hi
  refine ⟨(srtA l h0)[i], Array.getElem?_eq_getElem hs, ?_⟩
  unfold srtL
  rw [List.getD_eq_getElem?_getD, List.getElem?_map, Array.getElem?_toList, Array.getElem?_eq_getElem hs]
  rfl
/-- The cells of a place. -/
def encC (cs : Array Value) (n : Nat) (x : Ix n) : List Value := [cs[x.1 * 2]!, cs[x.1 * 2 + 1]!]
set_option maxHeartbeats 4000000 in
theorem sort_m {l : List (Pol (Zp p) × Nat)} (h0 : 0 < l.length) (h1 : l.length ≤ 4096) (hl : ∀ c ∈ l, c.1.len ≤ 4096) {r : Bool} :
    FnM Tryz.prog r 31 (gb (fcB l)) [.c (.gs 0 0), .c (.fn 32)] (.c .any) (gb (fcB (srtL l h0))) [] := by
  letI : Inhabited (Ix l.length) := ⟨⟨0, h0⟩⟩
  refine ⟨by kernel_rfl, fun D w0 lc w vs hs hargs => ?_⟩
  match vs, hargs with
  | [v0, v1], ⟨hv0, hv1, _⟩ =>
    obtain ⟨lc', e1, _, hv0⟩ := hv0
    obtain rfl : lc = lc' := by cases e1; rfl
    have hat := hs.at_ 0 lc (gb (fcB l)) rfl rfl (Nat.zero_le _)
    have hv0 : v0 = lc.v := hv0 hat.1
    have hv1 : v1 = .func (.func 32) #[] #[] := hv1
    rcases hat.2 with ⟨p1, _, _⟩ | ⟨b, cap, cs, p2, p3, p4, p5, p6, p7, p8, p9⟩
    · have p1 : l.length = 0 := p1
      omega
    have p7 : l.length ≤ cap := p7
    have p6 : cs.size = cap * 2 := p6
    have p5 : w.heap[b]? = some (.cells cs 41 (0, 0)) := p5
    have hDb : Dof D [lc] [gb (fcB l)] b := .inr ⟨0, lc, _, rfl, rfl, rfl, p2⟩
    have hblk : b < w.heap.size := heap_lt p5
    have cellb : ∀ k, w.cell? ⟨b, k, none⟩ = cs[k]? := fun k => by simp only [World.cell?, p5]; simp
    -- what a place holds
    have hcell : ∀ i, i < l.length → ∃ (A : Option Addr) (c : Nat), cs[i * 2]! = .slice A (l.getD i (0, 0)).1.len c ∧ cs[i * 2 + 1]! = .int .i64 ((l.getD i (0, 0)).2 : Nat) ∧ ((0 < (l.getD i (0, 0)).1.len) → ∃ b' o, A = some ⟨b', o, none⟩ ∧ b' ≠ b ∧ b' < w.heap.size ∧ ∀ k, k < (l.getD i (0, 0)).1.len → w.cell? ⟨b', o + k, none⟩ = some (.int .i64 ((l.getD i (0, 0)).1.f k).v)) := fun i hi => by
      obtain ⟨u0, hu0, hr0⟩ := p9 i 0 hi (show 0 < 2 by decide)
      obtain ⟨u1, hu1, hr1⟩ := p9 i 1 hi (show 1 < 2 by decide)
      have hu0 : cs[i * 2]? = some u0 := hu0
      have hu1 : cs[i * 2 + 1]? = some u1 := hu1
      obtain ⟨A, c, a1, a2, a3⟩ := hr0
      refine ⟨A, c, by rw [get!_some hu0]; exact a1, by rw [get!_some hu1]; exact hr1, fun hp => ?_⟩
      obtain ⟨b', o, c1, c2, c3, c4⟩ := a3 hp
      refine ⟨b', o, c1, fun e => c3 (by rw [e]; exact hDb), c2, fun k hk => ?_⟩
      obtain ⟨u, c5, c6⟩ := c4 k 0 hk (by decide)
      have c6 : u = .int .i64 ((l.getD i (0, 0)).1.f k).v := c6
      rw [← c6]
      have c5 : w.cell? ⟨b', o + (k * 1 + 0), none⟩ = some u := c5
      rwa [Nat.mul_one, Nat.add_zero] at c5
    let d : Array (Ix l.length) := Array.ofFn fun i : Fin l.length => (⟨i.1, i.2⟩ : Ix l.length)
    have ed : d.size = l.length := Array.size_ofFn
    let q : Ix l.length → Pol (Zp p) := fun x => (l.getD x.1 (0, 0)).1
    have hlen : ∀ x : Ix l.length, (q x).len ≤ 4096 := fun x => hl _ (by
      have : l.getD x.1 (0, 0) = l[x.1] := by rw [List.getD_eq_getElem?_getD, List.getElem?_eq_getElem x.2]; rfl
      rw [this]
      exact List.getElem_mem x.2)
    have hone : ∀ x : Ix l.length, ∀ v ∈ encC cs l.length x, v.oneCell' = true := fun x v hv => by
      obtain ⟨A, c, a1, a2, _⟩ := hcell x.1 x.2
      unfold encC at hv
      rw [a1, a2] at hv
      simp at hv
      rcases hv with rfl | rfl <;> rfl
    have hH : HoldsK (encC cs l.length) 2 w b 0 d := fun j hj => by
      rw [size_flatK, ed] at hj
      have hj2 : j / 2 < l.length := by omega
      have hjd : j / 2 < d.size := by rw [ed]; exact hj2
      refine ⟨?_, by simp only [World.frozen?, p5]; simp⟩
      rw [get_flatK _ _ _ _ (by rw [ed]; exact hj), Nat.zero_add, cellb, getElem!_pos d (j / 2) hjd]
      have e : d[j / 2]'hjd = ⟨j / 2, hj2⟩ := by simp [d]
      rw [e]
      have hjc : j < cs.size := by omega
      have e3 : cs[j]? = some cs[j]! := by rw [getElem!_pos cs j hjc]; exact Array.getElem?_eq_getElem hjc
      rw [e3]
      show some cs[j]! = some ([cs[j / 2 * 2]!, cs[j / 2 * 2 + 1]!][j % 2]!)
      rcases Nat.mod_two_eq_zero_or_one j with h | h
      · rw [h, show j / 2 * 2 = j by omega]; rfl
      · rw [h, show j / 2 * 2 + 1 = j by omega]; rfl
    have hcmp : CmpLays Tryz.prog 32 #[] (encC cs l.length) 2 (fun x y => cmpP (q x) (q y)) b 0 d.size w := fun m os dk _ x y => by
      obtain ⟨A, c, a1, a2, a3⟩ := hcell x.1 x.2
      obtain ⟨A', c', b1, b2, b3⟩ := hcell y.1 y.2
      have keep : ∀ {B' o : Nat} {v : Value}, B' ≠ b → B' < w.heap.size → w.cell? ⟨B', o, none⟩ = some v → (sortWorldK (encC cs l.length) 2 w b 0 m dk os).cell? ⟨B', o, none⟩ = some v := fun h2 h3 h4 => by
        unfold sortWorldK putRowK
        rw [cell?_grow _ _ _ (by rw [size_putRow]; exact h3), cell?_putRow_other _ _ _ _ _ _ (.inl h2)]
        exact h4
      have := factor_walk (q x).len (q y).len c c' (fun i => ((q x).f i).v) (fun i => ((q y).f i).v) A A' (.int .i64 ((l.getD x.1 (0, 0)).2 : Nat)) (.int .i64 ((l.getD y.1 (0, 0)).2 : Nat)) (sortWorldK (encC cs l.length) 2 w b 0 m dk os) (hlen x) (hlen y) (fun hp => by
        obtain ⟨B', o, c1, c2, c3, c4⟩ := a3 hp
        exact ⟨B', o, c1, fun i hi => keep c2 c3 (c4 i hi)⟩) (fun hp => by
        obtain ⟨B', o, c1, c2, c3, c4⟩ := b3 hp
        exact ⟨B', o, c1, fun i hi => keep c2 c3 (c4 i hi)⟩)
      have ex : encC cs l.length x = [.slice A (q x).len c, .int .i64 ((l.getD x.1 (0, 0)).2 : Nat)] := by unfold encC; rw [a1, a2]
      have ey : encC cs l.length y = [.slice A' (q y).len c', .int .i64 ((l.getD y.1 (0, 0)).2 : Nat)] := by unfold encC; rw [b1, b2]
      rw [ex, ey]
      exact this
    have eg : ∀ args w, (callFunc 32 args).run Tryz.prog w = .ok (.enter 32 args) w := enters_of Tryz.func32 (by kernel_rfl) rfl
    have hcon := AnyQ.slices_SortFunc_eq sortF 2 Tryz.isAgg41 Tryz.sizeOf41 (encC cs l.length) (fun _ => rfl) hone (fun x y => cmpP (q x) (q y)) (cmpP_swo q) 32 #[] b 0 cap d w eg hcmp hH hblk (by rw [ed]; omega)
    have ev : v0 = .slice (some ⟨b, 0, none⟩) d.size cap := by rw [hv0, ed]; exact p4
    rw [ev, hv1]
    refine hcon.mono ?_
    rintro e w' ⟨rfl, n, os, rfl⟩
    refine ⟨_, lc, [], rfl, ?_, LocsLe.refl _, trivial⟩
    show Sat D w0 r [lc] [gb (fcB (srtL l h0))] (grow (putRow id (Sort.ahead w n) b 0 (flatK (encC cs l.length) 2 (srtA l h0))) os)
    have hF : (flatK (encC cs l.length) 2 (srtA l h0)).size = l.length * 2 := by rw [size_flatK, srtA_size]
    have hFg : ∀ i j, i < l.length → j < 2 → ∃ x : Ix l.length, (srtL l h0).getD i (0, 0) = l.getD x.1 (0, 0) ∧ (flatK (encC cs l.length) 2 (srtA l h0))[i * 2 + j]! = cs[x.1 * 2 + j]! := fun i j hi hj => by
      obtain ⟨x, hx1, hx2⟩ := srtL_get l h0 hi
      refine ⟨x, hx2, ?_⟩
      rw [get_flatK _ _ _ _ (by rw [srtA_size]; omega), show (i * 2 + j) / 2 = i by omega, show (i * 2 + j) % 2 = j by omega, get!_some hx1]
      match j, hj with
      | 0, _ => rfl
      | 1, _ => rfl
    generalize flatK (encC cs l.length) 2 (srtA l h0) = F at *
    have hnoU : r = true → ∀ (i : Nat) (d : Int), cs[i]? ≠ some (.int .u32 d) := fun hr i d' e => hs.noU hr b i d' hDb (by rw [cellb]; exact e)
    have hcs' : ∀ k, (putCells id 0 F cs)[k]? = (cs[k]?).map fun x => if 0 ≤ k ∧ k < 0 + F.size then F[k - 0]! else x := fun k => by
      unfold putCells
      rw [Array.getElem?_mapIdx]
      rfl
    have hup := hs.update (k := 0) (b := b) (l := lc) (B := gb (fcB l)) (cs := cs) (cs' := putCells id 0 F cs) (f' := fcs (srtL l h0)) (w' := putRow id (Sort.ahead w n) b 0 F) rfl rfl rfl p2 p5
      (by
        show (w.heap.modify b (onCells (putCells id 0 F)))[b]? = _
        rw [Array.getElem?_modify, if_pos rfl, p5]
        rfl)
      (by unfold putCells; exact Array.size_mapIdx)
      (fun x hx => by
        show (w.heap.modify b (onCells (putCells id 0 F)))[x]? = _
        rw [Array.getElem?_modify, if_neg (fun e => hx e.symm)])
      (by rw [size_putRow]; rfl) rfl rfl rfl
      (fun i j hi hj => by
        have hi : i < l.length := hi
        have hj : j < 2 := hj
        obtain ⟨x, hx1, hx2⟩ := hFg i j hi hj
        obtain ⟨u, hu, hr⟩ := p9 x.1 j x.2 hj
        have hu : cs[x.1 * 2 + j]? = some u := hu
        refine ⟨u, ?_, ?_⟩
        · show (putCells id 0 F cs)[i * 2 + j]? = some u
          have hk : i * 2 + j < cs.size := by omega
          rw [hcs', Array.getElem?_eq_getElem hk]
          show some (if 0 ≤ i * 2 + j ∧ i * 2 + j < 0 + F.size then F[i * 2 + j - 0]! else _) = some u
          rw [if_pos ⟨Nat.zero_le _, by omega⟩, Nat.sub_zero, hx2, get!_some hu]
        · have e : fcs (srtL l h0) i j = fcs l x.1 j := by
            show ([pc ((srtL l h0).getD i (0, 0)).1, _] : List Cell).getD j .any = _
            rw [hx1]
          rw [e]
          exact hr)
      (fun hr k d' e => by
        rw [hcs'] at e
        cases hk : cs[k]? with
        | none => rw [hk] at e; cases e
        | some x =>
          rw [hk] at e
          have e : (if 0 ≤ k ∧ k < 0 + F.size then F[k - 0]! else x) = .int .u32 d' := by simpa using e
          split at e
          · rename_i h3
            obtain ⟨y, _, hy⟩ := hFg (k / 2) (k % 2) (by omega) (by omega)
            rw [Nat.sub_zero, show k = k / 2 * 2 + k % 2 by omega, hy] at e
            have hb2 : y.1 * 2 + k % 2 < cs.size := by have := y.2; omega
            rw [getElem!_pos cs _ hb2] at e
            exact hnoU hr (y.1 * 2 + k % 2) d' (by rw [Array.getElem?_eq_getElem hb2, e])
          · exact hnoU hr k d' (by rw [hk, e]))
    have eB : gb (fcB (srtL l h0)) = { gb (fcB l) with f := fcs (srtL l h0) } := by
      show Blk.mk _ _ (srtL l h0).length _ _ _ = _
      rw [srtL_len]
    rw [eB]
    exact hup.1.ext ⟨rfl, rfl, rfl, by rw [size_grow]; exact Nat.le_add_right _ _, fun k hk => heap_grow_old _ os hk⟩
end
end Go.Proofs.YtlhdliafjconmaaGreat
/- The program's fpoly.prepare. -/
namespace Go.Proofs.YtlhdliafjconmaaGreat
open Go.RowKit
namespace Fp
set_option maxHeartbeats 4000000 in
theorem prepare_no {p : Int} {x : L} (hp : ¬ md p) : FnOK Tryz.prog false 28 [.c (.int .i64 p), cl x] (.t2 (.c .nil) (.c (.int .i64 8))) := by
  refine fn_ok (E := E0) E0_ok Tryz.func28 rfl mixed (by kernel_rfl) (by kernel_rfl) ?_
  conv => whnf
  refine ⟨_, modulus_bad hp, ?_⟩
  conv => whnf
  exact ⟨rfl, Sub.refl _⟩
set_option maxHeartbeats 4000000 in
theorem prepare_zero {p : Int} {x f : L} (hp : md p) (hx : x.1 ≤ 4096) (ex : nfL p x = f) (h0 : f.1 = 0) : FnOK Tryz.prog false 28 [.c (.int .i64 p), cl x] (.t2 (.c .nil) (.c (.int .i64 5))) := by
  have hN := normal_L (x := x) hp hx
  rw [ex] at hN
  refine fn_ok (E := E0) E0_ok Tryz.func28 rfl mixed (by kernel_rfl) (by kernel_rfl) ?_
  conv => whnf
  refine ⟨_, modulus_ok hp, ?_⟩
  conv => whnf
  refine ⟨_, hN, ?_⟩
  conv => whnf
  refine bpos (show decide ((f.1 : Int) = 0) = true by simp; omega) ?_
  conv => whnf
  exact ⟨rfl, Sub.refl _⟩
set_option maxHeartbeats 4000000 in
theorem prepare_in {p : Int} {x f : L} (hp : md p) (hx : x.1 ≤ 4096) (ex : nfL p x = f) (h0 : 0 < f.1) (h1 : f.1 ≤ 65) : FnOK Tryz.prog false 28 [.c (.int .i64 p), cl x] (.t2 (cl f) (.c (.int .i64 0))) := by
  have hN := normal_L (x := x) hp hx
  have hle := nfL_le p x
  rw [ex] at hN hle
  refine fn_ok (E := E0) E0_ok Tryz.func28 rfl mixed (by kernel_rfl) (by kernel_rfl) ?_
  conv => whnf
  refine ⟨_, modulus_ok hp, ?_⟩
  conv => whnf
  refine ⟨_, hN, ?_⟩
  conv => whnf
  refine bneg (show decide ((f.1 : Int) = 0) = false by simp; omega) ?_
  conv => whnf
  refine ⟨i64 (by omega) (by omega), ?_⟩
  conv => whnf
  refine bneg (show decide ((64 : Int) < (f.1 : Int) - 1) = false by simp; omega) ?_
  conv => whnf
  exact ⟨rfl, Sub.refl _⟩
set_option maxHeartbeats 4000000 in
theorem prepare_big {p : Int} {x f : L} (hp : md p) (hx : x.1 ≤ 4096) (ex : nfL p x = f) (h1 : 65 < f.1) : FnOK Tryz.prog false 28 [.c (.int .i64 p), cl x] (.t2 (.c .nil) (.c (.int .i64 7))) := by
  have hN := normal_L (x := x) hp hx
  have hle := nfL_le p x
  rw [ex] at hN hle
  refine fn_ok (E := E0) E0_ok Tryz.func28 rfl mixed (by kernel_rfl) (by kernel_rfl) ?_
  conv => whnf
  refine ⟨_, modulus_ok hp, ?_⟩
  conv => whnf
  refine ⟨_, hN, ?_⟩
  conv => whnf
  refine bneg (show decide ((f.1 : Int) = 0) = false by simp; omega) ?_
  conv => whnf
  refine ⟨i64 (by omega) (by omega), ?_⟩
  conv => whnf
  refine bpos (show decide ((64 : Int) < (f.1 : Int) - 1) = true by simp; omega) ?_
  conv => whnf
  exact ⟨rfl, Sub.refl _⟩
end Fp
end Go.Proofs.YtlhdliafjconmaaGreat
/- slices.SortFunc at an empty list; the program's Factor. -/
namespace Go.Proofs.YtlhdliafjconmaaGreat
open Go.RowKit Go.Sort
theorem len_zero : FnOK Tryz.prog false 74 [.c (.int .u64 0)] (.c (.int .i64 0)) := by
  refine ⟨by kernel_rfl, fun D w vs _ _ hargs => ?_⟩
  match vs, hargs with
  | [v0], ⟨e0, _⟩ =>
    obtain rfl : v0 = .int .u64 0 := e0
    have h := Any.bits_Len (SlLaysF0.n15.bits (P := Tryz.prog) (ρ := sortF_ren) { sortF with }) (0 : Int) w (by decide) (by decide)
    refine h.mono ?_
    rintro e w' ⟨rfl, rfl⟩
    exact ⟨_, rfl, rfl, Below.refl _ _⟩
set_option maxHeartbeats 4000000 in
theorem insert_zero {f : Nat → Nat → Cell} {g : Cell} (_ : g.clos = true) : FnOK Tryz.prog false 104 [.c (.row 2 0 f), .c (.int .i64 0), .c (.int .i64 0), .c g] (.c .any) := by
  refine fn_ok (E := E0) E0_ok Tryz.func104 rfl mixed (by kernel_rfl) (by kernel_rfl) ?_
  conv => whnf
  refine ⟨Fp.i64 (by decide) (by decide), ?_⟩
  conv => whnf
  refine loop_unroll 1 ?_
  conv => whnf
  exact ⟨rfl, fun _ _ _ _ => trivial⟩
set_option maxHeartbeats 4000000 in
theorem pdq_zero {f : Nat → Nat → Cell} {F : FuncId} : FnOK Tryz.prog false 73 [.c (.row 2 0 f), .c (.int .i64 0), .c (.int .i64 0), .c (.int .i64 0), .c (.fn F)] (.c .any) := by
  have k := insert_zero (f := f) (g := .fn F) rfl
  refine fn_ok (E := E0) E0_ok Tryz.func73 rfl mixed (by kernel_rfl) (by kernel_rfl) ?_
  conv => whnf
  refine loop_unroll 1 ?_
  conv => whnf
  refine ⟨Fp.i64 (by decide) (by decide), ?_⟩
  conv => whnf
  refine ⟨_, k, ?_⟩
  conv => whnf
  exact ⟨rfl, fun _ _ _ _ => trivial⟩
set_option maxHeartbeats 4000000 in
theorem sort_zero {f : Nat → Nat → Cell} {F : FuncId} : FnOK Tryz.prog false 31 [.c (.row 2 0 f), .c (.fn F)] (.c .any) := by
  have k := pdq_zero (f := f) (F := F)
  have k2 : FnOK Tryz.prog false 74 [.c (.int .u64 (IntKind.u64.wrap ((0 : Nat) : Int)))] (.c (.int .i64 0)) := len_zero
  refine fn_ok (E := E0) E0_ok Tryz.func31 rfl mixed (by kernel_rfl) (by kernel_rfl) ?_
  conv => whnf
  refine ⟨_, k2, ?_⟩
  conv => whnf
  refine ⟨_, k, ?_⟩
  conv => whnf
  exact ⟨rfl, fun _ _ _ _ => trivial⟩
theorem sub_int {a b : Int} (h : a = b) : Sub (.c (.int .i64 a)) (.c (.int .i64 b)) := by rw [h]; exact Sub.refl _
section
variable {p : Int} [hp : Prm p]
set_option maxHeartbeats 8000000 in
theorem Factor_walk {x : Fp.L} {f m : Pol (Zp p)} {l : List (Pol (Zp p) × Nat)} {L : List (Pol (Zp p) × Nat)} (hf : 0 < f.len) (hfl : f.len ≤ 65)
    (k0 : FnOK Tryz.prog true 28 [.c (.int .i64 p), Fp.cl x] (.t2 (pl f) (.c (.int .i64 0))))
    (k1 : FnOK Tryz.prog true 30 [.c (.int .i64 p), pl f] (pl m))
    (k2 : FnM Tryz.prog true 29 phB [.c (.int .i64 p), pl m, .c (.int .i64 1)] (.c (.gs 1 0)) phB [gb (fcB l)])
    (k3 : FnM Tryz.prog true 31 (gb (fcB l)) [.c (.gs 0 0), .c (.fn 32)] (.c .any) (gb (fcB L)) []) :
    FnOK Tryz.prog true 6 [.c (.int .i64 p), Fp.cl x] (.t3 (.c (.int .i64 (f.lead).v)) (.c (.row 2 L.length (fcs L))) (.c (.int .i64 0))) := by
  have hL : (ofP f).1 = f.len := rfl
  have he : (ofP f).2 (((ofP f).1 : Int) - 1).toNat = f.lead.v := by
    rw [show (((ofP f).1 : Int) - 1).toNat = f.len - 1 by omega]
    rfl
  refine fn_ok (E := E1) E1_ok Tryz.func6 rfl mixed (by kernel_rfl) (by kernel_rfl) ?_
  conv => whnf
  refine ⟨_, k0, ?_⟩
  conv => whnf
  refine ⟨_, k1, ?_⟩
  conv => whnf
  refine .inl ⟨[], true, ?_⟩
  conv => whnf
  refine ⟨0, phB, [.c (.int .i64 p), pl m, .c (.int .i64 1)], _, _, _, k2, rfl, .inr (Nat.le_refl 2), fun h => absurd h (by decide), fun h => absurd h (by decide), fun F' hF' => ?_, rfl, rfl, ?_⟩
  · simp at hF'; subst hF'; exact fun _ i j _ hj => fcs_clos l (i := i) hj
  conv => whnf
  refine .inl ⟨[], false, ?_⟩
  conv => whnf
  refine ⟨1, _, [.c (.gs 0 0), .c (.fn 32)], _, _, _, k3, rfl, .inl rfl, fun _ i j _ hj => fcs_clos l (i := i) hj, fun _ i j _ hj => fcs_clos L (i := i) hj, fun F hF => absurd hF List.not_mem_nil, rfl, rfl, ?_⟩
  conv => whnf
  refine ⟨Fp.i64 (by omega) (by omega), ?_⟩
  conv => whnf
  refine ⟨by omega, by show ((ofP f).1 : Int) - 1 < ((ofP f).1 : Int); omega, ?_⟩
  conv => whnf
  refine ⟨fun i j _ hj => fcs_clos L (i := i) hj, ?_⟩
  conv => whnf
  exact ⟨rfl, subT3 (sub_int he) (Sub.refl _) (Sub.refl _)⟩
set_option maxHeartbeats 8000000 in
theorem Factor_walk0 {x : Fp.L} {f m : Pol (Zp p)} (hf : 0 < f.len) (hfl : f.len ≤ 65)
    (k0 : FnOK Tryz.prog true 28 [.c (.int .i64 p), Fp.cl x] (.t2 (pl f) (.c (.int .i64 0))))
    (k1 : FnOK Tryz.prog true 30 [.c (.int .i64 p), pl f] (pl m))
    (k2 : FnOK Tryz.prog true 29 [.c (.int .i64 p), pl m, .c (.int .i64 1)] (.c (.row 2 0 (fcs ([] : List (Pol (Zp p) × Nat)))))) :
    FnOK Tryz.prog true 6 [.c (.int .i64 p), Fp.cl x] (.t3 (.c (.int .i64 (f.lead).v)) (.c (.row 2 0 (fcs ([] : List (Pol (Zp p) × Nat))))) (.c (.int .i64 0))) := by
  have hL : (ofP f).1 = f.len := rfl
  have k3 := (sort_zero (f := fcs ([] : List (Pol (Zp p) × Nat))) (F := 32)).weak (r := true)
  have he : (ofP f).2 (((ofP f).1 : Int) - 1).toNat = f.lead.v := by
    rw [show (((ofP f).1 : Int) - 1).toNat = f.len - 1 by omega]
    rfl
  refine fn_ok (E := E1) E1_ok Tryz.func6 rfl mixed (by kernel_rfl) (by kernel_rfl) ?_
  conv => whnf
  refine ⟨_, k0, ?_⟩
  conv => whnf
  refine ⟨_, k1, ?_⟩
  conv => whnf
  refine .inr ?_
  conv => whnf
  refine ⟨_, k2, ?_⟩
  conv => whnf
  refine .inr ?_
  conv => whnf
  refine ⟨_, k3, ?_⟩
  conv => whnf
  refine ⟨Fp.i64 (by omega) (by omega), ?_⟩
  conv => whnf
  refine ⟨by omega, by show ((ofP f).1 : Int) - 1 < ((ofP f).1 : Int); omega, ?_⟩
  conv => whnf
  exact ⟨rfl, subT3 (sub_int he) (Sub.refl _) (Sub.refl _)⟩
theorem FacL.perm {f : Pol (Zp p)} {t : Nat} {l l' : List (Pol (Zp p) × Nat)} (h : FacL f t l) (hp : l'.Perm l) : FacL f t l' :=
  ⟨fun c hc => h.all c (hp.mem_iff.1 hc), fun P a b c => hp.mem_iff.2 (h.mem P a b c), (hp.pairwise_iff fun h e => h e.symm).2 h.nd⟩
theorem FacL.assoc {f m : Pol (Zp p)} {t : Nat} {l : List (Pol (Zp p) × Nat)} (h : FacL m t l) (h0 : f ≠ 0) (m0 : m ≠ 0) (h1 : Pol.Dvs m f) (h2 : Pol.Dvs f m) : FacL f t l := by
  have hv : ∀ P, Pol.Irr P → val P m = val P f := fun P hP => Nat.le_antisymm (val_le hP h0 h1) (val_le hP m0 h2)
  refine ⟨fun c hc => ?_, fun P a b c => ?_, h.nd⟩
  · obtain ⟨a1, a2, a3, a4⟩ := h.all c hc
    exact ⟨a1, a2, a3.trans h1, by rw [a4, hv _ a1]⟩
  · have := h.mem P a b (c.trans h2)
    rwa [hv P a] at this
/-- A factorization: in order. -/
structure FacS (f : Pol (Zp p)) (L : List (Pol (Zp p) × Nat)) : Prop where
  f : FacL f 1 L
  s : L.Pairwise fun a b => cmpP a.1 b.1 < 0
theorem pairwise_and {α : Type} {R S : α → α → Prop} {l : List α} (h : l.Pairwise R) (k : l.Pairwise S) : l.Pairwise fun a b => R a b ∧ S a b := by
  induction l with
  | nil => exact List.Pairwise.nil
  | cons a l ih =>
    rw [List.pairwise_cons] at h k ⊢
    exact ⟨fun b hb => ⟨h.1 b hb, k.1 b hb⟩, ih h.2 k.2⟩
/-- **Factor.** -/
theorem Factor_P (hm : Fp.md p) {x : Fp.L} {f : Pol (Zp p)} (hx : x.1 ≤ 4096) (ex : Fp.nfL p x = ofP f) (h0 : f ≠ 0) (hl : f.len ≤ 65) : ∃ L, FacS f L ∧ L.length ≤ 64 ∧ FnOK Tryz.prog true 6 [.c (.int .i64 p), Fp.cl x] (.t3 (.c (.int .i64 (f.lead).v)) (.c (.row 2 L.length (fcs L))) (.c (.int .i64 0))) := by
  have hp0 := Pol.len_pos h0
  have k0 := (Fp.prepare_in hm hx ex (show 0 < f.len from hp0) (show f.len ≤ 65 from hl)).weak (r := true)
  obtain ⟨m, e1, e2, e3, e4, e5⟩ := mo_of hm h0 (by omega)
  have m0 : m ≠ 0 := Pol.ne_of_len (by omega)
  have k1 : FnOK Tryz.prog true 30 [.c (.int .i64 p), pl f] (pl m) := by
    have := (Fp.monic_L hm (ofP_NL f (by omega))).weak (r := true)
    rw [e1] at this
    exact this
  obtain ⟨l, l1, l2, l3⟩ := fac_P hm m.len (f := m) (t := 1) (Nat.le_refl _) m0 e2 (by omega) (by omega)
  have l4 := l1.assoc h0 m0 e3 e4
  by_cases hl0 : l.length = 0
  · obtain rfl : l = [] := List.length_eq_zero_iff.1 hl0
    exact ⟨[], ⟨l4, List.Pairwise.nil⟩, Nat.zero_le _, Factor_walk0 hp0 hl k0 k1 (l3.shut (fun i j _ hj => fcs_clos [] (i := i) hj) rfl)⟩
  · have hl1 : 0 < l.length := by omega
    have ks := sort_m (l := l) hl1 (by omega) (fun c hc => by
      have := (l4.all c hc).2.2.1.len h0
      omega) (r := true)
    have hperm := srtL_perm l hl1
    have l5 := l4.perm hperm
    refine ⟨srtL l hl1, ⟨l5, ?_⟩, by rw [srtL_len]; omega, Factor_walk hp0 hl k0 k1 l3 ks⟩
    refine (pairwise_and (srtL_sorted l hl1) l5.nd).imp fun {a b} h => ?_
    have h1 : cmpP b.1 a.1 = -cmpP a.1 b.1 := cmpV_neg _ _ _ _
    have h2 : cmpP a.1 b.1 ≠ 0 := fun e => h.2 (cmpP_zero e)
    have h3 := h.1
    omega
end
/-- Errors. -/
theorem Factor_err {p : Int} {x : Fp.L} {e : Int} (k0 : FnOK Tryz.prog true 28 [.c (.int .i64 p), Fp.cl x] (.t2 (.c .nil) (.c (.int .i64 e)))) (he : e ≠ 0) : FnOK Tryz.prog true 6 [.c (.int .i64 p), Fp.cl x] (.t3 (.c (.int .i64 0)) (.c .nil) (.c (.int .i64 e))) := by
  refine fn_ok (E := E1) E1_ok Tryz.func6 rfl mixed (by kernel_rfl) (by kernel_rfl) ?_
  conv => whnf
  refine ⟨_, k0, ?_⟩
  conv => whnf
  refine bpos (show (!decide (e = 0)) = true by rw [decide_eq_false he]; rfl) ?_
  conv => whnf
  exact ⟨rfl, Sub.refl _⟩
end Go.Proofs.YtlhdliafjconmaaGreat
/- Factorizations are the only ones. -/
namespace Go.Proofs.YtlhdliafjconmaaGreat
open Go.RowKit
theorem md_prm {p : Int} (hm : Fp.md p) : Prm p := prm_of hm
section
variable {p : Int} [hp : Prm p]
theorem irr_two {P : Pol (Zp p)} (h : P.len = 2) : Pol.Irr P := by
  refine ⟨by omega, fun a b e => ?_⟩
  have hP : P ≠ 0 := Pol.ne_of_len (by omega)
  have ha : a ≠ 0 := fun e1 => hP (by rw [e, e1, Crg.zero_mul])
  have hb : b ≠ 0 := fun e1 => hP (by rw [e, e1, Crg.mul_zero])
  have h1 := Pol.len_mul ha hb
  rw [← e] at h1
  have := Pol.len_pos ha
  have := Pol.len_pos hb
  omega
/-- A product of different monic irreducible polynomials. -/
theorem FacL.of_prod {f : Pol (Zp p)} {l : List (Pol (Zp p) × Nat)} (h0 : f ≠ 0) (h : ∀ c ∈ l, Pol.Irr c.1 ∧ c.1.lead = 1 ∧ 1 ≤ c.2) (hn : l.Pairwise fun a b => a.1 ≠ b.1) (h1 : Pol.Dvs f (prL l)) (h2 : Pol.Dvs (prL l) f) : FacL f 1 l := by
  have hne : prL l ≠ 0 := prL_ne fun c hc => (h c hc).1.ne
  have key : ∀ {P : Pol (Zp p)}, Pol.Irr P → P.lead = 1 → (∀ e, (P, e) ∈ l → val P (prL l) = e) ∧ ((∀ e, (P, e) ∉ l) → val P (prL l) = 0) := fun hP lP => prL_val hP lP (fun c hc => ⟨(h c hc).1, (h c hc).2.1⟩) hn
  have hv : ∀ P, Pol.Irr P → val P f = val P (prL l) := fun P hP => Nat.le_antisymm (val_le hP hne h1) (val_le hP h0 h2)
  refine ⟨fun c hc => ?_, fun P hP lP dP => ?_, hn⟩
  · obtain ⟨a1, a2, a3⟩ := h c hc
    have e := (key a1 a2).1 c.2 hc
    refine ⟨a1, a2, (val_pos a1 h0).2 ?_, ?_⟩
    · rw [hv _ a1, e]; exact a3
    · rw [hv _ a1, e, Nat.one_mul]
  · have h3 := (val_pos hP h0).1 dP
    rw [hv P hP] at h3
    by_cases hx : ∃ e, (P, e) ∈ l
    · obtain ⟨e, he⟩ := hx
      have h4 := (key hP lP).1 e he
      rw [hv P hP, Nat.one_mul, h4]
      exact he
    · have h4 := (key hP lP).2 fun e he => hx ⟨e, he⟩
      omega
theorem cmpP_neg (a b : Pol (Zp p)) : cmpP b a = -cmpP a b := cmpV_neg _ _ _ _
theorem cmpP_tr {a b c : Pol (Zp p)} (h1 : cmpP a b < 0) (h2 : cmpP b c < 0) : cmpP a c < 0 := (cmpV_tr (Int.le_of_lt h1) (Int.le_of_lt h2)).2 (.inl h1)
/-- Two lists in order with the same members. -/
theorem sorted_eq : ∀ {l m : List (Pol (Zp p) × Nat)}, l.Pairwise (fun a b => cmpP a.1 b.1 < 0) → m.Pairwise (fun a b => cmpP a.1 b.1 < 0) → (∀ c, c ∈ l ↔ c ∈ m) → l = m
  | [], [], _, _, _ => rfl
  | [], b :: m, _, _, h => absurd ((h b).2 (by simp)) (by simp)
  | a :: l, [], _, _, h => absurd ((h a).1 (by simp)) (by simp)
  | a :: l, b :: m, h1, h2, h => by
    rw [List.pairwise_cons] at h1 h2
    have e : a = b := by
      rcases List.mem_cons.1 ((h a).1 (by simp)) with e | e
      · exact e
      · rcases List.mem_cons.1 ((h b).2 (by simp)) with e2 | e2
        · exact e2.symm
        · have h3 := h1.1 b e2
          have h4 := h2.1 a e
          have := cmpP_neg a.1 b.1
          omega
    subst e
    have irr : ∀ {x : Pol (Zp p)}, ¬ cmpP x x < 0 := fun {x} h => by have := cmpP_neg x x; omega
    have e2 : l = m := sorted_eq h1.2 h2.2 fun c => by
      constructor
      · intro hc
        rcases List.mem_cons.1 ((h c).1 (List.mem_cons_of_mem _ hc)) with e | e
        · subst e; exact absurd (h1.1 c hc) irr
        · exact e
      · intro hc
        rcases List.mem_cons.1 ((h c).2 (List.mem_cons_of_mem _ hc)) with e | e
        · subst e; exact absurd (h2.1 c hc) irr
        · exact e
    rw [e2]
theorem FacL.mem_iff {f : Pol (Zp p)} {l : List (Pol (Zp p) × Nat)} (h : FacL f 1 l) (c : Pol (Zp p) × Nat) : c ∈ l ↔ Pol.Irr c.1 ∧ c.1.lead = 1 ∧ Pol.Dvs c.1 f ∧ c.2 = 1 * val c.1 f := by
  refine ⟨h.all c, fun ⟨a1, a2, a3, a4⟩ => ?_⟩
  have := h.mem c.1 a1 a2 a3
  rwa [← a4] at this
theorem FacS.eq {f : Pol (Zp p)} {l m : List (Pol (Zp p) × Nat)} (h : FacS f l) (k : FacS f m) : l = m := sorted_eq h.s k.s fun c => by rw [h.f.mem_iff, k.f.mem_iff]
/-- The sum of the degrees. -/
theorem FacL.deg {f : Pol (Zp p)} {l : List (Pol (Zp p) × Nat)} (h : FacL f 1 l) (h0 : f ≠ 0) : f.len = (l.foldr (fun c s => c.2 * (c.1.len - 1) + s) 0) + 1 := by
  obtain ⟨M, lM, mM, g1, g2⟩ := monic_of h0
  have m0 : M ≠ 0 := Pol.ne_of_len (by have := Pol.len_pos h0; omega)
  have hM := (h.assoc m0 h0 g2 g1).prod m0 mM
  rw [← lM, hM]
  exact prL_len fun c hc => (h.all c hc).1.ne
end
end Go.Proofs.YtlhdliafjconmaaGreat
/- The document's Before, Same, next, first, Light, over polynomials; the program's Irreducible. -/
namespace Go.Proofs.YtlhdliafjconmaaGreat
open Go.RowKit
section
variable {p : Int} [hp : Prm p]
set_option maxHeartbeats 4000000 in
theorem before_ok {a b : Pol (Zp p)} (ha : a.len ≤ 4096) (_ : b.len ≤ 4096) : FnOK Tryz.prog false 36 [pl a, pl b] (.c (.bool (decide (cmpP a b < 0)))) := by
  by_cases hne : a.len = b.len
  · have hr : cmpP a b = cmpF (fun i => (a.f i).v) (fun i => (b.f i).v) a.len := by
      unfold cmpP cmpV
      rw [if_pos hne]
    have hL : (ofP a).1 = a.len := rfl
    refine fn_ok (E := E0) E0_ok Tryz.func36 rfl mixed (by kernel_rfl) (by kernel_rfl) ?_
    conv => whnf
    refine bneg (show (!decide ((a.len : Int) = (b.len : Int))) = false by rw [hne]; simp) ?_
    conv => whnf
    refine ⟨Fp.i64 (by omega) (by omega), ?_⟩
    conv => whnf
    refine loop_ints (fun k : Nat => gst [(0, pl a), (1, pl b), (5, .c (.int .i64 ((k : Int) - 1)))] []) (fun k => k) (fun k => k ≤ a.len ∧ cmpP a b = cmpF (fun i => (a.f i).v) (fun i => (b.f i).v) k) a.len rfl ?_ ⟨Nat.le_refl _, hr⟩ fun k hk => ?_
    · exact Weak.gen [] rfl trivial ⟨.inl ⟨_, _, rfl, rfl, fun _ _ _ _ => rfl⟩, .inl ⟨_, _, rfl, rfl, fun _ _ _ _ => rfl⟩, ⟨_, rfl, rfl⟩, trivial⟩
    obtain ⟨hk1, hk2⟩ := hk
    match k, hk1, hk2 with
    | 0, hk1, hk2 =>
      have h0 : cmpP a b = 0 := hk2
      conv => whnf
      exact ⟨rfl, Fp.subB (decide_eq_false (by omega)).symm⟩
    | k + 1, hk1, hk2 =>
      have ek : (((k + 1 : Nat) : Int) - 1).toNat = k := by omega
      by_cases e : (a.f k).v = (b.f k).v
      · have h1 : cmpP a b = cmpF (fun i => (a.f i).v) (fun i => (b.f i).v) k := by
          rw [hk2]
          conv => lhs; unfold cmpF
          rw [if_pos e]
        conv => whnf
        refine bpos (show decide ((0 : Int) ≤ ((k + 1 : Nat) : Int) - 1) = true from decide_eq_true (by omega)) ?_
        conv => whnf
        refine ⟨by omega, by show ((k + 1 : Nat) : Int) - 1 < (a.len : Int); omega, ?_⟩
        conv => whnf
        refine ⟨by omega, by show ((k + 1 : Nat) : Int) - 1 < (b.len : Int); omega, ?_⟩
        conv => whnf
        refine bneg (show (!decide ((a.f (((k + 1 : Nat) : Int) - 1).toNat).v = (b.f (((k + 1 : Nat) : Int) - 1).toNat).v)) = false by rw [ek, decide_eq_true e]; rfl) ?_
        conv => whnf
        refine ⟨Fp.i64 (by omega) (by omega), ?_⟩
        conv => whnf
        exact ⟨k, by omega, Weak.gen [] rfl trivial ⟨.inl ⟨_, _, rfl, rfl, fun _ _ _ _ => rfl⟩, .inl ⟨_, _, rfl, rfl, fun _ _ _ _ => rfl⟩, ⟨_, rfl, by omega⟩, trivial⟩, by omega, h1⟩
      · have h1 : decide ((a.f (((k + 1 : Nat) : Int) - 1).toNat).v < (b.f (((k + 1 : Nat) : Int) - 1).toNat).v) = decide (cmpP a b < 0) := by
          rw [ek, hk2]
          unfold cmpF
          rw [if_neg e]
          exact decide_eq_decide.2 cI_lt.symm
        conv => whnf
        refine bpos (show decide ((0 : Int) ≤ ((k + 1 : Nat) : Int) - 1) = true from decide_eq_true (by omega)) ?_
        conv => whnf
        refine ⟨by omega, by show ((k + 1 : Nat) : Int) - 1 < (a.len : Int); omega, ?_⟩
        conv => whnf
        refine ⟨by omega, by show ((k + 1 : Nat) : Int) - 1 < (b.len : Int); omega, ?_⟩
        conv => whnf
        refine bpos (show (!decide ((a.f (((k + 1 : Nat) : Int) - 1).toNat).v = (b.f (((k + 1 : Nat) : Int) - 1).toNat).v)) = true by rw [ek, decide_eq_false e]; rfl) ?_
        conv => whnf
        refine ⟨by omega, by show ((k + 1 : Nat) : Int) - 1 < (a.len : Int); omega, ?_⟩
        conv => whnf
        refine ⟨by omega, by show ((k + 1 : Nat) : Int) - 1 < (b.len : Int); omega, ?_⟩
        conv => whnf
        exact ⟨rfl, Fp.subB h1⟩
  · have hr : decide ((a.len : Int) < (b.len : Int)) = decide (cmpP a b < 0) := by
      unfold cmpP cmpV
      rw [if_neg hne]
      exact decide_eq_decide.2 (by rw [cI_lt])
    refine fn_ok (E := E0) E0_ok Tryz.func36 rfl mixed (by kernel_rfl) (by kernel_rfl) ?_
    conv => whnf
    refine bpos (show (!decide ((a.len : Int) = (b.len : Int))) = true by rw [decide_eq_false (by omega)]; rfl) ?_
    conv => whnf
    exact ⟨rfl, Fp.subB hr⟩
set_option maxHeartbeats 4000000 in
theorem sameP_no {a b : Pol (Zp p)} (ha : a.len ≤ 4096) (_ : b.len ≤ 4096) (h : a ≠ b) : FnOK Tryz.prog false 38 [pl a, pl b] (.c (.bool false)) := by
  by_cases hne : a.len = b.len
  · have hL : (ofP a).1 = a.len := rfl
    refine fn_ok (E := E0) E0_ok Tryz.func38 rfl mixed (by kernel_rfl) (by kernel_rfl) ?_
    conv => whnf
    refine bneg (show (!decide ((a.len : Int) = (b.len : Int))) = false by rw [hne]; simp) ?_
    conv => whnf
    refine loop_ints (fun k : Nat => gst [(0, pl a), (1, pl b), (5, .c (.int .i64 k))] []) (fun k => a.len - k) (fun k => k ≤ a.len ∧ ∀ i, i < k → a.f i = b.f i) 0 rfl ?_ ⟨Nat.zero_le _, fun i hi => absurd hi (Nat.not_lt_zero i)⟩ fun k hk => ?_
    · exact Weak.gen [] rfl trivial ⟨.inl ⟨_, _, rfl, rfl, fun _ _ _ _ => rfl⟩, .inl ⟨_, _, rfl, rfl, fun _ _ _ _ => rfl⟩, ⟨_, rfl, rfl⟩, trivial⟩
    obtain ⟨hk1, hk2⟩ := hk
    have hlt : k < a.len := by
      rcases Nat.lt_or_ge k a.len with h1 | h1
      · exact h1
      · refine absurd (Pol.ext fun i => ?_) h
        rcases Nat.lt_or_ge i k with h2 | h2
        · exact hk2 i h2
        · rw [Pol.len_out a i (by omega), Pol.len_out b i (by omega)]
    by_cases e : (a.f k).v = (b.f k).v
    · conv => whnf
      refine bpos (show decide ((k : Int) < (a.len : Int)) = true from decide_eq_true (by omega)) ?_
      conv => whnf
      refine ⟨by omega, by show (k : Int) < (a.len : Int); omega, ?_⟩
      conv => whnf
      refine ⟨by omega, by show (k : Int) < (b.len : Int); omega, ?_⟩
      conv => whnf
      refine bneg (show (!decide ((a.f k).v = (b.f k).v)) = false by rw [decide_eq_true e]; rfl) ?_
      conv => whnf
      refine ⟨Fp.i64 (by omega) (by omega), ?_⟩
      conv => whnf
      refine ⟨k + 1, by omega, Weak.gen [] rfl trivial ⟨.inl ⟨_, _, rfl, rfl, fun _ _ _ _ => rfl⟩, .inl ⟨_, _, rfl, rfl, fun _ _ _ _ => rfl⟩, ⟨_, rfl, rfl⟩, trivial⟩, by omega, fun i hi => ?_⟩
      rcases Nat.lt_or_ge i k with h2 | h2
      · exact hk2 i h2
      · rw [show i = k by omega]; exact Zp.ext e
    · conv => whnf
      refine bpos (show decide ((k : Int) < (a.len : Int)) = true from decide_eq_true (by omega)) ?_
      conv => whnf
      refine ⟨by omega, by show (k : Int) < (a.len : Int); omega, ?_⟩
      conv => whnf
      refine ⟨by omega, by show (k : Int) < (b.len : Int); omega, ?_⟩
      conv => whnf
      refine bpos (show (!decide ((a.f k).v = (b.f k).v)) = true by rw [decide_eq_false e]; rfl) ?_
      conv => whnf
      exact ⟨rfl, Sub.refl _⟩
  · refine fn_ok (E := E0) E0_ok Tryz.func38 rfl mixed (by kernel_rfl) (by kernel_rfl) ?_
    conv => whnf
    refine bpos (show (!decide ((a.len : Int) = (b.len : Int))) = true by rw [decide_eq_false (by omega)]; rfl) ?_
    conv => whnf
    exact ⟨rfl, Sub.refl _⟩
set_option maxHeartbeats 4000000 in
theorem sameP_yes {n : Nat} {a : Nat → Int} (ha : n ≤ 4096) : FnOK Tryz.prog false 38 [.c (il n a), .c (il n a)] (.c (.bool true)) := by
  refine fn_ok (E := E0) E0_ok Tryz.func38 rfl mixed (by kernel_rfl) (by kernel_rfl) ?_
  conv => whnf
  refine bneg (show (!decide ((n : Int) = (n : Int))) = false by simp) ?_
  conv => whnf
  refine loop_ints (fun k : Nat => gst [(0, .c (il n a)), (1, .c (il n a)), (5, .c (.int .i64 k))] []) (fun k => n - k) (fun k => k ≤ n) 0 rfl ?_ (Nat.zero_le _) fun k hk => ?_
  · exact Weak.gen [] rfl trivial ⟨.inl ⟨_, _, rfl, rfl, fun _ _ _ _ => rfl⟩, .inl ⟨_, _, rfl, rfl, fun _ _ _ _ => rfl⟩, ⟨_, rfl, rfl⟩, trivial⟩
  conv => whnf
  refine bcase (fun (h : decide ((k : Int) < (n : Int)) = true) => ?_) fun (h : decide ((k : Int) < (n : Int)) = false) => ?_
  · have h := of_decide_eq_true h
    conv => whnf
    refine ⟨by omega, by show (k : Int) < (n : Int); omega, ?_⟩
    conv => whnf
    refine ⟨by omega, by show (k : Int) < (n : Int); omega, ?_⟩
    conv => whnf
    refine bneg (show (!decide (a (k : Int).toNat = a (k : Int).toNat)) = false by simp) ?_
    conv => whnf
    refine ⟨Fp.i64 (by omega) (by omega), ?_⟩
    conv => whnf
    exact ⟨k + 1, by omega, Weak.gen [] rfl trivial ⟨.inl ⟨_, _, rfl, rfl, fun _ _ _ _ => rfl⟩, .inl ⟨_, _, rfl, rfl, fun _ _ _ _ => rfl⟩, ⟨_, rfl, rfl⟩, trivial⟩, by omega⟩
  · conv => whnf
    exact ⟨rfl, Sub.refl _⟩
end
end Go.Proofs.YtlhdliafjconmaaGreat
/- The document's next, first, Light, over polynomials; the program's Irreducible. -/
namespace Go.Proofs.YtlhdliafjconmaaGreat
open Go.RowKit
theorem carry {q : Nat} (hq : 2 ≤ q) : ∀ (i j : Nat), (∀ k, k < i → j / q ^ k % q = q - 1) → j / q ^ i % q + 1 < q → ∀ k, (j + 1) / q ^ k % q = if k < i then 0 else if k = i then j / q ^ k % q + 1 else j / q ^ k % q
  | 0, j, _, h, k => by
    rw [Nat.pow_zero, Nat.div_one] at h
    have e := Nat.div_add_mod j q
    have e1 : (j + 1) % q = j % q + 1 := by
      conv => lhs; rw [← e, Nat.add_assoc, Nat.mul_add_mod_self_left]
      exact Nat.mod_eq_of_lt h
    have e2 : (j + 1) / q = j / q := by
      conv => lhs; rw [← e, Nat.add_assoc, Nat.mul_add_div (by omega), Nat.div_eq_of_lt h]
      rfl
    match k with
    | 0 => rw [if_neg (by omega), if_pos rfl, Nat.pow_zero, Nat.div_one, Nat.div_one]; exact e1
    | k + 1 =>
      rw [if_neg (by omega), if_neg (by omega), Nat.pow_succ, Nat.mul_comm, ← Nat.div_div_eq_div_mul, ← Nat.div_div_eq_div_mul, e2]
  | i + 1, j, h0, h, k => by
    have e := Nat.div_add_mod j q
    have h1 : j % q = q - 1 := by have := h0 0 (by omega); rwa [Nat.pow_zero, Nat.div_one] at this
    have e1 : j + 1 = q * (j / q + 1) := by rw [Nat.mul_add]; omega
    have e2 : (j + 1) / q = j / q + 1 := by rw [e1]; exact Nat.mul_div_cancel_left _ (by omega)
    have sh : ∀ x k : Nat, x / q ^ (k + 1) = x / q / q ^ k := fun x k => by rw [Nat.pow_succ, Nat.mul_comm, ← Nat.div_div_eq_div_mul]
    match k with
    | 0 => rw [if_pos (by omega), Nat.pow_zero, Nat.div_one, e1]; exact Nat.mul_mod_right _ _
    | k + 1 =>
      rw [sh, e2, carry hq i (j / q) (fun k hk => by rw [← sh]; exact h0 (k + 1) (by omega)) (by rw [← sh]; exact h) k, sh]
      by_cases c : k < i
      · rw [if_pos c, if_pos (show k + 1 < i + 1 by omega)]
      · rw [if_neg c, if_neg (show ¬ k + 1 < i + 1 by omega)]
        by_cases c2 : k = i
        · rw [if_pos c2, if_pos (show k + 1 = i + 1 by omega)]
        · rw [if_neg c2, if_neg (show ¬ k + 1 = i + 1 by omega)]
theorem all_top {q : Nat} (hq : 2 ≤ q) : ∀ (n j : Nat), j < q ^ n → (∀ k, k < n → j / q ^ k % q = q - 1) → j + 1 = q ^ n
  | 0, j, h, _ => by rw [Nat.pow_zero] at h ⊢; omega
  | n + 1, j, h, h0 => by
    have e := Nat.div_add_mod j q
    have h1 : j % q = q - 1 := by have := h0 0 (by omega); rwa [Nat.pow_zero, Nat.div_one] at this
    have sh : ∀ x k : Nat, x / q ^ (k + 1) = x / q / q ^ k := fun x k => by rw [Nat.pow_succ, Nat.mul_comm, ← Nat.div_div_eq_div_mul]
    have h2 : j / q < q ^ n := by rw [Nat.pow_succ, Nat.mul_comm] at h; exact Nat.div_lt_of_lt_mul h
    have h3 := all_top hq n (j / q) h2 fun k hk => by rw [← sh]; exact h0 (k + 1) (by omega)
    rw [Nat.pow_succ, ← h3, Nat.mul_comm, Nat.mul_add]
    omega
section
variable {p : Int} [hp : Prm p]
/-- The monic polynomial of degree n and of the number j. -/
noncomputable def mnp (n j : Nat) : Pol (Zp p) := ⟨fun i => if i < n then Zp.red ((j / p.toNat ^ i % p.toNat : Nat) : Int) else if i = n then 1 else 0, n + 1, fun k hk => by rw [if_neg (by omega), if_neg (by omega)]⟩
theorem mnp_len (n j : Nat) : (mnp n j : Pol (Zp p)).len = n + 1 := Pol.len_eq (fun k hk => by show (if k < n then _ else if k = n then _ else _) = _; rw [if_neg (by omega), if_neg (by omega)]) (by
  show (if n < n then _ else if n = n then (1 : Zp p) else 0) ≠ 0
  rw [if_neg (Nat.lt_irrefl n), if_pos rfl]
  exact Fld.one_ne)
theorem mnp_lead (n j : Nat) : (mnp n j : Pol (Zp p)).lead = 1 := by
  unfold Pol.lead
  rw [mnp_len]
  show (if n < n then _ else if n = n then (1 : Zp p) else 0) = 1
  rw [if_neg (Nat.lt_irrefl n), if_pos rfl]
theorem mnp_v {n j i : Nat} (h : i < n) : ((mnp n j : Pol (Zp p)).f i).v = ((j / p.toNat ^ i % p.toNat : Nat) : Int) := by
  show (if i < n then Zp.red ((j / p.toNat ^ i % p.toNat : Nat) : Int) else if i = n then (1 : Zp p) else 0).v = _
  rw [if_pos h]
  have h2 := hp.two
  have : j / p.toNat ^ i % p.toNat < p.toNat := Nat.mod_lt _ (by omega)
  exact Int.emod_eq_of_lt (by omega) (by omega)
theorem mnp_top (n j : Nat) : ((mnp n j : Pol (Zp p)).f n).v = 1 := by
  show (if n < n then _ else if n = n then (1 : Zp p) else 0).v = 1
  rw [if_neg (Nat.lt_irrefl n), if_pos rfl]
  exact Int.emod_eq_of_lt (by omega) (by have := hp.two; omega)
/-- Every monic polynomial has a number. -/
theorem mnp_ex {n : Nat} {a : Pol (Zp p)} (hl : a.len = n + 1) (h1 : a.lead = 1) : ∃ j, j < p.toNat ^ n ∧ a = mnp n j := by
  refine ⟨cdp a n, cdp_lt a n, Pol.ext fun i => ?_⟩
  show a.f i = if i < n then Zp.red ((cdp a n / p.toNat ^ i % p.toNat : Nat) : Int) else if i = n then 1 else 0
  by_cases c : i < n
  · rw [if_pos c, cdp_dig a c, show (((a.f i).v.toNat : Nat) : Int) = (a.f i).v by have := (a.f i).r; omega, Zp.red_v]
  · rw [if_neg c]
    by_cases c2 : i = n
    · rw [if_pos c2, c2, ← h1]; exact (lead_f hl)
    · rw [if_neg c2]; exact Pol.len_out a i (by omega)
theorem updC {f : Nat → Int} {v : Int} {k i y : Nat} (hy : y < 1) : (updF (fun i _ => .int .i64 (f i)) k 0 [.int .i64 v] i y).clos = true := by
  obtain rfl : y = 0 := by omega
  unfold updF
  split
  · rfl
  · rfl
theorem updI' {f g : Nat → Int} {k j y : Nat} {v : Int} (h : (if j = k then v else f j) = g j) (hy : y < 1) : updF (fun i _ => .int .i64 (f i)) k 0 [.int .i64 v] j y = .int .i64 (g j) := by
  obtain rfl : y = 0 := by omega
  exact updI h
theorem low_top {q : Nat} (hq : 2 ≤ q) : ∀ (n j : Nat), j + 1 = q ^ n → ∀ k, k < n → j / q ^ k % q = q - 1
  | 0, _, _, k, hk => absurd hk (Nat.not_lt_zero k)
  | n + 1, j, h, k, hk => by
    have sh : ∀ x k : Nat, x / q ^ (k + 1) = x / q / q ^ k := fun x k => by rw [Nat.pow_succ, Nat.mul_comm, ← Nat.div_div_eq_div_mul]
    have h0 : 0 < q ^ n := Nat.pow_pos (by omega)
    have e : j = q * (q ^ n - 1) + (q - 1) := by
      have e1 : q * (q ^ n - 1) = q * q ^ n - q := by rw [Nat.mul_sub_one]
      have e2 : q ≤ q * q ^ n := Nat.le_mul_of_pos_right _ h0
      rw [Nat.pow_succ, Nat.mul_comm] at h
      omega
    have e1 : j % q = q - 1 := by rw [e, Nat.mul_add_mod_self_left]; exact Nat.mod_eq_of_lt (by omega)
    have e2 : j / q = q ^ n - 1 := by rw [e, Nat.mul_add_div (by omega), Nat.div_eq_of_lt (by omega)]; rfl
    match k with
    | 0 => rw [Nat.pow_zero, Nat.div_one]; exact e1
    | k + 1 => rw [sh, e2]; exact low_top hq n (q ^ n - 1) (by omega) k (by omega)
/-- The list of places while next goes up: i of them are 0. -/
noncomputable def nxF (n j i : Nat) : Nat → Int := fun k => if k < i then 0 else ((mnp n j : Pol (Zp p)).f k).v
set_option maxHeartbeats 4000000 in
theorem next_yes (hm : Fp.md p) {n j : Nat} (hn : n ≤ 64) (hj : j < p.toNat ^ n) (h : j + 1 < p.toNat ^ n) : FnOK Tryz.prog false 42 [.c (.int .i64 p), pl (mnp n j : Pol (Zp p))] (.t2 (pl (mnp n (j + 1) : Pol (Zp p))) (.c (.bool true))) := by
  have hm1 := hm.1
  have hm2 := hm.2.1
  have h2 := two_le (p := p)
  have hdig := fun k (hk : k < n) => mnp_v (p := p) (n := n) (j := j) hk
  have hq : (p.toNat : Int) = p := by omega
  have e0 : pl (mnp n j : Pol (Zp p)) = .c (il (n + 1) (nxF (p := p) n j 0)) := by
    have : (fun i => ((mnp n j : Pol (Zp p)).f i).v) = nxF (p := p) n j 0 := funext fun k => (if_neg (Nat.not_lt_zero k)).symm
    show V.c (il (mnp n j : Pol (Zp p)).len fun i => ((mnp n j : Pol (Zp p)).f i).v) = _
    rw [mnp_len, this]
  rw [e0]
  have hcar := fun i => carry h2 i j
  have htop := all_top h2 n j hj
  have hn1 : -9223372036854775808 ≤ ((n + 1 : Nat) : Int) - 1 := by omega
  have hn2 : ((n + 1 : Nat) : Int) - 1 < 9223372036854775808 := by omega
  have hfin : ¬ ∀ k, k < n → j / p.toNat ^ k % p.toNat = p.toNat - 1 := fun hx => by have := htop hx; omega
  refine fn_ok (E := E0) E0_ok Tryz.func42 rfl mixed (by kernel_rfl) (by kernel_rfl) ?_
  conv => whnf
  refine ⟨by show 0 + (n + 1) ≤ 16777216; omega, fun x y hx hy => ?_, ?_⟩
  · obtain rfl : y = 0 := by have h : y < 1 := hy
                             omega
    exact ⟨rfl, fun h => by cases h⟩
  conv => whnf
  refine loop_ints (fun i : Nat => gst [(0, .c (.int .i64 p)), (6, .c (.gs 0 0)), (7, .c (.int .i64 i))] [⟨3, 1, n + 1, fun k _ => .int .i64 (nxF (p := p) n j i k)⟩]) (fun i => n - i) (fun i => i ≤ n ∧ ∀ k, k < i → j / p.toNat ^ k % p.toNat = p.toNat - 1) 0 rfl ?_ ⟨Nat.zero_le _, fun k hk => absurd hk (Nat.not_lt_zero k)⟩ fun i hi => ?_
  · exact Weak.gen [some 0] rfl ⟨⟨_, rfl, rfl, rfl, Nat.zero_add _, rfl, fun i y hi hy => ⟨_, Fp.appF_zero (rowF 1 []) (fun i _ => .int .i64 (nxF (p := p) n j 0 i)) i y, rfl⟩⟩, trivial⟩ ⟨⟨_, rfl, rfl⟩, ⟨_, rfl, rfl, rfl⟩, ⟨_, rfl, rfl⟩, trivial⟩
  obtain ⟨hi1, hi2⟩ := hi
  rcases Nat.lt_or_ge i n with hlt | hlt
  · have hd := hdig i hlt
    have hnx : nxF (p := p) n j i i = ((j / p.toNat ^ i % p.toNat : Nat) : Int) := (if_neg (Nat.lt_irrefl i)).trans hd
    have hdl : j / p.toNat ^ i % p.toNat < p.toNat := Nat.mod_lt _ (by omega)
    have hr1 : -9223372036854775808 ≤ nxF (p := p) n j i i + 1 := by rw [hnx]; omega
    have hr2 : nxF (p := p) n j i i + 1 < 9223372036854775808 := by rw [hnx]; omega
    have hcar := hcar i hi2
    by_cases c : j / p.toNat ^ i % p.toNat + 1 < p.toNat
    · have hres : ∀ k, k < n + 1 → (if k = i then nxF (p := p) n j i i + 1 else nxF (p := p) n j i k) = ((mnp n (j + 1) : Pol (Zp p)).f k).v := fun k hk => by
        rcases Nat.lt_or_ge k n with h3 | h3
        · rw [mnp_v h3, hcar c k]
          by_cases e : k = i
          · rw [if_pos e, hnx, if_neg (show ¬ k < i by omega), if_pos e, e]; omega
          · rw [if_neg e]
            unfold nxF
            by_cases e2 : k < i
            · rw [if_pos e2, if_pos e2]; rfl
            · rw [if_neg e2, if_neg e2, if_neg e, mnp_v h3]
        · obtain rfl : k = n := by omega
          rw [if_neg (show ¬ k = i by omega), mnp_top]
          unfold nxF
          rw [if_neg (show ¬ k < i by omega), mnp_top]
      conv => whnf
      refine ⟨Fp.i64 hn1 hn2, ?_⟩
      conv => whnf
      refine bpos (show decide ((i : Int) < ((n + 1 : Nat) : Int) - 1) = true from decide_eq_true (by omega)) ?_
      conv => whnf
      refine ⟨by omega, by show (i : Int) < ((n + 1 : Nat) : Int); omega, ?_⟩
      conv => whnf
      refine ⟨Fp.i64 hr1 hr2, ?_⟩
      conv => whnf
      refine bpos (show decide (nxF (p := p) n j i (i : Int).toNat + 1 < p) = true from decide_eq_true (by rw [show (i : Int).toNat = i from rfl, hnx]; omega)) ?_
      conv => whnf
      refine ⟨by omega, by show (i : Int) < ((n + 1 : Nat) : Int); omega, ?_⟩
      conv => whnf
      refine ⟨Fp.i64 hr1 hr2, ?_⟩
      conv => whnf
      refine ⟨by omega, by show (i : Int) < ((n + 1 : Nat) : Int); omega, ?_⟩
      conv => whnf
      refine ⟨fun k y hk hy => updC hy, ?_⟩
      conv => whnf
      exact ⟨rfl, subT2 (subRowG (mnp_len n (j + 1)).symm fun k y hk hy => updI' (hres k (Nat.lt_of_lt_of_eq hk (mnp_len n (j + 1)))) hy) (Sub.refl _)⟩
    · conv => whnf
      refine ⟨Fp.i64 hn1 hn2, ?_⟩
      conv => whnf
      refine bpos (show decide ((i : Int) < ((n + 1 : Nat) : Int) - 1) = true from decide_eq_true (by omega)) ?_
      conv => whnf
      refine ⟨by omega, by show (i : Int) < ((n + 1 : Nat) : Int); omega, ?_⟩
      conv => whnf
      refine ⟨Fp.i64 hr1 hr2, ?_⟩
      conv => whnf
      refine bneg (show decide (nxF (p := p) n j i (i : Int).toNat + 1 < p) = false from decide_eq_false (by rw [show (i : Int).toNat = i from rfl, hnx]; omega)) ?_
      conv => whnf
      refine ⟨by omega, by show (i : Int) < ((n + 1 : Nat) : Int); omega, ?_⟩
      conv => whnf
      refine ⟨Fp.i64 (by omega) (by omega), ?_⟩
      conv => whnf
      refine ⟨i + 1, by omega, Weak.gen [some 0] rfl ⟨⟨_, rfl, rfl, rfl, rfl, rfl, fun k y hk hy => ⟨_, updI' (f := nxF (p := p) n j i) (g := nxF (p := p) n j (i + 1)) ?_ hy, rfl⟩⟩, trivial⟩ ⟨⟨_, rfl, rfl⟩, ⟨_, rfl, rfl, rfl⟩, ⟨_, rfl, rfl⟩, trivial⟩, by omega, fun k hk => ?_⟩
      · show (if k = (i : Int).toNat then 0 else nxF (p := p) n j i k) = nxF (p := p) n j (i + 1) k
        unfold nxF
        by_cases e : k = i
        · rw [if_pos (show k = (i : Int).toNat from e), if_pos (show k < i + 1 by omega)]
        · rw [if_neg (show ¬ k = (i : Int).toNat from e)]
          by_cases e2 : k < i
          · rw [if_pos e2, if_pos (show k < i + 1 by omega)]
          · rw [if_neg e2, if_neg (show ¬ k < i + 1 by omega)]
      · rcases Nat.lt_or_ge k i with h3 | h3
        · exact hi2 k h3
        · rw [show k = i by omega]; omega
  · obtain rfl : i = n := by omega
    have htop := htop hi2
    omega
set_option maxHeartbeats 4000000 in
theorem next_no (hm : Fp.md p) {n j : Nat} (hn : n ≤ 64) (hj : j < p.toNat ^ n) (h : j + 1 = p.toNat ^ n) : FnOK Tryz.prog false 42 [.c (.int .i64 p), pl (mnp n j : Pol (Zp p))] (.t2 (.c .nil) (.c (.bool false))) := by
  have hm1 := hm.1
  have hm2 := hm.2.1
  have h2 := two_le (p := p)
  have hdig := fun k (hk : k < n) => mnp_v (p := p) (n := n) (j := j) hk
  have hq : (p.toNat : Int) = p := by omega
  have e0 : pl (mnp n j : Pol (Zp p)) = .c (il (n + 1) (nxF (p := p) n j 0)) := by
    have : (fun i => ((mnp n j : Pol (Zp p)).f i).v) = nxF (p := p) n j 0 := funext fun k => (if_neg (Nat.not_lt_zero k)).symm
    show V.c (il (mnp n j : Pol (Zp p)).len fun i => ((mnp n j : Pol (Zp p)).f i).v) = _
    rw [mnp_len, this]
  rw [e0]
  have hcar := fun i => carry h2 i j
  have htop := all_top h2 n j hj
  have hn1 : -9223372036854775808 ≤ ((n + 1 : Nat) : Int) - 1 := by omega
  have hn2 : ((n + 1 : Nat) : Int) - 1 < 9223372036854775808 := by omega
  have hlow := low_top h2 n j h
  refine fn_ok (E := E0) E0_ok Tryz.func42 rfl mixed (by kernel_rfl) (by kernel_rfl) ?_
  conv => whnf
  refine ⟨by show 0 + (n + 1) ≤ 16777216; omega, fun x y hx hy => ?_, ?_⟩
  · obtain rfl : y = 0 := by have h : y < 1 := hy
                             omega
    exact ⟨rfl, fun h => by cases h⟩
  conv => whnf
  refine loop_ints (fun i : Nat => gst [(0, .c (.int .i64 p)), (6, .c (.gs 0 0)), (7, .c (.int .i64 i))] [⟨3, 1, n + 1, fun k _ => .int .i64 (nxF (p := p) n j i k)⟩]) (fun i => n - i) (fun i => i ≤ n ∧ ∀ k, k < i → j / p.toNat ^ k % p.toNat = p.toNat - 1) 0 rfl ?_ ⟨Nat.zero_le _, fun k hk => absurd hk (Nat.not_lt_zero k)⟩ fun i hi => ?_
  · exact Weak.gen [some 0] rfl ⟨⟨_, rfl, rfl, rfl, Nat.zero_add _, rfl, fun i y hi hy => ⟨_, Fp.appF_zero (rowF 1 []) (fun i _ => .int .i64 (nxF (p := p) n j 0 i)) i y, rfl⟩⟩, trivial⟩ ⟨⟨_, rfl, rfl⟩, ⟨_, rfl, rfl, rfl⟩, ⟨_, rfl, rfl⟩, trivial⟩
  obtain ⟨hi1, hi2⟩ := hi
  rcases Nat.lt_or_ge i n with hlt | hlt
  · have hd := hdig i hlt
    have hnx : nxF (p := p) n j i i = ((j / p.toNat ^ i % p.toNat : Nat) : Int) := (if_neg (Nat.lt_irrefl i)).trans hd
    have hdl : j / p.toNat ^ i % p.toNat < p.toNat := Nat.mod_lt _ (by omega)
    have hr1 : -9223372036854775808 ≤ nxF (p := p) n j i i + 1 := by rw [hnx]; omega
    have hr2 : nxF (p := p) n j i i + 1 < 9223372036854775808 := by rw [hnx]; omega
    have hcar := hcar i hi2
    have hlow := hlow i hlt
    by_cases c : j / p.toNat ^ i % p.toNat + 1 < p.toNat
    · omega
    · conv => whnf
      refine ⟨Fp.i64 hn1 hn2, ?_⟩
      conv => whnf
      refine bpos (show decide ((i : Int) < ((n + 1 : Nat) : Int) - 1) = true from decide_eq_true (by omega)) ?_
      conv => whnf
      refine ⟨by omega, by show (i : Int) < ((n + 1 : Nat) : Int); omega, ?_⟩
      conv => whnf
      refine ⟨Fp.i64 hr1 hr2, ?_⟩
      conv => whnf
      refine bneg (show decide (nxF (p := p) n j i (i : Int).toNat + 1 < p) = false from decide_eq_false (by rw [show (i : Int).toNat = i from rfl, hnx]; omega)) ?_
      conv => whnf
      refine ⟨by omega, by show (i : Int) < ((n + 1 : Nat) : Int); omega, ?_⟩
      conv => whnf
      refine ⟨Fp.i64 (by omega) (by omega), ?_⟩
      conv => whnf
      refine ⟨i + 1, by omega, Weak.gen [some 0] rfl ⟨⟨_, rfl, rfl, rfl, rfl, rfl, fun k y hk hy => ⟨_, updI' (f := nxF (p := p) n j i) (g := nxF (p := p) n j (i + 1)) ?_ hy, rfl⟩⟩, trivial⟩ ⟨⟨_, rfl, rfl⟩, ⟨_, rfl, rfl, rfl⟩, ⟨_, rfl, rfl⟩, trivial⟩, by omega, fun k hk => ?_⟩
      · show (if k = (i : Int).toNat then 0 else nxF (p := p) n j i k) = nxF (p := p) n j (i + 1) k
        unfold nxF
        by_cases e : k = i
        · rw [if_pos (show k = (i : Int).toNat from e), if_pos (show k < i + 1 by omega)]
        · rw [if_neg (show ¬ k = (i : Int).toNat from e)]
          by_cases e2 : k < i
          · rw [if_pos e2, if_pos (show k < i + 1 by omega)]
          · rw [if_neg e2, if_neg (show ¬ k < i + 1 by omega)]
      · rcases Nat.lt_or_ge k i with h3 | h3
        · exact hi2 k h3
        · rw [show k = i by omega]; omega
  · obtain rfl : i = n := by omega
    have htop := htop hi2
    conv => whnf
    refine ⟨Fp.i64 hn1 hn2, ?_⟩
    conv => whnf
    refine bneg (show decide ((i : Int) < ((i + 1 : Nat) : Int) - 1) = false from decide_eq_false (by omega)) ?_
    conv => whnf
    exact ⟨rfl, Sub.refl _⟩
end
end Go.Proofs.YtlhdliafjconmaaGreat
/- The document's first and Light, over polynomials; the program's Irreducible. -/
namespace Go.Proofs.YtlhdliafjconmaaGreat
open Go.RowKit
theorem first_cell {k i y : Nat} (hi : i < k + 1) (hy : y < 1) : appF k (zeroF [.int .i64 0]) (rowF 1 [.int .i64 1]) i y = .int .i64 (if i < k then 0 else 1) := by
  obtain rfl : y = 0 := by omega
  unfold appF
  by_cases h : i < k
  · rw [if_pos h, if_pos h]; rfl
  · rw [if_neg h, if_neg h, show i - k = 0 by omega]; rfl
section
variable {p : Int} [hp : Prm p]
set_option maxHeartbeats 4000000 in
theorem first_ok {n : Nat} (hn : n ≤ 64) : FnOK Tryz.prog false 40 [.c (.int .i64 n)] (pl (mnp n 0 : Pol (Zp p))) := by
  have hz : ∀ k, k < n + 1 → ((mnp n 0 : Pol (Zp p)).f k).v = if k < n then 0 else 1 := fun k hk => by
    rcases Nat.lt_or_ge k n with h | h
    · rw [mnp_v h, if_pos h, Nat.zero_div, Nat.zero_mod]; rfl
    · obtain rfl : k = n := by omega
      rw [mnp_top, if_neg (Nat.lt_irrefl k)]
  refine fn_ok (E := E0) E0_ok Tryz.func40 rfl mixed (by kernel_rfl) (by kernel_rfl) ?_
  conv => whnf
  refine ⟨by omega, by omega, by omega, by show (8 : Int) * (n : Int) ≤ 281474976710656; omega, ?_⟩
  conv => whnf
  refine ⟨by show (n : Int).toNat + 1 ≤ 16777216; omega, fun x y hx hy => ?_, ?_⟩
  · obtain rfl : x = 0 := by have h : x < 1 := hx
                             omega
    obtain rfl : y = 0 := by have h : y < 1 := hy
                             omega
    exact ⟨rfl, fun h => by cases h⟩
  conv => whnf
  refine ⟨fun i y hi hy => (congrArg Cell.clos (first_cell (k := n) hi hy)).trans rfl, ?_⟩
  conv => whnf
  exact ⟨rfl, subRowG (mnp_len n 0).symm fun i y hi hy => (first_cell (k := n) (Nat.lt_of_lt_of_eq hi (mnp_len n 0)) hy).trans (congrArg (Cell.int .i64) (hz i (Nat.lt_of_lt_of_eq hi (mnp_len n 0))).symm)⟩
set_option maxHeartbeats 4000000 in
theorem light_ok (hm : Fp.md p) {n : Nat} {a : Nat → Int} {F : Pol (Zp p)} (hn : n ≤ 4096) (eF : Fp.nfL p (n, a) = ofP F) (f0 : F ≠ 0) : FnOK Tryz.prog false 10 [.c (.int .i64 p), .c (il n a)] (.c (.bool (decide (p.toNat ^ ((F.len - 1) / 2) ≤ 3000)))) := by
  have hm1 := hm.1
  have hm2 := hm.2.1
  have lF : F.len ≤ n := by have := Fp.nfL_le p (n, a); rw [eF] at this; exact this
  have h0 := Pol.len_pos f0
  have h2 := two_le (p := p)
  have d1 := Fp.degree_ok (p := p) (n := n) (a := a) (by omega) hm2 (by omega)
  rw [show Fp.tl (Fp.nf p n a) n = F.len from congrArg Prod.fst eF] at d1
  obtain ⟨D, hD⟩ : ∃ D, D = (F.len - 1) / 2 := ⟨_, rfl⟩
  have hq : Int.tdiv ((F.len : Int) - 1) 2 = (D : Int) := by
    rw [Int.tdiv_eq_ediv_of_nonneg (by omega)]
    omega
  rw [← hD]
  generalize ((F.len : Nat) : Int) - 1 = dd at *
  refine fn_ok (E := E0) E0_ok Tryz.func10 rfl mixed (by kernel_rfl) (by kernel_rfl) ?_
  conv => whnf
  refine loop_ints (fun i : Nat => gst [(0, .c (.int .i64 p)), (1, .c (il n a)), (5, .c (.int .i64 ((p.toNat ^ i : Nat) : Int))), (6, .c (.int .i64 i))] []) (fun i => D - i) (fun i => i ≤ D ∧ p.toNat ^ i ≤ 3000) 0 rfl ?_ ⟨Nat.zero_le _, by rw [Nat.pow_zero]; decide⟩ fun i hi => ?_
  · exact Weak.gen [] rfl trivial ⟨⟨_, rfl, rfl⟩, .inl ⟨_, _, rfl, rfl, fun _ _ _ _ => rfl⟩, ⟨_, rfl, rfl⟩, ⟨_, rfl, rfl⟩, trivial⟩
  obtain ⟨hi1, hi2⟩ := hi
  have hs : ((p.toNat ^ i : Nat) : Int) * p = ((p.toNat ^ (i + 1) : Nat) : Int) := by
    rw [Nat.pow_succ, Int.natCast_mul, show ((p.toNat : Nat) : Int) = p by omega]
  have hb : p.toNat ^ (i + 1) ≤ 3000 * 65521 := by rw [Nat.pow_succ]; exact Nat.mul_le_mul hi2 (by omega)
  have hmono : i + 1 ≤ D → p.toNat ^ (i + 1) ≤ p.toNat ^ D := fun h => Nat.pow_le_pow_right (by omega) h
  have hb1 : -9223372036854775808 ≤ ((p.toNat ^ i : Nat) : Int) * p := by rw [hs]; omega
  have hb2 : ((p.toNat ^ i : Nat) : Int) * p < 9223372036854775808 := by rw [hs]; omega
  rcases Nat.lt_or_ge i D with h | h
  · have hmono := hmono h
    by_cases c : p.toNat ^ (i + 1) ≤ 3000
    · conv => whnf
      refine ⟨_, d1, ?_⟩
      conv => whnf
      refine ⟨by decide, Fp.i64 (by rw [hq]; omega) (by rw [hq]; omega), ?_⟩
      conv => whnf
      refine bpos (show decide ((i : Int) < Int.tdiv dd 2) = true from decide_eq_true (by rw [hq]; omega)) ?_
      conv => whnf
      refine ⟨Fp.i64 hb1 hb2, ?_⟩
      conv => whnf
      refine bneg (show decide ((3000 : Int) < ((p.toNat ^ i : Nat) : Int) * p) = false from decide_eq_false (by rw [hs]; omega)) ?_
      conv => whnf
      refine ⟨Fp.i64 (by omega) (by omega), ?_⟩
      conv => whnf
      exact ⟨i + 1, by omega, Weak.gen [] rfl trivial ⟨⟨_, rfl, rfl⟩, .inl ⟨_, _, rfl, rfl, fun _ _ _ _ => rfl⟩, ⟨_, rfl, hs⟩, ⟨_, rfl, rfl⟩, trivial⟩, by omega, c⟩
    · conv => whnf
      refine ⟨_, d1, ?_⟩
      conv => whnf
      refine ⟨by decide, Fp.i64 (by rw [hq]; omega) (by rw [hq]; omega), ?_⟩
      conv => whnf
      refine bpos (show decide ((i : Int) < Int.tdiv dd 2) = true from decide_eq_true (by rw [hq]; omega)) ?_
      conv => whnf
      refine ⟨Fp.i64 hb1 hb2, ?_⟩
      conv => whnf
      refine bpos (show decide ((3000 : Int) < ((p.toNat ^ i : Nat) : Int) * p) = true from decide_eq_true (by rw [hs]; omega)) ?_
      conv => whnf
      exact ⟨rfl, Fp.subB (decide_eq_false (by omega)).symm⟩
  · obtain rfl : i = D := by omega
    conv => whnf
    refine ⟨_, d1, ?_⟩
    conv => whnf
    refine ⟨by decide, Fp.i64 (by rw [hq]; omega) (by rw [hq]; omega), ?_⟩
    conv => whnf
    refine bneg (show decide ((i : Int) < Int.tdiv dd 2) = false from decide_eq_false (by rw [hq]; omega)) ?_
    conv => whnf
    exact ⟨rfl, Fp.subB (decide_eq_true hi2).symm⟩
/-- One factor, once. -/
def isI : List (Pol (Zp p) × Nat) → Bool
  | [c] => decide ((c.2 : Int) = 1)
  | _ => false
set_option maxHeartbeats 4000000 in
theorem irred_ok {x : Fp.L} {L : List (Pol (Zp p) × Nat)} {v : Int} (k : FnOK Tryz.prog true 6 [.c (.int .i64 p), Fp.cl x] (.t3 (.c (.int .i64 v)) (.c (.row 2 L.length (fcs L))) (.c (.int .i64 0)))) : FnOK Tryz.prog true 7 [.c (.int .i64 p), Fp.cl x] (.t2 (.c (.bool (isI L))) (.c (.int .i64 0))) := by
  by_cases h : L.length = 1
  · obtain ⟨c, rfl⟩ := List.length_eq_one_iff.1 h
    refine fn_ok (E := E1) E1_ok Tryz.func7 rfl mixed (by kernel_rfl) (by kernel_rfl) ?_
    conv => whnf
    refine ⟨_, k, ?_⟩
    conv => whnf
    refine ⟨by decide, by show (0 : Int) < 1; decide, ?_⟩
    conv => whnf
    exact ⟨rfl, Sub.refl _⟩
  · have e : isI L = false := by
      match L, h with
      | [], _ => rfl
      | [_], h => exact absurd rfl h
      | _ :: _ :: _, _ => rfl
    rw [e]
    refine fn_ok (E := E1) E1_ok Tryz.func7 rfl mixed (by kernel_rfl) (by kernel_rfl) ?_
    conv => whnf
    refine ⟨_, k, ?_⟩
    conv => whnf
    refine bneg (show gw true (decide ((L.length : Int) = 1)) = false by rw [decide_eq_false (by omega)]; rfl) ?_
    conv => whnf
    exact ⟨rfl, Sub.refl _⟩
end
theorem irred_err {p : Int} {x : Fp.L} {e : Int} (k : FnOK Tryz.prog true 6 [.c (.int .i64 p), Fp.cl x] (.t3 (.c (.int .i64 0)) (.c .nil) (.c (.int .i64 e)))) : FnOK Tryz.prog true 7 [.c (.int .i64 p), Fp.cl x] (.t2 (.c (.bool false)) (.c (.int .i64 e))) := by
  refine fn_ok (E := E1) E1_ok Tryz.func7 rfl mixed (by kernel_rfl) (by kernel_rfl) ?_
  conv => whnf
  refine ⟨_, k, ?_⟩
  conv => whnf
  exact ⟨rfl, Sub.refl _⟩
end Go.Proofs.YtlhdliafjconmaaGreat
/- What is read as data, in abstract words; the last step of a law's row. -/
namespace Go.Proofs.YtlhdliafjconmaaGreat
open Go.ChangeShapes Go.WideShapes Go.ChangeAt Go.RowKit
theorem lawOwn : ownKnob Tryz.prog.godebug = none := by kernel_rfl
theorem lawLaid : laidOutB Tryz.prog = true := by kernel_rfl
section
variable {H : Type} {enc : TypeId × Value → H} {P : Program}
/-- The end of a call that leaves old memory as it was. -/
theorem post_below {f : Func} {s : ChangeSpec} {apart fresh handsOn again : Bool} {W W' : World} {args : Array Value} {v : Value} {ds gs : List (DataW H)} {before pa pv : List MemPlace}
    (hW : DataW.Whole enc P f.params.toList s.vars apart W args.toList ds gs before)
    (hres : ∀ (b : Nat) (sp : Nat → Bool) (hd : Bool), DataW.TrodAll enc P W' b sp hd f.resultTypes.toList (v.resultList f.resultTypes.size) (s.fn H (ds ++ gs)).results [])
    (hargs : ∀ sp : Nat → Bool, (∀ p ∈ before, sp p.block = true) → DataW.TrodAll enc P W' 0 sp true f.params.toList args.toList (s.fn H (ds ++ gs)).args pa)
    (hvars : ∀ sp : Nat → Bool, (∀ p ∈ before, sp p.block = true) → DataW.TrodVars enc P W' sp s.vars (s.fn H (ds ++ gs)).vars pv)
    (hps : before = pa ++ pv) (hb : Below W.heap.size W W')
    (hok : ∀ (j : Nat) (t : TypeId) (r : Value), f.resultTypes[j]? = some t → (v.resultList f.resultTypes.size)[j]? = some r → Value.okWide P W' .any 0 t r) :
    s.post enc P f apart fresh handsOn again W args v W' := by
  have hlt : ∀ p ∈ before, p.block < W.heap.size := fun p hp => hW.lt p hp
  have hold : ∀ p ∈ before, (fun b => decide (b < W.heap.size)) p.block = true := fun p hp => by simpa using hlt p hp
  refine ⟨ds, gs, before, [], pa, pv, hW, hres _ _ _, hargs _ hold, hvars _ hold, World.keptBut_mono (fun p hp => ⟨hp, ?_⟩) (hb.frame (· ∈ before)), fun _ => ?_⟩
  · rw [hps, List.mem_append] at hp
    exact Or.inr hp
  · obtain ⟨_, _, _, _, _, hz, hn⟩ := hW
    refine ⟨hok, _, _, ([] ++ pa) ++ pv, ⟨[] ++ pa, pv, trodAll_append (hargs _ (fun _ _ => rfl)) (hres _ _ _), hvars _ (fun _ _ => rfl), rfl, ?_, ?_⟩, ?_⟩
    · intro b off hp
      have hin : MemPlace.cell b off ∈ before := by rw [hps]; simpa using hp
      rw [hb.frozen (hlt _ hin)]
      exact hz b off hin
    · intro ha
      have := hn ha
      rw [hps] at this
      simpa using this
    · intro p hp _
      rw [hps]
      simpa using hp
/-- What was read reads so behind a call that leaves it. -/
theorem Below.trodS {t : TypeId} (hl : laidOutB P = true) (hr : P.readableRec t = true) (hrow : t < P.types.size) {W W' : World} {sp : Nat → Bool} {v : Value} {d : DataW H} {ps : List MemPlace}
    (h : DataW.Trod enc P W 0 (fun _ => true) true t v d ps) (hb : Below W.heap.size W W') (hlt : ∀ x ∈ ps, x.block < W.heap.size) (hs : ∀ x ∈ ps, sp x.block = true) :
    DataW.Trod enc P W' 0 sp true t v d ps :=
  WideElems.Trod_stays hl hr hrow h (fun x hx => hb.same (hlt x hx)) hs
end
section
variable {H : Type} {enc : TypeId × Value → H} {P : Program} {w : World} {sp : Nat → Bool} {held : Bool}
/-- A slice of which nothing is asked but its length. -/
theorem cell_slice {t e sz fuel : Nat} {cs : List Value} {x : DataW H × List MemPlace} (ht : P.underlying t = some (.slice e)) (hk : P.cellsOf e = sz) (h0 : 0 < sz) (h : DataW.trod enc P w 0 sp held fuel t cs = some x) : ∃ v n, cs = [v] ∧ n ≤ maxLen ∧ CRel (fun _ => False) w [] (.row sz n fun _ _ => .any) v := by
  rcases DataW.trod_slice ht h with ⟨rfl, _⟩ | ⟨a, len, cap, elems, rest, n, _, rfl, _, _, hl, hm, hlen, hel, _⟩
  · exact ⟨_, 0, rfl, Nat.zero_le _, none, 0, rfl, Nat.le_refl _, fun h => absurd h (Nat.lt_irrefl 0)⟩
  · refine ⟨_, len, rfl, by omega, _, cap, rfl, hl, fun hn => ?_⟩
    have get : ∀ i, i < len → ∃ cs', w.cells? 0 (a.add (i * sz)) sz = some cs' := by
      intro i hi
      have := hel i hi
      rw [hk, List.getElem?_eq_getElem (by omega), Option.bind_eq_some_iff] at this
      obtain ⟨cs', h1, _⟩ := this
      exact ⟨cs', h1⟩
    obtain ⟨b, o, spt⟩ := a
    have hs : spt = none ∧ b < w.heap.size := by
      obtain ⟨cs', h1⟩ := get 0 hn
      obtain ⟨_, h2, h3⟩ := World.cells?_some h1
      have h4 := h3 0 h0
      rw [Nat.zero_mul, Addr.add, if_pos rfl, Addr.add, if_pos rfl, List.getElem?_eq_getElem (by omega)] at h4
      unfold World.cell? at h4
      split at h4
      · rename_i hh
        refine ⟨?_, (Array.getElem?_eq_some_iff.1 hh).1⟩
        split at h4
        · cases h4
        · rename_i hs; simpa using hs
      · cases h4
    obtain ⟨rfl, hb⟩ := hs
    refine ⟨b, o, rfl, hb, id, fun i j hi hj => ?_⟩
    obtain ⟨cs', h1⟩ := get i hi
    obtain ⟨_, h2, h3⟩ := World.cells?_some h1
    have h4 := h3 j hj
    rw [add_plain, add_plain, List.getElem?_eq_getElem (by omega)] at h4
    exact ⟨_, by rw [show o + (i * sz + j) = o + i * sz + j by omega]; exact h4, trivial⟩
theorem cell_int {t fuel : Nat} {k : IntKind} {cs : List Value} {x : DataW H × List MemPlace} (ht : P.underlying t = some (.int k)) (h : DataW.trod enc P w 0 sp held fuel t cs = some x) : ∃ n, cs = [.int k n] ∧ (Lit.int k n).wf = true := by
  obtain ⟨n, h1, _, h2⟩ := DataW.trod_int ht h
  exact ⟨n, h1, h2⟩
theorem okWide_agg {r : Reach} {b0 t : Nat} {fs : Array Field} {v : Value} (ht : P.underlying t = some (.struct fs)) (hval : Value.okWide P w r b0 t v) : ∃ cs, v = .agg cs := by
  simp only [Value.okWide, ht] at hval
  obtain ⟨cs, h, _⟩ := hval
  exact ⟨cs, h⟩
end
/-- A law's call, off a contract. -/
theorem law_call {r : Bool} {f : FuncId} {al : List V} (h : FnOK Tryz.prog r f al (.c (.bool true))) {w : World} {vs : List Value} (hv : VRels (fun _ => False) w [] al vs) : Calls Tryz.prog f vs.toArray w fun e w' => e = .returned (.bool true) ∧ Below w.heap.size w w' :=
  (h.2 (fun _ => False) w vs (fun b hb => hb.elim) (fun _ b o d hb => hb.elim) hv).mono fun _ _ ⟨v, he, hv, hb⟩ => ⟨by rw [he, show v = .bool true from hv], hb⟩
end Go.Proofs.YtlhdliafjconmaaGreat
/- The argument of the statements about polynomials modulo a prime, opened. -/
namespace Go.Proofs.YtlhdliafjconmaaGreat
open Go.ChangeShapes Go.WideShapes Go.ChangeAt Go.RowKit
namespace Fp
/-- The argument of the statements about polynomials modulo a prime. -/
abbrev PP (p : Int) (n m l q : Nat) (a c : Nat → Int) (s : Bool) (x : Int) : V := .g [.int .i64 p, il n a, il m c, .row 1 l fun _ _ => .any, .bool s, .row 1 q fun _ _ => .any, .int .i64 x]
end Fp
section
variable {H : Type} {enc : TypeId × Value → H} {P : Program} {w : World} {sp : Nat → Bool} {held : Bool}
/-- A slice of machine integers. -/
theorem cell_ints {t e fuel : Nat} {cs : List Value} {x : DataW H × List MemPlace} (ht : P.underlying t = some (.slice e)) (hk : P.cellsOf e = 1) (he : P.underlying e = some (.int .i64)) (h : DataW.trod enc P w 0 sp held fuel t cs = some x) : ∃ v n a, cs = [v] ∧ n ≤ maxLen ∧ CRel (fun _ => False) w [] (il n a) v := by
  rcases DataW.trod_slice ht h with ⟨rfl, _⟩ | ⟨a, len, cap, elems, rest, n, _, rfl, _, _, hl, hm, hlen, hel, _⟩
  · exact ⟨_, 0, fun _ => 0, rfl, Nat.zero_le _, none, 0, rfl, Nat.le_refl _, fun h => absurd h (Nat.lt_irrefl 0)⟩
  · have get : ∀ i, i < len → ∃ k, w.cells? 0 (a.add (i * 1)) 1 = some [.int .i64 k] := by
      intro i hi
      have := hel i hi
      rw [hk, List.getElem?_eq_getElem (by omega), Option.bind_eq_some_iff] at this
      obtain ⟨cs', h1, h2⟩ := this
      obtain ⟨k, e1, _⟩ := cell_int he h2
      exact ⟨k, by rw [h1, e1]⟩
    obtain ⟨f, get'⟩ : ∃ f : Nat → Int, ∀ i, i < len → w.cells? 0 (a.add (i * 1)) 1 = some [.int .i64 (f i)] :=
      ⟨fun i => if h : i < len then (get i h).choose else 0, fun i hi => by
        show w.cells? 0 (a.add (i * 1)) 1 = some [.int .i64 (if h : i < len then (get i h).choose else 0)]
        rw [dif_pos hi]; exact (get i hi).choose_spec⟩
    refine ⟨_, len, f, rfl, by omega, _, cap, rfl, hl, fun hn => ?_⟩
    obtain ⟨b, o, spt⟩ := a
    have hs : spt = none ∧ b < w.heap.size := by
      obtain ⟨_, h2, h3⟩ := World.cells?_some (get' 0 hn)
      have h4 := h3 0 (by decide)
      rw [Nat.zero_mul, Addr.add, if_pos rfl, Addr.add, if_pos rfl, List.getElem?_eq_getElem (by simp)] at h4
      unfold World.cell? at h4
      split at h4
      · rename_i hh
        refine ⟨?_, (Array.getElem?_eq_some_iff.1 hh).1⟩
        split at h4
        · cases h4
        · rename_i hs; simpa using hs
      · cases h4
    obtain ⟨rfl, hb⟩ := hs
    refine ⟨b, o, rfl, hb, id, fun i j hi hj => ?_⟩
    obtain rfl : j = 0 := by omega
    obtain ⟨_, h2, h3⟩ := World.cells?_some (get' i hi)
    have h4 := h3 0 (by decide)
    rw [add_plain, add_plain, List.getElem?_eq_getElem (by simp)] at h4
    exact ⟨_, by rw [show o + (i * 1 + 0) = o + i * 1 + 0 by omega]; exact h4, rfl⟩
theorem trod_struct2 {t : TypeId} {f0 f1 : Field} {fuel : Nat} {cs : List Value} {x : DataW H × List MemPlace} (ht : P.underlying t = some (.struct #[f0, f1])) (h : DataW.trod enc P w 0 sp held fuel t cs = some x) :
    ∃ y0 y1 n, cs.length = P.cellsOf t ∧ DataW.trod enc P w 0 sp held n f0.type ((cs.drop f0.offset).take (P.cellsOf f0.type)) = some y0 ∧ DataW.trod enc P w 0 sp held n f1.type ((cs.drop f1.offset).take (P.cellsOf f1.type)) = some y1 := by
  obtain ⟨xs, n, _, rfl, hl, hlen, hf⟩ := DataW.trod_struct ht h
  match xs, hlen with
  | [y0, y1], _ => exact ⟨y0, y1, n, hl, by simpa using hf 0 f0 rfl, by simpa using hf 1 f1 rfl⟩
theorem trod_struct6 {t : TypeId} {f0 f1 f2 f3 f4 f5 : Field} {fuel : Nat} {cs : List Value} {x : DataW H × List MemPlace} (ht : P.underlying t = some (.struct #[f0, f1, f2, f3, f4, f5])) (h : DataW.trod enc P w 0 sp held fuel t cs = some x) :
    ∃ y0 y1 y2 y3 y4 y5 n, cs.length = P.cellsOf t ∧ DataW.trod enc P w 0 sp held n f0.type ((cs.drop f0.offset).take (P.cellsOf f0.type)) = some y0 ∧ DataW.trod enc P w 0 sp held n f1.type ((cs.drop f1.offset).take (P.cellsOf f1.type)) = some y1 ∧ DataW.trod enc P w 0 sp held n f2.type ((cs.drop f2.offset).take (P.cellsOf f2.type)) = some y2 ∧ DataW.trod enc P w 0 sp held n f3.type ((cs.drop f3.offset).take (P.cellsOf f3.type)) = some y3 ∧ DataW.trod enc P w 0 sp held n f4.type ((cs.drop f4.offset).take (P.cellsOf f4.type)) = some y4 ∧ DataW.trod enc P w 0 sp held n f5.type ((cs.drop f5.offset).take (P.cellsOf f5.type)) = some y5 := by
  obtain ⟨xs, n, _, rfl, hl, hlen, hf⟩ := DataW.trod_struct ht h
  match xs, hlen with
  | [y0, y1, y2, y3, y4, y5], _ => exact ⟨y0, y1, y2, y3, y4, y5, n, hl, by simpa using hf 0 f0 rfl, by simpa using hf 1 f1 rfl, by simpa using hf 2 f2 rfl, by simpa using hf 3 f3 rfl, by simpa using hf 4 f4 rfl, by simpa using hf 5 f5 rfl⟩
end
section
variable {H : Type} {enc : TypeId × Value → H} {w : World} {sp : Nat → Bool} {held : Bool}
theorem cellsPolys : Tryz.prog.cellsOf 28 = 7 := by kernel_rfl
theorem cellsFPoly : Tryz.prog.cellsOf 23 = 1 := by kernel_rfl
theorem cellsInt1 : Tryz.prog.cellsOf 3 = 1 := by kernel_rfl
theorem cellsBig : Tryz.prog.cellsOf 26 = 2 := by kernel_rfl
theorem cellsBool : Tryz.prog.cellsOf 4 = 1 := by kernel_rfl
theorem cellsMag : Tryz.prog.cellsOf 24 = 1 := by kernel_rfl
theorem cellsU32 : Tryz.prog.cellsOf 84 = 1 := by kernel_rfl
set_option maxRecDepth 100000 in
theorem open_polys {r : Reach} {b0 : Nat} {v : Value} {d : DataW H} {ps : List MemPlace} (hval : Value.okWide Tryz.prog w r b0 28 v) (hd : DataW.Trod enc Tryz.prog w 0 sp held 28 v d ps) : ∃ (p x : Int) (n m l q : Nat) (a c : Nat → Int) (s : Bool), VRel (fun _ => False) w [] (Fp.PP p n m l q a c s x) v := by
  obtain ⟨cs, rfl⟩ := okWide_agg Tryz.underlying28 hval
  obtain ⟨fuel, hf⟩ := hd
  obtain ⟨y0, y1, y2, y3, y4, y5, n, hl, h0, h1, h2, h3, h4, h5⟩ := trod_struct6 Tryz.underlying28 hf
  simp only [cellsInt1, cellsFPoly, cellsBig] at h0 h1 h2 h3 h4 h5
  obtain ⟨z0, z1, n', hl', k0, k1⟩ := trod_struct2 Tryz.underlying26 h4
  simp only [cellsBool, cellsMag] at k0 k1
  obtain ⟨p, e0, _⟩ := cell_int Tryz.underlying3 h0
  obtain ⟨u1, m1, a1, e1, _, g1⟩ := cell_ints Tryz.underlying23 cellsInt1 Tryz.underlying3 h1
  obtain ⟨u2, m2, a2, e2, _, g2⟩ := cell_ints Tryz.underlying23 cellsInt1 Tryz.underlying3 h2
  obtain ⟨u3, m3, e3, _, g3⟩ := cell_slice Tryz.underlying23 cellsInt1 (by decide) h3
  obtain ⟨s, e4, _⟩ := DataW.trod_bool Tryz.underlying4 k0
  obtain ⟨u5, m5, e5, _, g5⟩ := cell_slice Tryz.underlying24 cellsU32 (by decide) k1
  obtain ⟨x, e6, _⟩ := cell_int Tryz.underlying3 h5
  refine ⟨p, x, m1, m2, m3, m5, a1, a2, s, cs, rfl, ?_⟩
  have hl : cs.toList.length = 7 := by rw [← cellsPolys]; exact hl
  change (cs.toList.drop 0).take 1 = _ at e0
  change (cs.toList.drop 1).take 1 = _ at e1
  change (cs.toList.drop 2).take 1 = _ at e2
  change (cs.toList.drop 3).take 1 = _ at e3
  change (((cs.toList.drop 4).take 2).drop 0).take 1 = _ at e4
  change (((cs.toList.drop 4).take 2).drop 1).take 1 = _ at e5
  change (cs.toList.drop 6).take 1 = _ at e6
  match hcs : cs.toList, hl with
  | [x0, x1, x2, x3, x4, x5, x6], _ =>
    rw [hcs] at e0 e1 e2 e3 e4 e5 e6
    simp at e0 e1 e2 e3 e4 e5 e6
    subst e0; subst e1; subst e2; subst e3; subst e4; subst e5; subst e6
    exact ⟨rfl, g1, g2, g3, rfl, g5, rfl, trivial⟩
end
end Go.Proofs.YtlhdliafjconmaaGreat
/- The law FpolyUnique, as a contract. -/
namespace Go.Proofs.YtlhdliafjconmaaGreat
open Go.RowKit
section
variable {p : Int} [hp : Prm p]
theorem same_pol {a b : Pol (Zp p)} : Fp.same (ofP a).1 (ofP b).1 (ofP a).2 (ofP b).2 ↔ a = b := by
  refine ⟨fun h => ?_, fun h => by rw [h]; exact ⟨rfl, fun _ _ => rfl⟩⟩
  obtain ⟨h1, h2⟩ := h
  have h1 : a.len = b.len := h1
  refine Pol.ext fun i => ?_
  rcases Nat.lt_or_ge i a.len with h3 | h3
  · exact Zp.ext (h2 i h3)
  · rw [Pol.len_out a i h3, Pol.len_out b i (by omega)]
open Classical in
theorem ints_P {a b : Pol (Zp p)} (ha : a.len ≤ 4096) (hb : b.len ≤ 4096) : FnOK Tryz.prog false 27 [pl a, pl b] (.c (.bool (decide (a = b)))) := by
  have h := Fp.ints_ok (n := (ofP a).1) (m := (ofP b).1) (a := (ofP a).2) (b := (ofP b).2) (show a.len ≤ 1048576 by omega) (show b.len ≤ 1048576 by omega)
  rw [decide_eq_decide.2 (same_pol (a := a) (b := b))] at h
  exact h
theorem ints_yes {a b : Pol (Zp p)} (ha : a.len ≤ 4096) (hb : b.len ≤ 4096) (h : a = b) : FnOK Tryz.prog false 27 [pl a, pl b] (.c (.bool true)) := by
  have k := ints_P ha hb
  rwa [@decide_eq_true _ (Classical.propDecidable _) h] at k
theorem drop_cons {α : Type} (l : List α) (d : α) {i : Nat} (h : i < l.length) : l.drop i = l.getD i d :: l.drop (i + 1) := by
  rw [List.drop_eq_getElem_cons h, List.getD_eq_getElem?_getD, List.getElem?_eq_getElem h]
  rfl
/-- The degrees up to a place. -/
noncomputable def tdeg (l : List (Pol (Zp p) × Nat)) : Nat → Nat
  | 0 => 0
  | i + 1 => tdeg l i + (l.getD i (0, 0)).2 * ((l.getD i (0, 0)).1.len - 1)
theorem tdeg_cons (c : Pol (Zp p) × Nat) (l : List (Pol (Zp p) × Nat)) : ∀ i, tdeg (c :: l) (i + 1) = c.2 * (c.1.len - 1) + tdeg l i
  | 0 => by show 0 + _ = _ + 0; rw [Nat.zero_add]; rfl
  | i + 1 => by
    show tdeg (c :: l) (i + 1) + _ = _ + (tdeg l i + _)
    rw [tdeg_cons c l i, Nat.add_assoc]
    rfl
theorem tdeg_all : ∀ l : List (Pol (Zp p) × Nat), tdeg l l.length = l.foldr (fun c s => c.2 * (c.1.len - 1) + s) 0
  | [] => rfl
  | c :: l => by
    show tdeg (c :: l) (l.length + 1) = _
    rw [tdeg_cons, tdeg_all l]
    rfl
theorem tdeg_mono (l : List (Pol (Zp p) × Nat)) {i j : Nat} (h : i ≤ j) : tdeg l i ≤ tdeg l j := by
  induction j with
  | zero => rw [show i = 0 by omega]; exact Nat.le_refl _
  | succ j ih =>
    rcases Nat.lt_or_ge i (j + 1) with h1 | h1
    · exact Nat.le_trans (ih (by omega)) (Nat.le_add_right _ _)
    · rw [show i = j + 1 by omega]; exact Nat.le_refl _
end
end Go.Proofs.YtlhdliafjconmaaGreat
/- The law FpolyUnique: the walk. -/
namespace Go.Proofs.YtlhdliafjconmaaGreat
open Go.RowKit
section
variable {p : Int}
theorem pol_of [hp : Prm p] {z : Fp.L} (hz : Fp.NL p z) : ∃ c : Pol (Zp p), z = ofP c :=
  ⟨⟨fun i => Zp.red (z.2 i), z.1, fun j hj => by rw [hz.z j hj]; rfl⟩, ofP_eq hz fun _ => rfl⟩
theorem Mul_P [hp : Prm p] (hm : Fp.md p) {n m : Nat} {a c : Nat → Int} {F G : Pol (Zp p)} (hn : n ≤ 1024) (hm2 : m ≤ 1024) (eF : Fp.nfL p (n, a) = ofP F) (eG : Fp.nfL p (m, c) = ofP G) : FnOK Tryz.prog false 26 [.c (.int .i64 p), .c (il n a), .c (il m c)] (.t2 (pl (F * G)) (.c (.int .i64 0))) := by
  have lF : F.len ≤ n := by have := Fp.nfL_le p (n, a); rw [eF] at this; exact this
  have lG : G.len ≤ m := by have := Fp.nfL_le p (m, c); rw [eG] at this; exact this
  have k := times_P hm (a := F) (b := G) (by omega) (by omega)
  have k2 : FnOK Tryz.prog false 63 [.c (.int .i64 p), Fp.cl (Fp.nfL p (n, a)), Fp.cl (Fp.nfL p (m, c))] (pl (F * G)) := by rw [eF, eG]; exact k
  exact Fp.mul_ok (k := (F * G).len) (X := fun i => ((F * G).f i).v) hm (by omega) (by omega) k2
end
end Go.Proofs.YtlhdliafjconmaaGreat
/- The awake call of the polynomials modulo a prime answers true: over contracts. -/
namespace Go.Proofs.YtlhdliafjconmaaGreat
open Go.RowKit
theorem md_small {p : Int} (h1 : 2 ≤ p) (h2 : p < 9) (h3 : p % 2 = 1) : Fp.md p := ⟨h1, by omega, fun d h4 h5 h6 => by
  rcases Int.lt_or_le d 3 with h | h
  · obtain rfl : d = 2 := by omega
    omega
  · have := Int.mul_le_mul h h (by omega) (by omega)
    omega⟩
section
variable {p : Int} [hp : Prm p]
/-- x + c. -/
noncomputable def lin (c : Int) : Pol (Zp p) := ⟨fun i => if i = 0 then Zp.red c else if i = 1 then 1 else 0, 2, fun j hj => by rw [if_neg (by omega), if_neg (by omega)]⟩
theorem lin_len (c : Int) : (lin c : Pol (Zp p)).len = 2 := Pol.len_eq (k := 1) (fun j hj => by show (if j = 0 then _ else if j = 1 then _ else _) = _; rw [if_neg (by omega), if_neg (by omega)]) (by
  show (if 1 = 0 then Zp.red c else if 1 = 1 then (1 : Zp p) else 0) ≠ 0
  exact Fld.one_ne)
theorem lin_lead (c : Int) : (lin c : Pol (Zp p)).lead = 1 := by
  unfold Pol.lead
  rw [lin_len]
  rfl
end
/-- A literal list of integers. -/
abbrev litV (l : List Int) : V := .c (.row 1 l.length (rowF 1 (l.map (Cell.int .i64))))
theorem sub_lit {n : Nat} {a : Nat → Int} {l : List Int} (hn : l.length = n) (h : ∀ i, i < n → l[i]? = some (a i)) : Sub (litV l) (.c (il n a)) := by
  refine subRowG hn fun i j hi hj => ?_
  obtain rfl : j = 0 := by omega
  unfold rowF
  rw [Nat.mul_one, Nat.add_zero, List.getD_eq_getElem?_getD, List.getElem?_map, h i hi]
  rfl
theorem ints_lit {n : Nat} {a : Nat → Int} {l : List Int} (hl : n ≤ 4096) (hn : l.length = n) (h : ∀ i, i < n → l[i]? = some (a i)) : FnOK Tryz.prog false 27 [.c (il n a), litV l] (.c (.bool true)) := by
  have h1 := Fp.ints_ok (n := n) (m := n) (a := a) (b := a) (by omega) (by omega)
  rw [@decide_eq_true _ (Classical.propDecidable _) ⟨rfl, fun _ _ => rfl⟩] at h1
  refine Fp.arg_ok h1 fun D w vs hv => ?_
  match vs, hv with
  | [v0, v1], ⟨h0, h2, _⟩ => exact ⟨h0, sub_lit hn h D w v1 h2, trivial⟩
section
theorem awake_fac (hm : Fp.md 5) : FnOK Tryz.prog true 6 [.c (.int .i64 5), litV [2, 0, 2]] (.t3 (.c (.int .i64 2)) (.c (.row 2 2 (@fcs 5 (md_prm hm) [(@lin 5 (md_prm hm) 2, 1), (@lin 5 (md_prm hm) 3, 1)]))) (.c (.int .i64 0))) := by
  haveI := md_prm hm
  let a : Nat → Int := fun i => if i = 0 then 2 else if i = 2 then 2 else 0
  have l2 := lin_len (p := 5) 2
  have l3 := lin_len (p := 5) 3
  have n2 : (lin 2 : Pol (Zp 5)) ≠ 0 := Pol.ne_of_len (by omega)
  have n3 : (lin 3 : Pol (Zp 5)) ≠ 0 := Pol.ne_of_len (by omega)
  have hC : (Zp.red 2 : Zp 5) ≠ 0 := fun e => absurd (show (2 : Int) % 5 = 0 from Zp.v_zero.2 e) (by decide)
  have nC : (Pol.C (Zp.red 2) : Pol (Zp 5)) ≠ 0 := Pol.ne_of_len (by rw [Pol.len_C hC]; decide)
  have h23 := Pol.len_mul n2 n3
  have n23 : (lin 2 * lin 3 : Pol (Zp 5)) ≠ 0 := Pol.ne_of_len (by omega)
  have hf := Pol.len_mul nC n23
  rw [Pol.len_C hC] at hf
  have f0 : (Pol.C (Zp.red 2) * (lin 2 * lin 3) : Pol (Zp 5)) ≠ 0 := Pol.ne_of_len (by omega)
  have ex : Fp.nfL 5 (3, a) = ofP (Pol.C (Zp.red 2) * (lin 2 * lin 3) : Pol (Zp 5)) := ofP_eq (Fp.NL.nfL hm (by decide)) fun i => by
    match i with
    | 0 => exact Zp.ext rfl
    | 1 => exact Zp.ext rfl
    | 2 => exact Zp.ext rfl
    | i + 3 =>
      rw [Pol.len_out (Pol.C (Zp.red 2) * (lin 2 * lin 3) : Pol (Zp 5)) (i + 3) (by omega)]
      rfl
  obtain ⟨L, sL, nL, kL⟩ := Factor_P hm (x := (3, a)) (show 3 ≤ 4096 by decide) ex f0 (by omega)
  have epr : prL [((lin 2 : Pol (Zp 5)), 1), (lin 3, 1)] = lin 2 * lin 3 := by
    show Crg.pw (lin 2 : Pol (Zp 5)) 1 * (Crg.pw (lin 3) 1 * 1) = _
    rw [Crg.pw_one, Crg.pw_one, Crg.mul_one]
  have hcmp : cmpP (lin 2 : Pol (Zp 5)) (lin 3) < 0 := by
    unfold cmpP cmpV
    rw [l2, l3, if_pos rfl]
    exact (show cmpF (fun i => ((lin 2 : Pol (Zp 5)).f i).v) (fun i => ((lin 3 : Pol (Zp 5)).f i).v) 2 = -1 from rfl) ▸ (by decide)
  have hne : (lin 2 : Pol (Zp 5)) ≠ lin 3 := fun e => by
    rw [e] at hcmp
    have := cmpP_neg (lin 3 : Pol (Zp 5)) (lin 3)
    omega
  have sM : FacS (Pol.C (Zp.red 2) * (lin 2 * lin 3) : Pol (Zp 5)) [(lin 2, 1), (lin 3, 1)] := by
    refine ⟨FacL.of_prod f0 (fun c hc => ?_) ?_ ?_ ?_, ?_⟩
    · rcases List.mem_cons.1 hc with e | e
      · rw [e]; exact ⟨irr_two l2, lin_lead 2, Nat.le_refl 1⟩
      · rw [List.mem_singleton.1 e]; exact ⟨irr_two l3, lin_lead 3, Nat.le_refl 1⟩
    · exact List.pairwise_cons.2 ⟨fun b hb => by rw [List.mem_singleton.1 hb]; exact hne, List.pairwise_singleton _ _⟩
    · rw [epr]
      refine ⟨Pol.C (Zp.red 3), ?_⟩
      have e1 : (Pol.C (Zp.red 2) * Pol.C (Zp.red 3) : Pol (Zp 5)) = 1 := by
        rw [Pol.C_mul_C]
        exact congrArg Pol.C (show (Zp.red 2 * Zp.red 3 : Zp 5) = 1 from Zp.ext rfl)
      rw [mul_3, e1, Crg.one_mul]
    · rw [epr]
      exact ⟨Pol.C (Zp.red 2), Crg.mul_comm _ _⟩
    · exact List.pairwise_cons.2 ⟨fun b hb => by rw [List.mem_singleton.1 hb]; exact hcmp, List.pairwise_singleton _ _⟩
  obtain rfl := sL.eq sM
  have hlead : (Pol.C (Zp.red 2) * (lin 2 * lin 3) : Pol (Zp 5)).lead.v = 2 := by
    rw [Pol.lead_mul nC n23, Pol.lead_mul n2 n3, lin_lead, lin_lead]
    have : (Pol.C (Zp.red 2) : Pol (Zp 5)).lead = Zp.red 2 := by
      unfold Pol.lead
      rw [Pol.len_C hC]
      rfl
    rw [this]
    rfl
  rw [hlead] at kL
  refine Fp.arg_ok kL fun D w vs hv => ?_
  match vs, hv with
  | [v0, v1], ⟨h0, h2, _⟩ => exact ⟨h0, sub_lit (n := 3) (a := a) rfl (fun i hi => by
      match i, hi with
      | 0, _ => rfl
      | 1, _ => rfl
      | 2, _ => rfl) D w v1 h2, trivial⟩
theorem awake_mul (hm : Fp.md 7) : ∃ X : Nat → Int, (∀ i, i < 3 → [(6 : Int), 0, 1][i]? = some (X i)) ∧ FnOK Tryz.prog true 26 [.c (.int .i64 7), litV [1, 1], litV [6, 1]] (.t2 (.c (il 3 X)) (.c (.int .i64 0))) := by
  haveI := md_prm hm
  let a : Nat → Int := fun i => if i = 0 then 1 else if i = 1 then 1 else 0
  let c : Nat → Int := fun i => if i = 0 then 6 else if i = 1 then 1 else 0
  have l2 := lin_len (p := 7) 1
  have l3 := lin_len (p := 7) 6
  have n2 : (lin 1 : Pol (Zp 7)) ≠ 0 := Pol.ne_of_len (by omega)
  have n3 : (lin 6 : Pol (Zp 7)) ≠ 0 := Pol.ne_of_len (by omega)
  have h23 := Pol.len_mul n2 n3
  have ea : Fp.nfL 7 (2, a) = ofP (lin 1 : Pol (Zp 7)) := ofP_eq (Fp.NL.nfL hm (by decide)) fun i => by
    match i with
    | 0 => exact Zp.ext rfl
    | 1 => exact Zp.ext rfl
    | i + 2 => rw [Pol.len_out (lin 1 : Pol (Zp 7)) (i + 2) (by omega)]; rfl
  have ec : Fp.nfL 7 (2, c) = ofP (lin 6 : Pol (Zp 7)) := ofP_eq (Fp.NL.nfL hm (by decide)) fun i => by
    match i with
    | 0 => exact Zp.ext rfl
    | 1 => exact Zp.ext rfl
    | i + 2 => rw [Pol.len_out (lin 6 : Pol (Zp 7)) (i + 2) (by omega)]; rfl
  have k := (Mul_P hm (n := 2) (m := 2) (a := a) (c := c) (by decide) (by decide) ea ec).weak (r := true)
  have hl : (lin 1 * lin 6 : Pol (Zp 7)).len = 3 := by omega
  have e3 : pl (lin 1 * lin 6 : Pol (Zp 7)) = .c (il 3 fun i => ((lin 1 * lin 6 : Pol (Zp 7)).f i).v) := by
    show V.c (il (lin 1 * lin 6 : Pol (Zp 7)).len _) = _
    rw [hl]
    rfl
  rw [e3] at k
  refine ⟨_, fun i hi => ?_, Fp.arg_ok k fun D w vs hv => ?_⟩
  · match i, hi with
    | 0, _ => rfl
    | 1, _ => rfl
    | 2, _ => rfl
  · match vs, hv with
    | [v0, v1, v2], ⟨h0, h1, h2, _⟩ => exact ⟨h0, sub_lit (n := 2) (a := a) rfl (fun i hi => by
        match i, hi with
        | 0, _ => rfl
        | 1, _ => rfl) D w v1 h1, sub_lit (n := 2) (a := c) rfl (fun i hi => by
        match i, hi with
        | 0, _ => rfl
        | 1, _ => rfl) D w v2 h2, trivial⟩
set_option maxHeartbeats 4000000 in
theorem awakeF : FnOK Tryz.prog true 5 [] (.c (.bool true)) := by
  have h5 : Fp.md 5 := md_small (by decide) (by decide) (by decide)
  have h7 : Fp.md 7 := md_small (by decide) (by decide) (by decide)
  haveI := md_prm h5
  have k1 := awake_fac h5
  obtain ⟨X, hX, k2⟩ := awake_mul h7
  have l2 := lin_len (p := 5) 2
  have l3 := lin_len (p := 5) 3
  have i1 : FnOK Tryz.prog true 27 [pl (lin 2 : Pol (Zp 5)), litV [2, 1]] (.c (.bool true)) := (ints_lit (l := [2, 1]) (n := (lin 2 : Pol (Zp 5)).len) (by omega) l2.symm fun i hi => by
    match i, (show i < 2 by omega) with
    | 0, _ => rfl
    | 1, _ => rfl).weak
  have i2 : FnOK Tryz.prog true 27 [pl (lin 3 : Pol (Zp 5)), litV [3, 1]] (.c (.bool true)) := (ints_lit (l := [3, 1]) (n := (lin 3 : Pol (Zp 5)).len) (by omega) l3.symm fun i hi => by
    match i, (show i < 2 by omega) with
    | 0, _ => rfl
    | 1, _ => rfl).weak
  have i3 : FnOK Tryz.prog true 27 [.c (il 3 X), litV [6, 0, 1]] (.c (.bool true)) := (ints_lit (l := [6, 0, 1]) (n := 3) (by decide) rfl hX).weak
  refine fn_ok (E := E1) E1_ok Tryz.func5 rfl mixed (by kernel_rfl) (by kernel_rfl) ?_
  conv => whnf
  refine ⟨fun i j hi hj => ?_, ?_⟩
  · match i, j, hi, hj with
    | 0, 0, _, _ => rfl
    | 1, 0, _, _ => rfl
    | 2, 0, _, _ => rfl
  conv => whnf
  refine ⟨_, k1, ?_⟩
  conv => whnf
  refine ⟨fun i j hi hj => ?_, ?_⟩
  · match i, j, hi, hj with
    | 0, 0, _, _ => rfl
    | 1, 0, _, _ => rfl
  conv => whnf
  refine ⟨fun i j hi hj => ?_, ?_⟩
  · match i, j, hi, hj with
    | 0, 0, _, _ => rfl
    | 1, 0, _, _ => rfl
  conv => whnf
  refine ⟨_, k2, ?_⟩
  conv => whnf
  refine ⟨by decide, by show (0 : Int) < 2; decide, ?_⟩
  conv => whnf
  refine ⟨by decide, by show (0 : Int) < 2; decide, ?_⟩
  conv => whnf
  refine ⟨fun i j hi hj => ?_, ?_⟩
  · match i, j, hi, hj with
    | 0, 0, _, _ => rfl
    | 1, 0, _, _ => rfl
  conv => whnf
  refine ⟨_, i1, ?_⟩
  conv => whnf
  refine ⟨by decide, by show (1 : Int) < 2; decide, ?_⟩
  conv => whnf
  refine ⟨fun i j hi hj => ?_, ?_⟩
  · match i, j, hi, hj with
    | 0, 0, _, _ => rfl
    | 1, 0, _, _ => rfl
  conv => whnf
  refine ⟨_, i2, ?_⟩
  conv => whnf
  refine ⟨fun i j hi hj => ?_, ?_⟩
  · match i, j, hi, hj with
    | 0, 0, _, _ => rfl
    | 1, 0, _, _ => rfl
    | 2, 0, _, _ => rfl
  conv => whnf
  refine ⟨_, i3, ?_⟩
  conv => whnf
  exact ⟨rfl, Sub.refl _⟩
end
end Go.Proofs.YtlhdliafjconmaaGreat
/- The document's Irreducible, over polynomials. -/
namespace Go.Proofs.YtlhdliafjconmaaGreat
open Go.RowKit
section
variable {p : Int} [hp : Prm p]
theorem rgcd_P (hm : Fp.md p) {a b : Pol (Zp p)} (ha : a.len ≤ 4096) (hb : b.len ≤ 4096) (hne : a ≠ 0 ∨ b ≠ 0) : FnOK Tryz.prog false 54 [.c (.int .i64 p), pl a, pl b] (pl (Pol.gd a b)) := by
  obtain ⟨g, h1, h2, h3, h4, u, v, h5⟩ := gc_of hm b.len ha hb (Nat.le_refl _)
  have hg : g ≠ 0 := fun e => by
    rcases hne with h | h
    · obtain ⟨x, hx⟩ := h3; exact h (by rw [hx, e, Crg.zero_mul])
    · obtain ⟨x, hx⟩ := h4; exact h (by rw [hx, e, Crg.zero_mul])
  obtain ⟨m, e1, e2, e3, e4, e5⟩ := mo_of hm hg h2
  have hgc : Gc a b m := ⟨e2, Pol.ne_of_len (by rw [e5]; exact Pol.len_pos hg), e3.trans h3, e3.trans h4, fun x k1 k2 => by
    refine Pol.Dvs.trans ?_ e4
    rw [h5]
    exact (k1.mul' u).add (k2.mul' v)⟩
  have na := ofP_NL a ha
  have nb := ofP_NL b hb
  have := Fp.refGcd_ok hm na.n4 nb.n4 na.self nb.self na.t nb.t
  have e : Fp.gc p (ofP b).1 (ofP a).1 (ofP a).2 (ofP b).1 (ofP b).2 = ofP g := h1
  rw [e] at this
  have e6 : (Fp.tl (Fp.mo p (ofP g)) (ofP g).1, Fp.mo p (ofP g)) = ofP m := e1
  rw [hgc.gd]
  show FnOK _ _ _ _ (Fp.cl (ofP m))
  rw [← e6]
  exact this
theorem rpow_P (hm : Fp.md p) {a m : Pol (Zp p)} (ha : a.len ≤ 1024) (h0 : m ≠ 0) (hl : m.len ≤ 1024) : FnOK Tryz.prog false 53 [.c (.int .i64 p), pl a, Fp.bi false 1 fun _ => p, pl m] (pl (Pol.rm (Crg.pw a p.toNat) m)) :=
  Fp.power_ok (x := ofP a) (y := ofP m) (f := ofP a) (m := ofP m) (r := ofP (Pol.rm (Crg.pw a p.toNat) m)) (s := false) (q := 1) (a := fun _ => p) hm ha hl (Fp.nfL_id (ofP_NL a (by omega))) (Fp.nfL_id (ofP_NL m (by omega))) (Pol.len_pos h0) (by decide) (fun _ => ⟨by have := hm.1; omega, by have := hm.2.1; omega⟩) (by rw [Fp.bs_of hm]; exact rp_P hm h0 (by omega) p.toNat)
theorem rsub_P (hm : Fp.md p) {a b : Pol (Zp p)} (ha : a.len ≤ 4096) (hb : b.len ≤ 4096) : FnOK Tryz.prog false 55 [.c (.int .i64 p), pl a, pl b] (pl (a - b)) := by
  rw [show pl (a - b) = Fp.cl (Fp.subL p (ofP a) (ofP b)) by rw [sub_of hm a b ha hb]]
  exact Fp.refSub_L hm (ofP_NL a ha) (ofP_NL b hb)
theorem rdeg_P (hm : Fp.md p) {a : Pol (Zp p)} (ha : a.len ≤ 4096) : FnOK Tryz.prog false 9 [.c (.int .i64 p), pl a] (.c (.int .i64 ((a.len : Int) - 1))) := by
  have d := Fp.degree_ok (p := p) (n := (ofP a).1) (a := (ofP a).2) (by have := hm.1; omega) hm.2.1 (show a.len ≤ 1048576 by omega)
  have e : Fp.tl (Fp.nf p (ofP a).1 (ofP a).2) (ofP a).1 = a.len := congrArg Prod.fst (Fp.nfL_id (ofP_NL a ha))
  rw [e] at d
  exact d
/-- x as the document writes it. -/
abbrev xV : V := .c (.row 1 2 (rowF 1 [.int .i64 0, .int .i64 1]))
theorem sub_xV : Sub xV (pl (Pol.X : Pol (Zp p))) := by
  show Sub _ (Fp.cl (ofP (Pol.X : Pol (Zp p))))
  rw [ofP_X]
  refine subRowG rfl fun i j hi hj => ?_
  match i, j, hi, hj with
  | 0, 0, _, _ => rfl
  | 1, 0, _, _ => rfl
theorem rsubX_P (hm : Fp.md p) {a : Pol (Zp p)} (ha : a.len ≤ 4096) : FnOK Tryz.prog false 55 [.c (.int .i64 p), pl a, xV] (pl (a - Pol.X)) := by
  refine Fp.arg_ok (rsub_P hm ha (b := Pol.X) (by rw [X_len]; decide)) fun D w vs h => ?_
  match vs, h with
  | [v0, v1, v2], ⟨h0, h1, h2, h3⟩ => exact ⟨h0, h1, sub_xV D w v2 h2, h3⟩
theorem reg_X {q : Nat} {bl : List Blk} {ks : List (Option Nat)} {k : Nat} {B : Blk} {e : Cell → Prop} (hB : bl[k]? = some B) (he : e (.gs k B.u)) (hq : q.ble k = true) (hk : (ks.any fun x => x == some k) = false) (h1 : B.st ≤ 1) (h2 : B.sz = 1) (h3 : B.n = 2) (h4 : B.f 0 0 = .int .i64 0) (h5 : B.f 1 0 = .int .i64 1) {a : Pol (Zp p)} (ha : a = Pol.X) : regC q bl ks (pc a) e := by
  rw [ha]
  show regC q bl ks (il (ofP (Pol.X : Pol (Zp p))).1 (ofP (Pol.X : Pol (Zp p))).2) e
  rw [ofP_X]
  refine .inr (.inr ⟨k, B, hB, he, hq, hk, h1, h2, h3, fun i j hi hj => ?_⟩)
  obtain rfl : j = 0 := by omega
  match i, hi with
  | 0, _ => exact ⟨h4, rfl⟩
  | 1, _ => exact ⟨h5, rfl⟩
/-- The powers of x. -/
noncomputable def rx (g : Pol (Zp p)) : Nat → Pol (Zp p)
  | 0 => Pol.X
  | k + 1 => Pol.rm (Crg.pw (rx g k) p.toNat) g
theorem rx_cgr {g : Pol (Zp p)} (h0 : g ≠ 0) : ∀ k, Pol.Cgr g (rx g k) (Crg.pw Pol.X (p.toNat ^ k))
  | 0 => by rw [Nat.pow_zero, Crg.pw_one]; exact Pol.Cgr.refl _ _
  | k + 1 => by
    have h1 := ((rx_cgr h0 k).pw p.toNat)
    rw [← Crg.pw_mul, ← Nat.pow_succ] at h1
    exact (Pol.rm_spec _ h0).1.symm.trans h1
theorem rx_len {g : Pol (Zp p)} (h0 : g ≠ 0) (hl : g.len ≤ 1000) : ∀ k, (rx g k).len ≤ 1000
  | 0 => by show (Pol.X : Pol (Zp p)).len ≤ 1000; rw [X_len]; decide
  | k + 1 => by have : (rx g (k + 1)).len < g.len := (Pol.rm_spec (Crg.pw (rx g k) p.toNat) h0).2; omega
noncomputable def rg (g : Pol (Zp p)) (k : Nat) : Pol (Zp p) := Pol.gd g (rx g k - Pol.X)
theorem rg_gc (hm : Fp.md p) {g : Pol (Zp p)} (h0 : g ≠ 0) (hl : g.len ≤ 1000) (k : Nat) : Gc g (rx g k - Pol.X) (rg g k) := by
  refine (gd_P hm (by omega) ?_ (.inl h0)).1
  have h1 := rx_len h0 hl k
  have h2 := Pol.len_sub (rx g k) Pol.X
  rw [X_len] at h2
  omega
/-- Divisors of small degree are seen. -/
theorem rg_dvs (hm : Fp.md p) {g P : Pol (Zp p)} (h0 : g ≠ 0) (hl : g.len ≤ 1000) (hP : Pol.Irr P) (k : Nat) : Pol.Dvs P (rg g k) ↔ Pol.Dvs P g ∧ P.len - 1 ∣ k := by
  rw [(rg_gc hm h0 hl k).irr]
  refine ⟨fun ⟨h1, h2⟩ => ⟨h1, (irr_dvs_fro hP).1 ?_⟩, fun ⟨h1, h2⟩ => ⟨h1, ?_⟩⟩
  · have := (rx_cgr h0 k).mono h1
    exact (this.symm.sub (Pol.Cgr.refl P Pol.X)).trans (Pol.Cgr.zero.2 h2) |> Pol.Cgr.zero.1
  · have := (rx_cgr h0 k).mono h1
    exact (this.sub (Pol.Cgr.refl P Pol.X)).trans (Pol.Cgr.zero.2 ((irr_dvs_fro hP).2 h2)) |> Pol.Cgr.zero.1
theorem rg_one (hm : Fp.md p) {g : Pol (Zp p)} (hg : Pol.Irr g) (hl : g.len ≤ 1000) {k : Nat} (hk : 1 ≤ k) (hk2 : 2 * k ≤ g.len - 1) : (rg g k).len = 1 := by
  have hc := rg_gc hm hg.ne hl k
  have h1 := Pol.len_pos hc.ne
  refine Classical.byContradiction fun hne => ?_
  obtain ⟨P, hP, hd⟩ := Pol.ex_irr (rg g k).len (rg g k) (Nat.le_refl _) (by omega)
  obtain ⟨h2, h3⟩ := (rg_dvs hm hg.ne hl hP k).1 hd
  have h4 := Nat.le_of_dvd (by omega) h3
  obtain ⟨x, hx⟩ := h2
  have hx0 : x ≠ 0 := fun e => hg.ne (by rw [hx, e, Crg.mul_zero])
  have h5 := Pol.len_mul hP.ne hx0
  rw [← hx] at h5
  have h6 := hP.two
  have h7 := hg.two
  rcases hg.irr P x hx with h8 | h8 <;> omega
end
end Go.Proofs.YtlhdliafjconmaaGreat
/- The document's Irreducible, over polynomials: the walk. -/
namespace Go.Proofs.YtlhdliafjconmaaGreat
open Go.RowKit
section
variable {p : Int} [hp : Prm p]
set_option maxHeartbeats 8000000 in
theorem rirr_yes (hm : Fp.md p) {g : Pol (Zp p)} (h2 : 2 ≤ g.len) (hl : g.len ≤ 200) (h : ∀ k, 1 ≤ k → 2 * k ≤ g.len - 1 → (rg g k).len = 1) : FnOK Tryz.prog false 17 [.c (.int .i64 p), pl g] (.c (.bool true)) := by
  have hm1 := hm.1
  have hm2 := hm.2.1
  have h0 : g ≠ 0 := Pol.ne_of_len (by omega)
  have kd := rdeg_P hm (a := g) (by omega)
  have ko := Fp.rof_ok (p := p) (by omega) hm2
  have hrl := rx_len h0 (by omega)
  have kp := fun j => rpow_P hm (a := rx g j) (m := g) (by have := hrl j; omega) h0 (by omega)
  have ks := fun j => rsubX_P hm (a := rx g (j + 1)) (by have := hrl (j + 1); omega)
  have kg := fun j => rgcd_P hm (a := g) (b := rx g (j + 1) - Pol.X) (by omega) (by
    have h1 := hrl (j + 1)
    have h3 := Pol.len_sub (rx g (j + 1)) Pol.X
    rw [X_len] at h3
    omega) (.inl h0)
  have kx := fun j => rdeg_P hm (a := rg g (j + 1)) (by have := (rg_gc hm h0 (by omega) (j + 1)).da.len h0; omega)
  obtain ⟨D, hD⟩ : ∃ D : Nat, D = g.len - 1 := ⟨_, rfl⟩
  have hDi : (g.len : Int) - 1 = (D : Int) := by omega
  rw [hDi] at kd
  have hone : ∀ j, 2 * (j + 1) ≤ D → (rg g (j + 1)).len = 1 := fun j hj => h (j + 1) (by omega) (by omega)
  refine fn_ok (E := E0) E0_ok Tryz.func17 rfl mixed (by kernel_rfl) (by kernel_rfl) ?_
  conv => whnf
  refine ⟨_, kd, ?_⟩
  conv => whnf
  refine loop_ints (fun j : Nat => gst [(0, .c (.int .i64 p)), (1, pl g), (5, .c (.int .i64 D)), (6, pl (rx g j)), (7, .c (.int .i64 ((j : Int) + 1)))] []) (fun j => D - j) (fun j => j ≤ D) 0 rfl ?_ (Nat.zero_le _) fun j hj => ?_
  · exact Weak.gen [] rfl trivial ⟨⟨_, rfl, rfl⟩, .inl ⟨_, _, rfl, rfl, fun _ _ _ _ => rfl⟩, ⟨_, rfl, rfl⟩, reg_X (p := p) (k := 0) (B := ⟨3, 1, 2, 0, 0, rowF 1 [.int .i64 0, .int .i64 1]⟩) (e := fun x => V.c (.gs 0 0) = .c x) rfl rfl rfl rfl (Nat.zero_le _) rfl rfl rfl rfl (a := rx g 0) rfl, ⟨_, rfl, rfl⟩, trivial⟩
  have kp := kp j
  have ks := ks j
  have kg := kg j
  have kx := kx j
  have hone := hone j
  rcases Nat.lt_or_ge D (2 * (j + 1)) with c | c
  · conv => whnf
    refine ⟨Fp.i64 (by omega) (by omega), ?_⟩
    conv => whnf
    refine bneg (show decide (2 * ((j : Int) + 1) ≤ (D : Int)) = false from decide_eq_false (by omega)) ?_
    conv => whnf
    exact ⟨rfl, Fp.subB (decide_eq_true (by omega))⟩
  · have hone := hone c
    conv => whnf
    refine ⟨Fp.i64 (by omega) (by omega), ?_⟩
    conv => whnf
    refine bpos (show decide (2 * ((j : Int) + 1) ≤ (D : Int)) = true from decide_eq_true (by omega)) ?_
    conv => whnf
    refine ⟨_, ko, ?_⟩
    conv => whnf
    refine ⟨_, kp, ?_⟩
    conv => whnf
    refine ⟨fun i y hi hy => ?_, ?_⟩
    · match i, y, hi, hy with
      | 0, 0, _, _ => rfl
      | 1, 0, _, _ => rfl
    conv => whnf
    refine ⟨_, ks, ?_⟩
    conv => whnf
    refine ⟨_, kg, ?_⟩
    conv => whnf
    refine ⟨_, kx, ?_⟩
    conv => whnf
    refine bneg (show (!decide (((rg g (j + 1)).len : Int) - 1 = 0)) = false by rw [decide_eq_true (by omega)]; rfl) ?_
    conv => whnf
    refine ⟨Fp.i64 (by omega) (by omega), ?_⟩
    conv => whnf
    exact ⟨j + 1, by omega, Weak.gen [] rfl trivial ⟨⟨_, rfl, rfl⟩, .inl ⟨_, _, rfl, rfl, fun _ _ _ _ => rfl⟩, ⟨_, rfl, rfl⟩, .inl ⟨_, _, rfl, rfl, fun _ _ _ _ => rfl⟩, ⟨_, rfl, by omega⟩, trivial⟩, by omega⟩
theorem rirr_irr (hm : Fp.md p) {g : Pol (Zp p)} (hl : g.len ≤ 200) (hg : Pol.Irr g) : FnOK Tryz.prog false 17 [.c (.int .i64 p), pl g] (.c (.bool true)) :=
  rirr_yes hm hg.two hl fun _ h1 h2 => rg_one hm hg (by omega) h1 h2
end
end Go.Proofs.YtlhdliafjconmaaGreat
/- Trial division: what its rounds keep. -/
namespace Go.Proofs.YtlhdliafjconmaaGreat
open Go.RowKit
theorem dig_mod {q : Nat} (hq : 2 ≤ q) {n k : Nat} (h : k < n) (i : Nat) : i % q ^ n / q ^ k % q = i / q ^ k % q := by
  obtain ⟨d, rfl⟩ : ∃ d, n = k + (d + 1) := ⟨n - k - 1, by omega⟩
  have e := Nat.div_add_mod i (q ^ (k + (d + 1)))
  generalize i % q ^ (k + (d + 1)) = r at *
  generalize i / q ^ (k + (d + 1)) = m at *
  rw [← e, Nat.pow_add, Nat.mul_assoc, Nat.mul_add_div (Nat.pow_pos (by omega)), Nat.pow_succ, Nat.mul_comm (q ^ d) q, Nat.mul_assoc, Nat.mul_add_mod_self_left]
theorem cmp_dig {q : Nat} (hq : 2 ≤ q) : ∀ (n i j : Nat), i < q ^ n → j < q ^ n → i < j → cmpF (fun k => ((i / q ^ k % q : Nat) : Int)) (fun k => ((j / q ^ k % q : Nat) : Int)) n < 0
  | 0, i, j, h1, h2, h => by rw [Nat.pow_zero] at h1 h2; omega
  | n + 1, i, j, h1, h2, h => by
    have hp : 0 < q ^ n := Nat.pow_pos (by omega)
    have top : ∀ x, x < q ^ (n + 1) → x / q ^ n % q = x / q ^ n := fun x hx => Nat.mod_eq_of_lt (Nat.div_lt_of_lt_mul (by rw [Nat.pow_succ] at hx; exact hx))
    show (if ((i / q ^ n % q : Nat) : Int) = ((j / q ^ n % q : Nat) : Int) then _ else Lib.compareInt ((i / q ^ n % q : Nat) : Int) ((j / q ^ n % q : Nat) : Int)) < 0
    rw [top i h1, top j h2]
    have ei := Nat.div_add_mod i (q ^ n)
    have ej := Nat.div_add_mod j (q ^ n)
    have mi := Nat.mod_lt i hp
    have mj := Nat.mod_lt j hp
    by_cases e : i / q ^ n = j / q ^ n
    · rw [if_pos (by rw [e])]
      have h3 := cmp_dig hq n (i % q ^ n) (j % q ^ n) mi mj (by rw [e] at ei; omega)
      have cong : ∀ {F F' G G' : Nat → Int} (m : Nat), (∀ k, k < m → F k = F' k ∧ G k = G' k) → cmpF F G m = cmpF F' G' m := fun {F F' G G'} m => by
        induction m with
        | zero => exact fun _ => rfl
        | succ m ih =>
          intro hk
          unfold cmpF
          rw [(hk m (Nat.lt_succ_self m)).1, (hk m (Nat.lt_succ_self m)).2, ih fun k hk' => hk k (by omega)]
      rwa [cong n fun k hk => ⟨congrArg (fun x : Nat => (x : Int)) (dig_mod hq hk i), congrArg (fun x : Nat => (x : Int)) (dig_mod hq hk j)⟩] at h3
    · rw [if_neg (by omega)]
      refine cI_lt.2 ?_
      generalize i % q ^ n = ri at *
      generalize j % q ^ n = rj at *
      generalize i / q ^ n = di at *
      generalize j / q ^ n = dj at *
      generalize q ^ n = Q at *
      rcases Nat.lt_or_ge di dj with h3 | h3
      · omega
      · have h4 : dj + 1 ≤ di := by omega
        have h5 := Nat.mul_le_mul_left Q h4
        rw [Nat.mul_add, Nat.mul_one] at h5
        omega
section
variable {p : Int} [hp : Prm p]
theorem mnp_cmp {n i j : Nat} (hi : i < p.toNat ^ n) (hj : j < p.toNat ^ n) (h : i < j) : cmpP (mnp n i : Pol (Zp p)) (mnp n j) < 0 := by
  have h2 := two_le (p := p)
  unfold cmpP cmpV
  rw [mnp_len, mnp_len, if_pos rfl]
  unfold cmpF
  rw [mnp_top, mnp_top, if_pos rfl]
  have h3 := cmp_dig h2 n i j hi hj h
  have cong : ∀ {F F' G G' : Nat → Int} (m : Nat), (∀ k, k < m → F k = F' k ∧ G k = G' k) → cmpF F G m = cmpF F' G' m := fun {F F' G G'} m => by
    induction m with
    | zero => exact fun _ => rfl
    | succ m ih =>
      intro hk
      unfold cmpF
      rw [(hk m (Nat.lt_succ_self m)).1, (hk m (Nat.lt_succ_self m)).2, ih fun k hk' => hk k (by omega)]
  rwa [← cong n fun k hk => ⟨mnp_v hk, mnp_v hk⟩] at h3
theorem cmp_len {a b : Pol (Zp p)} (h : a.len < b.len) : cmpP a b < 0 := by
  unfold cmpP cmpV
  rw [if_neg (by omega)]
  exact cI_lt.2 (by omega)
theorem len_cmp {a b : Pol (Zp p)} (h : ¬ cmpP a b < 0) : b.len ≤ a.len := Nat.le_of_not_lt fun h1 => h (cmp_len h1)
/-- At the turn of the polynomial g. -/
structure TdI (L : List (Pol (Zp p) × Nat)) (g : Pol (Zp p)) (t : Nat) (a : Pol (Zp p)) : Prop where
  ne : a ≠ 0
  lead : a.lead = 1
  fac : FacL a 1 (L.drop t)
  lo : ∀ c ∈ L.take t, cmpP c.1 g < 0
  hi : ∀ c ∈ L.drop t, ¬ cmpP c.1 g < 0
  le : t ≤ L.length
theorem drop_sorted {L : List (Pol (Zp p) × Nat)} (h : L.Pairwise fun a b => cmpP a.1 b.1 < 0) (t : Nat) : (L.drop t).Pairwise fun a b => cmpP a.1 b.1 < 0 := h.sublist (List.drop_sublist t L)
/-- A polynomial that divides is the next of the list. -/
theorem TdI.head {L : List (Pol (Zp p) × Nat)} {g a : Pol (Zp p)} {t : Nat} (hs : L.Pairwise fun a b => cmpP a.1 b.1 < 0) (h : TdI L g t a) (h1 : g.lead = 1) (h2 : 2 ≤ g.len) (hd : Pol.Dvs g a) : t < L.length ∧ (L.getD t (0, 0)).1 = g := by
  obtain ⟨P, hP, hPg⟩ := Pol.ex_irr g.len g (Nat.le_refl _) h2
  obtain ⟨M, lM, mM, g1, g2⟩ := monic_of hP.ne
  have iM := hP.assoc g1 g2 lM
  have hMg : Pol.Dvs M g := g1.trans hPg
  have hm := h.fac.mem M iM mM (hMg.trans hd)
  have hlen := len_cmp (h.hi _ hm)
  have hg0 : g ≠ 0 := Pol.ne_of_len (by omega)
  have eM : M = g := by
    obtain ⟨x, hx⟩ := hMg
    have hx0 : x ≠ 0 := fun e => hg0 (by rw [hx, e, Crg.mul_zero])
    have l1 := Pol.len_mul iM.ne hx0
    rw [← hx] at l1
    have l2 := Pol.len_pos hx0
    have l3 := Pol.lead_mul iM.ne hx0
    rw [← hx, h1, mM, Crg.one_mul] at l3
    have hlen : g.len ≤ M.len := hlen
    rw [hx, one_of_len hx0 (by omega) l3.symm, Crg.mul_one]
  have htl : t < L.length := Nat.lt_of_not_le fun hle => by
    rw [List.drop_of_length_le hle] at hm
    exact absurd hm (by simp)
  refine ⟨htl, ?_⟩
  have hcons := drop_cons L (0, 0) htl
  have hsd := drop_sorted hs t
  rw [hcons, List.pairwise_cons] at hsd
  rw [hcons] at hm
  rcases List.mem_cons.1 hm with e | e
  · rw [← e]; exact eM
  · have h3 := hsd.1 _ e
    have h4 := h.hi (L.getD t (0, 0)) (by rw [hcons]; simp)
    have h3 : cmpP (L.getD t (0, 0)).1 M < 0 := h3
    rw [eM] at h3
    exact absurd h3 h4
/-- How often g is divided out. -/
noncomputable def dvk (g a : Pol (Zp p)) : Nat → Pol (Zp p)
  | 0 => a
  | i + 1 => Pol.qo (dvk g a i) g
theorem dvk_eq {g a : Pol (Zp p)} (hg : g ≠ 0) : ∀ {k : Nat}, (∀ i, i < k → Pol.Dvs g (dvk g a i)) → a = Crg.pw g k * dvk g a k
  | 0, _ => (Crg.one_mul a).symm
  | k + 1, h => by
    have h1 := dvk_eq hg (k := k) fun i hi => h i (by omega)
    have h2 := qo_dvs hg (h k (by omega))
    show a = Crg.pw g k * g * Pol.qo (dvk g a k) g
    conv => lhs; rw [h1, h2]
    rw [Crg.mul_assoc, Crg.mul_comm g]
/-- g is divided out. -/
theorem TdI.take {L : List (Pol (Zp p) × Nat)} {g a : Pol (Zp p)} {t k : Nat} (hs : L.Pairwise fun a b => cmpP a.1 b.1 < 0) (h : TdI L g t a) (h1 : g.lead = 1) (h2 : 2 ≤ g.len) (hk : ∀ i, i < k → Pol.Dvs g (dvk g a i)) (hk2 : ¬ Pol.Dvs g (dvk g a k)) (hk0 : 0 < k) :
    t < L.length ∧ L.getD t (0, 0) = (g, k) ∧ FacL (dvk g a k) 1 (L.drop (t + 1)) ∧ dvk g a k ≠ 0 ∧ (dvk g a k).lead = 1 ∧ (dvk g a k).len ≤ a.len := by
  have hg0 : g ≠ 0 := Pol.ne_of_len (by omega)
  obtain ⟨htl, hgd⟩ := h.head hs h1 h2 (hk 0 hk0)
  have hcons := drop_cons L (0, 0) htl
  obtain ⟨c1, c2, c3, c4⟩ := h.fac.all (L.getD t (0, 0)) (by rw [hcons]; simp)
  rw [hgd] at c1 c3 c4
  have ea := dvk_eq hg0 hk
  have hb0 : dvk g a k ≠ 0 := fun e => h.ne (by rw [ea, e, Crg.mul_zero])
  have hpk := pw_ne_zero hg0 k
  have hv : val g a = k := by
    rw [ea]
    exact val_of c1 hk2 k
  have lb : (dvk g a k).lead = 1 := by
    have := Pol.lead_mul hpk hb0
    rw [← ea, h.lead, lead_pw hg0 h1, Crg.one_mul] at this
    exact this.symm
  have hval : ∀ P, Pol.Irr P → P.lead = 1 → P ≠ g → val P (dvk g a k) = val P a := fun P hP lP hne => by
    have e1 := val_mul hP hpk hb0
    rw [← ea, val_pw hP hg0, val_irr hP c1 lP h1, if_neg hne, Nat.mul_zero, Nat.zero_add] at e1
    exact e1.symm
  have hnd := h.fac.nd
  rw [hcons, List.pairwise_cons] at hnd
  refine ⟨htl, Prod.ext hgd (by rw [c4, hv, Nat.one_mul]), ⟨fun c hc => ?_, fun P hP lP dP => ?_, hnd.2⟩, hb0, lb, Pol.Dvs.len (show Pol.Dvs (dvk g a k) a from ⟨Crg.pw g k, by rw [Crg.mul_comm]; exact ea⟩) h.ne⟩
  · obtain ⟨a1, a2, a3, a4⟩ := h.fac.all c (by rw [hcons]; simp [hc])
    have hne : c.1 ≠ g := fun e => hnd.1 c hc (by rw [hgd, e])
    have e1 := hval c.1 a1 a2 hne
    refine ⟨a1, a2, (val_pos a1 hb0).2 ?_, by rw [e1]; exact a4⟩
    rw [e1]
    exact (val_pos a1 h.ne).1 a3
  · have hne : P ≠ g := fun e => hk2 (e ▸ dP)
    have h3 := h.fac.mem P hP lP (dP.trans ⟨Crg.pw g k, by rw [Crg.mul_comm]; exact ea⟩)
    rw [hcons] at h3
    rw [hval P hP lP hne]
    rcases List.mem_cons.1 h3 with e | e
    · exact absurd (by rw [← hgd, ← e]) hne
    · exact e
/-- Behind the turn of the polynomial g. -/
structure TdJ (L : List (Pol (Zp p) × Nat)) (g : Pol (Zp p)) (t : Nat) (a : Pol (Zp p)) : Prop where
  ne : a ≠ 0
  lead : a.lead = 1
  fac : FacL a 1 (L.drop t)
  lo : ∀ c ∈ L.take t, cmpP c.1 g < 0 ∨ c.1 = g
  hi : ∀ c ∈ L.drop t, cmpP g c.1 < 0
  le : t ≤ L.length
theorem cmp_gt {a b : Pol (Zp p)} (h : ¬ cmpP a b < 0) (hne : a ≠ b) : cmpP b a < 0 := by
  have h1 := cmpP_neg a b
  have h2 : cmpP a b ≠ 0 := fun e => hne (cmpP_zero e)
  omega
theorem cmp_asym {a b : Pol (Zp p)} (h : cmpP a b < 0) : ¬ cmpP b a < 0 := by have := cmpP_neg a b; omega
theorem cmp_irr {a : Pol (Zp p)} : ¬ cmpP a a < 0 := by have := cmpP_neg a a; omega
theorem TdI.none {L : List (Pol (Zp p) × Nat)} {g a : Pol (Zp p)} {t : Nat} (h : TdI L g t a) (hd : ¬ Pol.Dvs g a) : TdJ L g t a :=
  ⟨h.ne, h.lead, h.fac, fun c hc => .inl (h.lo c hc), fun c hc => cmp_gt (h.hi c hc) fun e => hd (by rw [← e]; exact (h.fac.all c hc).2.2.1), h.le⟩
theorem TdI.some {L : List (Pol (Zp p) × Nat)} {g a : Pol (Zp p)} {t k : Nat} (hs : L.Pairwise fun a b => cmpP a.1 b.1 < 0) (h : TdI L g t a) (h1 : g.lead = 1) (h2 : 2 ≤ g.len) (hk : ∀ i, i < k → Pol.Dvs g (dvk g a i)) (hk2 : ¬ Pol.Dvs g (dvk g a k)) (hk0 : 0 < k) :
    L.take (t + 1) = L.take t ++ [(g, k)] ∧ TdJ L g (t + 1) (dvk g a k) := by
  obtain ⟨a1, a2, a3, a4, a5, _⟩ := h.take hs h1 h2 hk hk2 hk0
  have e := take_next L (0, 0) a1
  rw [a2] at e
  refine ⟨e, a4, a5, a3, fun c hc => ?_, fun c hc => ?_, a1⟩
  · rw [e] at hc
    rcases List.mem_append.1 hc with h3 | h3
    · exact .inl (h.lo c h3)
    · rw [List.mem_singleton.1 h3]; exact .inr rfl
  · have hsd := drop_sorted hs t
    rw [drop_cons L (0, 0) a1, List.pairwise_cons, a2] at hsd
    exact hsd.1 c hc
theorem TdJ.next {L : List (Pol (Zp p) × Nat)} {a : Pol (Zp p)} {n j t : Nat} (h : TdJ L (mnp n j) t a) (hj : j + 1 < p.toNat ^ n) : TdI L (mnp n (j + 1)) t a := by
  have hlt := mnp_cmp (p := p) (n := n) (i := j) (j := j + 1) (by omega) hj (by omega)
  refine ⟨h.ne, h.lead, h.fac, fun c hc => ?_, fun c hc hx => ?_, h.le⟩
  · rcases h.lo c hc with h1 | h1
    · exact cmpP_tr h1 hlt
    · rw [h1]; exact hlt
  · have h1 := h.hi c hc
    have h2 := len_cmp (cmp_asym h1)
    have h3 := len_cmp (cmp_asym hx)
    rw [mnp_len] at h2 h3
    obtain ⟨i, hi, e⟩ := mnp_ex (p := p) (n := n) (by omega) (h.fac.all c hc).2.1
    rw [e] at h1 hx
    rcases Nat.lt_trichotomy i (j + 1) with h4 | h4 | h4
    · rcases Nat.lt_or_ge i j with h5 | h5
      · exact cmp_asym h1 (mnp_cmp hi (by omega) h5)
      · rw [show i = j by omega] at h1
        exact cmp_irr h1
    · rw [h4] at hx; exact cmp_irr hx
    · exact cmp_asym hx (mnp_cmp hj hi h4)
theorem TdJ.wrap {L : List (Pol (Zp p) × Nat)} {a : Pol (Zp p)} {n j t : Nat} (h : TdJ L (mnp n j) t a) (hj : j + 1 = p.toNat ^ n) : TdI L (mnp (n + 1) 0) t a := by
  refine ⟨h.ne, h.lead, h.fac, fun c hc => ?_, fun c hc hx => ?_, h.le⟩
  · refine cmp_len ?_
    rw [mnp_len]
    rcases h.lo c hc with h1 | h1
    · have := len_cmp (cmp_asym h1)
      rw [mnp_len] at this
      omega
    · rw [h1, mnp_len]; omega
  · have h1 := h.hi c hc
    have h2 := len_cmp (cmp_asym h1)
    have h3 := len_cmp (cmp_asym hx)
    rw [mnp_len] at h2 h3
    have lc := (h.fac.all c hc).2.1
    rcases Nat.lt_or_ge (n + 1) c.1.len with h4 | h4
    · obtain ⟨i, hi, e⟩ := mnp_ex (p := p) (n := n + 1) (by omega) lc
      rw [e] at hx
      rcases Nat.eq_zero_or_pos i with h5 | h5
      · rw [h5] at hx; exact cmp_irr hx
      · exact cmp_asym hx (mnp_cmp (Nat.pow_pos (by have := two_le (p := p); omega)) hi h5)
    · obtain ⟨i, hi, e⟩ := mnp_ex (p := p) (n := n) (by omega) lc
      rw [e] at h1
      rcases Nat.lt_or_ge i j with h5 | h5
      · exact cmp_asym h1 (mnp_cmp hi (by omega) h5)
      · rw [show i = j by omega] at h1
        exact cmp_irr h1
theorem TdI.start {L : List (Pol (Zp p) × Nat)} {A : Pol (Zp p)} (h0 : A ≠ 0) (h1 : A.lead = 1) (h : FacL A 1 L) : TdI L (mnp 1 0) 0 A := by
  refine ⟨h0, h1, h, fun c hc => absurd hc (by simp), fun c hc hx => ?_, Nat.zero_le _⟩
  obtain ⟨c1, c2, _, _⟩ := h.all c hc
  have h3 := len_cmp (cmp_asym hx)
  rw [mnp_len] at h3
  have h4 := c1.two
  obtain ⟨i, hi, e⟩ := mnp_ex (p := p) (n := 1) (a := c.1) (by omega) c2
  rw [e] at hx
  rcases Nat.eq_zero_or_pos i with h5 | h5
  · rw [h5] at hx; exact cmp_irr hx
  · exact cmp_asym hx (mnp_cmp (Nat.pow_pos (by have := two_le (p := p); omega)) hi h5)
/-- What is left at the end. -/
def TdE (L : List (Pol (Zp p) × Nat)) (t : Nat) (a : Pol (Zp p)) : Prop := a.lead = 1 ∧ t ≤ L.length ∧ ((L.drop t = [] ∧ a.len = 1) ∨ L.drop t = [(a, 1)])
theorem TdI.done {L : List (Pol (Zp p) × Nat)} {g a : Pol (Zp p)} {n t : Nat} (h : TdI L g t a) (hg : g.len = n + 1) (ha : a.len ≤ 2 * n) : TdE L t a := by
  refine ⟨h.lead, h.le, ?_⟩
  have hd := h.fac.deg h.ne
  have hp := h.fac.prod h.ne h.lead
  have hall : ∀ c ∈ L.drop t, n ≤ c.2 * (c.1.len - 1) ∧ 1 ≤ c.2 ∧ n ≤ c.1.len - 1 := fun c hc => by
    have h1 := len_cmp (h.hi c hc)
    rw [hg] at h1
    obtain ⟨c1, _, c3, c4⟩ := h.fac.all c hc
    have h2 := (val_pos c1 h.ne).1 c3
    have h3 : 1 ≤ c.2 := by rw [c4]; omega
    exact ⟨Nat.le_trans (show n ≤ c.1.len - 1 by omega) (Nat.le_mul_of_pos_left _ h3), h3, by omega⟩
  match hl : L.drop t, hd, hp, hall with
  | [], hd, _, _ => exact .inl ⟨rfl, hd⟩
  | [c], hd, hp, hall => 
    obtain ⟨h1, h2, h3⟩ := hall c (by simp)
    have hd : a.len = c.2 * (c.1.len - 1) + 0 + 1 := hd
    have e1 : c.2 = 1 := by
      rcases Nat.lt_or_ge c.2 2 with h4 | h4
      · omega
      · have := Nat.mul_le_mul h4 h3
        omega
    have hp : a = Crg.pw c.1 c.2 * 1 := hp
    rw [e1, Crg.pw_one, Crg.mul_one] at hp
    exact .inr (by rw [hp, ← e1])
  | c :: d :: l, hd, _, hall =>
    obtain ⟨h1, _, _⟩ := hall c (by simp)
    obtain ⟨h2, _, _⟩ := hall d (by simp)
    have hd : a.len = c.2 * (c.1.len - 1) + (d.2 * (d.1.len - 1) + l.foldr (fun c s => c.2 * (c.1.len - 1) + s) 0) + 1 := hd
    omega
end
end Go.Proofs.YtlhdliafjconmaaGreat
