/- What is read as data, in abstract words; the last step of a law's row. -/
import Derived.Test.YtlhdliafjconmaaUu6
import Derived.Test.YtlhdliafjconmaaRows
import Derived.ProofKit
import Derived.OpenShut
import Derived.Carry
import Derived.ChangeSame
import Derived.Test.YtlhdliafjconmaaUu5
import Derived.Test.YtlhdliafjconmaaUu13
namespace Go.Proofs.Ytlhdliafjconmaa
open Go.ChangeShapes Go.WideShapes Go.ChangeAt Go.RowKit
theorem lawOwn : ownKnob Try.prog.godebug = none := by kernel_rfl
theorem lawLaid : laidOutB Try.prog = true := by kernel_rfl
section
variable {H : Type} {enc : TypeId × Value → H} {P : Program}
/-- The end of a call that leaves old memory as it was. -/
theorem post_below {f : Func} {s : ChangeSpec} {apart fresh handsOn again : Bool} {W W' : World} {args : Array Value} {v : Value} {ds gs : List (DataW H)} {before pa pv : List MemPlace}
    (hW : DataW.Whole enc P f.params.toList s.vars apart W args.toList ds gs before)
    (hres : ∀ (b : Nat) (sp : Nat → Bool) (hd : Bool), DataW.TrodAll enc P W' b sp hd f.resultTypes.toList (v.resultList f.resultTypes.size) (s.fn H (ds ++ gs)).results [])
    (hargs : ∀ sp : Nat → Bool, (∀ p ∈ before, sp p.block = true) → DataW.TrodAll enc P W' 0 sp true f.params.toList args.toList (s.fn H (ds ++ gs)).args pa)
    (hvars : ∀ sp : Nat → Bool, (∀ p ∈ before, sp p.block = true) → DataW.TrodVars enc P W' sp s.vars (s.fn H (ds ++ gs)).vars pv)
    (hps : before = pa ++ pv) (hb : Below W.heap.size W W')
    (hok : ∀ (j : Nat) (t : TypeId) (r : Value), f.resultTypes[j]? = some t → (v.resultList f.resultTypes.size)[j]? = some r → Value.okWide P W' .any 0 t r) :
    s.post enc P f apart fresh handsOn again W args v W' := by
  have hlt : ∀ p ∈ before, p.block < W.heap.size := fun p hp => hW.lt p hp
  have hold : ∀ p ∈ before, (fun b => decide (b < W.heap.size)) p.block = true := fun p hp => by simpa using hlt p hp
  refine ⟨ds, gs, before, [], pa, pv, hW, hres _ _ _, hargs _ hold, hvars _ hold, World.keptBut_mono (fun p hp => ⟨hp, ?_⟩) (hb.frame (· ∈ before)), fun _ => ?_⟩
  · rw [hps, List.mem_append] at hp
    exact Or.inr hp
  · obtain ⟨_, _, _, _, _, hz, hn⟩ := hW
    refine ⟨hok, _, _, ([] ++ pa) ++ pv, ⟨[] ++ pa, pv, trodAll_append (hargs _ (fun _ _ => rfl)) (hres _ _ _), hvars _ (fun _ _ => rfl), rfl, ?_, ?_⟩, ?_⟩
    · intro b off hp
      have hin : MemPlace.cell b off ∈ before := by rw [hps]; simpa using hp
      rw [hb.frozen (hlt _ hin)]
      exact hz b off hin
    · intro ha
      have := hn ha
      rw [hps] at this
      simpa using this
    · intro p hp _
      rw [hps]
      simpa using hp
/-- What was read reads so behind a call that leaves it. -/
theorem Below.trodS {t : TypeId} (hl : laidOutB P = true) (hr : P.readableRec t = true) (hrow : t < P.types.size) {W W' : World} {sp : Nat → Bool} {v : Value} {d : DataW H} {ps : List MemPlace}
    (h : DataW.Trod enc P W 0 (fun _ => true) true t v d ps) (hb : Below W.heap.size W W') (hlt : ∀ x ∈ ps, x.block < W.heap.size) (hs : ∀ x ∈ ps, sp x.block = true) :
    DataW.Trod enc P W' 0 sp true t v d ps :=
  WideElems.Trod_stays hl hr hrow h (fun x hx => hb.same (hlt x hx)) hs
end
section
variable {H : Type} {enc : TypeId × Value → H} {P : Program} {w : World} {sp : Nat → Bool} {held : Bool}
/-- A slice of which nothing is asked but its length. -/
theorem cell_slice {t e sz fuel : Nat} {cs : List Value} {x : DataW H × List MemPlace} (ht : P.underlying t = some (.slice e)) (hk : P.cellsOf e = sz) (h0 : 0 < sz) (h : DataW.trod enc P w 0 sp held fuel t cs = some x) : ∃ v n, cs = [v] ∧ n ≤ maxLen ∧ CRel (fun _ => False) w [] (.row sz n fun _ _ => .any) v := by
  rcases DataW.trod_slice ht h with ⟨rfl, _⟩ | ⟨a, len, cap, elems, rest, n, _, rfl, _, _, hl, hm, hlen, hel, _⟩
  · exact ⟨_, 0, rfl, Nat.zero_le _, none, 0, rfl, Nat.le_refl _, fun h => absurd h (Nat.lt_irrefl 0)⟩
  · refine ⟨_, len, rfl, by omega, _, cap, rfl, hl, fun hn => ?_⟩
    have get : ∀ i, i < len → ∃ cs', w.cells? 0 (a.add (i * sz)) sz = some cs' := by
      intro i hi
      have := hel i hi
      rw [hk, List.getElem?_eq_getElem (by omega), Option.bind_eq_some_iff] at this
      obtain ⟨cs', h1, _⟩ := this
      exact ⟨cs', h1⟩
    obtain ⟨b, o, spt⟩ := a
    have hs : spt = none ∧ b < w.heap.size := by
      obtain ⟨cs', h1⟩ := get 0 hn
      obtain ⟨_, h2, h3⟩ := World.cells?_some h1
      have h4 := h3 0 h0
      rw [Nat.zero_mul, Addr.add, if_pos rfl, Addr.add, if_pos rfl, List.getElem?_eq_getElem (by omega)] at h4
      unfold World.cell? at h4
      split at h4
      · rename_i hh
        refine ⟨?_, (Array.getElem?_eq_some_iff.1 hh).1⟩
        split at h4
        · cases h4
        · rename_i hs; simpa using hs
      · cases h4
    obtain ⟨rfl, hb⟩ := hs
    refine ⟨b, o, rfl, hb, id, fun i j hi hj => ?_⟩
    obtain ⟨cs', h1⟩ := get i hi
    obtain ⟨_, h2, h3⟩ := World.cells?_some h1
    have h4 := h3 j hj
    rw [add_plain, add_plain, List.getElem?_eq_getElem (by omega)] at h4
    exact ⟨_, by rw [show o + (i * sz + j) = o + i * sz + j by omega]; exact h4, trivial⟩
theorem cell_int {t fuel : Nat} {k : IntKind} {cs : List Value} {x : DataW H × List MemPlace} (ht : P.underlying t = some (.int k)) (h : DataW.trod enc P w 0 sp held fuel t cs = some x) : ∃ n, cs = [.int k n] ∧ (Lit.int k n).wf = true := by
  obtain ⟨n, h1, _, h2⟩ := DataW.trod_int ht h
  exact ⟨n, h1, h2⟩
theorem okWide_agg {r : Reach} {b0 t : Nat} {fs : Array Field} {v : Value} (ht : P.underlying t = some (.struct fs)) (hval : Value.okWide P w r b0 t v) : ∃ cs, v = .agg cs := by
  simp only [Value.okWide, ht] at hval
  obtain ⟨cs, h, _⟩ := hval
  exact ⟨cs, h⟩
end
/-- A law's call, off a contract. -/
theorem law_call {r : Bool} {f : FuncId} {al : List V} (h : FnOK Try.prog r f al (.c (.bool true))) {w : World} {vs : List Value} (hv : VRels (fun _ => False) w [] al vs) : Calls Try.prog f vs.toArray w fun e w' => e = .returned (.bool true) ∧ Below w.heap.size w w' :=
  (h.2 (fun _ => False) w vs (fun b hb => hb.elim) (fun _ b o d hb => hb.elim) hv).mono fun _ _ ⟨v, he, hv, hb⟩ => ⟨by rw [he, show v = .bool true from hv], hb⟩
end Go.Proofs.Ytlhdliafjconmaa
/- The argument of the statements about polynomials modulo a prime, opened. -/
namespace Go.Proofs.Ytlhdliafjconmaa
open Go.ChangeShapes Go.WideShapes Go.ChangeAt Go.RowKit
namespace Fp
/-- The argument of the statements about polynomials modulo a prime. -/
abbrev PP (p : Int) (n m l q : Nat) (a c : Nat → Int) (s : Bool) (x : Int) : V := .g [.int .i64 p, il n a, il m c, .row 1 l fun _ _ => .any, .bool s, .row 1 q fun _ _ => .any, .int .i64 x]
end Fp
section
variable {H : Type} {enc : TypeId × Value → H} {P : Program} {w : World} {sp : Nat → Bool} {held : Bool}
/-- A slice of machine integers. -/
theorem cell_ints {t e fuel : Nat} {cs : List Value} {x : DataW H × List MemPlace} (ht : P.underlying t = some (.slice e)) (hk : P.cellsOf e = 1) (he : P.underlying e = some (.int .i64)) (h : DataW.trod enc P w 0 sp held fuel t cs = some x) : ∃ v n a, cs = [v] ∧ n ≤ maxLen ∧ CRel (fun _ => False) w [] (il n a) v := by
  rcases DataW.trod_slice ht h with ⟨rfl, _⟩ | ⟨a, len, cap, elems, rest, n, _, rfl, _, _, hl, hm, hlen, hel, _⟩
  · exact ⟨_, 0, fun _ => 0, rfl, Nat.zero_le _, none, 0, rfl, Nat.le_refl _, fun h => absurd h (Nat.lt_irrefl 0)⟩
  · have get : ∀ i, i < len → ∃ k, w.cells? 0 (a.add (i * 1)) 1 = some [.int .i64 k] := by
      intro i hi
      have := hel i hi
      rw [hk, List.getElem?_eq_getElem (by omega), Option.bind_eq_some_iff] at this
      obtain ⟨cs', h1, h2⟩ := this
      obtain ⟨k, e1, _⟩ := cell_int he h2
      exact ⟨k, by rw [h1, e1]⟩
    obtain ⟨f, get'⟩ : ∃ f : Nat → Int, ∀ i, i < len → w.cells? 0 (a.add (i * 1)) 1 = some [.int .i64 (f i)] :=
      ⟨fun i => if h : i < len then (get i h).choose else 0, fun i hi => by
        show w.cells? 0 (a.add (i * 1)) 1 = some [.int .i64 (if h : i < len then (get i h).choose else 0)]
        rw [dif_pos hi]; exact (get i hi).choose_spec⟩
    refine ⟨_, len, f, rfl, by omega, _, cap, rfl, hl, fun hn => ?_⟩
    obtain ⟨b, o, spt⟩ := a
    have hs : spt = none ∧ b < w.heap.size := by
      obtain ⟨_, h2, h3⟩ := World.cells?_some (get' 0 hn)
      have h4 := h3 0 (by decide)
      rw [Nat.zero_mul, Addr.add, if_pos rfl, Addr.add, if_pos rfl, List.getElem?_eq_getElem (by simp)] at h4
      unfold World.cell? at h4
      split at h4
      · rename_i hh
        refine ⟨?_, (Array.getElem?_eq_some_iff.1 hh).1⟩
        split at h4
        · cases h4
        · rename_i hs; simpa using hs
      · cases h4
    obtain ⟨rfl, hb⟩ := hs
    refine ⟨b, o, rfl, hb, id, fun i j hi hj => ?_⟩
    obtain rfl : j = 0 := by omega
    obtain ⟨_, h2, h3⟩ := World.cells?_some (get' i hi)
    have h4 := h3 0 (by decide)
    rw [add_plain, add_plain, List.getElem?_eq_getElem (by simp)] at h4
    exact ⟨_, by rw [show o + (i * 1 + 0) = o + i * 1 + 0 by omega]; exact h4, rfl⟩
theorem trod_struct2 {t : TypeId} {f0 f1 : Field} {fuel : Nat} {cs : List Value} {x : DataW H × List MemPlace} (ht : P.underlying t = some (.struct #[f0, f1])) (h : DataW.trod enc P w 0 sp held fuel t cs = some x) :
    ∃ y0 y1 n, cs.length = P.cellsOf t ∧ DataW.trod enc P w 0 sp held n f0.type ((cs.drop f0.offset).take (P.cellsOf f0.type)) = some y0 ∧ DataW.trod enc P w 0 sp held n f1.type ((cs.drop f1.offset).take (P.cellsOf f1.type)) = some y1 := by
  obtain ⟨xs, n, _, rfl, hl, hlen, hf⟩ := DataW.trod_struct ht h
  match xs, hlen with
  | [y0, y1], _ => exact ⟨y0, y1, n, hl, by simpa using hf 0 f0 rfl, by simpa using hf 1 f1 rfl⟩
theorem trod_struct6 {t : TypeId} {f0 f1 f2 f3 f4 f5 : Field} {fuel : Nat} {cs : List Value} {x : DataW H × List MemPlace} (ht : P.underlying t = some (.struct #[f0, f1, f2, f3, f4, f5])) (h : DataW.trod enc P w 0 sp held fuel t cs = some x) :
    ∃ y0 y1 y2 y3 y4 y5 n, cs.length = P.cellsOf t ∧ DataW.trod enc P w 0 sp held n f0.type ((cs.drop f0.offset).take (P.cellsOf f0.type)) = some y0 ∧ DataW.trod enc P w 0 sp held n f1.type ((cs.drop f1.offset).take (P.cellsOf f1.type)) = some y1 ∧ DataW.trod enc P w 0 sp held n f2.type ((cs.drop f2.offset).take (P.cellsOf f2.type)) = some y2 ∧ DataW.trod enc P w 0 sp held n f3.type ((cs.drop f3.offset).take (P.cellsOf f3.type)) = some y3 ∧ DataW.trod enc P w 0 sp held n f4.type ((cs.drop f4.offset).take (P.cellsOf f4.type)) = some y4 ∧ DataW.trod enc P w 0 sp held n f5.type ((cs.drop f5.offset).take (P.cellsOf f5.type)) = some y5 := by
  obtain ⟨xs, n, _, rfl, hl, hlen, hf⟩ := DataW.trod_struct ht h
  match xs, hlen with
  | [y0, y1, y2, y3, y4, y5], _ => exact ⟨y0, y1, y2, y3, y4, y5, n, hl, by simpa using hf 0 f0 rfl, by simpa using hf 1 f1 rfl, by simpa using hf 2 f2 rfl, by simpa using hf 3 f3 rfl, by simpa using hf 4 f4 rfl, by simpa using hf 5 f5 rfl⟩
end
section
variable {H : Type} {enc : TypeId × Value → H} {w : World} {sp : Nat → Bool} {held : Bool}
theorem cellsPolys : Try.prog.cellsOf 28 = 7 := by kernel_rfl
theorem cellsFPoly : Try.prog.cellsOf 23 = 1 := by kernel_rfl
theorem cellsInt1 : Try.prog.cellsOf 3 = 1 := by kernel_rfl
theorem cellsBig : Try.prog.cellsOf 26 = 2 := by kernel_rfl
theorem cellsBool : Try.prog.cellsOf 4 = 1 := by kernel_rfl
theorem cellsMag : Try.prog.cellsOf 24 = 1 := by kernel_rfl
theorem cellsU32 : Try.prog.cellsOf 81 = 1 := by kernel_rfl
set_option maxRecDepth 100000 in
theorem open_polys {r : Reach} {b0 : Nat} {v : Value} {d : DataW H} {ps : List MemPlace} (hval : Value.okWide Try.prog w r b0 28 v) (hd : DataW.Trod enc Try.prog w 0 sp held 28 v d ps) : ∃ (p x : Int) (n m l q : Nat) (a c : Nat → Int) (s : Bool), VRel (fun _ => False) w [] (Fp.PP p n m l q a c s x) v := by
  obtain ⟨cs, rfl⟩ := okWide_agg Try.underlying28 hval
  obtain ⟨fuel, hf⟩ := hd
  obtain ⟨y0, y1, y2, y3, y4, y5, n, hl, h0, h1, h2, h3, h4, h5⟩ := trod_struct6 Try.underlying28 hf
  simp only [cellsInt1, cellsFPoly, cellsBig] at h0 h1 h2 h3 h4 h5
  obtain ⟨z0, z1, n', hl', k0, k1⟩ := trod_struct2 Try.underlying26 h4
  simp only [cellsBool, cellsMag] at k0 k1
  obtain ⟨p, e0, _⟩ := cell_int Try.underlying3 h0
  obtain ⟨u1, m1, a1, e1, _, g1⟩ := cell_ints Try.underlying23 cellsInt1 Try.underlying3 h1
  obtain ⟨u2, m2, a2, e2, _, g2⟩ := cell_ints Try.underlying23 cellsInt1 Try.underlying3 h2
  obtain ⟨u3, m3, e3, _, g3⟩ := cell_slice Try.underlying23 cellsInt1 (by decide) h3
  obtain ⟨s, e4, _⟩ := DataW.trod_bool Try.underlying4 k0
  obtain ⟨u5, m5, e5, _, g5⟩ := cell_slice Try.underlying24 cellsU32 (by decide) k1
  obtain ⟨x, e6, _⟩ := cell_int Try.underlying3 h5
  refine ⟨p, x, m1, m2, m3, m5, a1, a2, s, cs, rfl, ?_⟩
  have hl : cs.toList.length = 7 := by rw [← cellsPolys]; exact hl
  change (cs.toList.drop 0).take 1 = _ at e0
  change (cs.toList.drop 1).take 1 = _ at e1
  change (cs.toList.drop 2).take 1 = _ at e2
  change (cs.toList.drop 3).take 1 = _ at e3
  change (((cs.toList.drop 4).take 2).drop 0).take 1 = _ at e4
  change (((cs.toList.drop 4).take 2).drop 1).take 1 = _ at e5
  change (cs.toList.drop 6).take 1 = _ at e6
  match hcs : cs.toList, hl with
  | [x0, x1, x2, x3, x4, x5, x6], _ =>
    rw [hcs] at e0 e1 e2 e3 e4 e5 e6
    simp at e0 e1 e2 e3 e4 e5 e6
    subst e0; subst e1; subst e2; subst e3; subst e4; subst e5; subst e6
    exact ⟨rfl, g1, g2, g3, rfl, g5, rfl, trivial⟩
end
end Go.Proofs.Ytlhdliafjconmaa
/- The law FpolyUnique, as a contract. -/
namespace Go.Proofs.Ytlhdliafjconmaa
open Go.RowKit
section
variable {p : Int} [hp : Prm p]
theorem same_pol {a b : Pol (Zp p)} : Fp.same (ofP a).1 (ofP b).1 (ofP a).2 (ofP b).2 ↔ a = b := by
  refine ⟨fun h => ?_, fun h => by rw [h]; exact ⟨rfl, fun _ _ => rfl⟩⟩
  obtain ⟨h1, h2⟩ := h
  have h1 : a.len = b.len := h1
  refine Pol.ext fun i => ?_
  rcases Nat.lt_or_ge i a.len with h3 | h3
  · exact Zp.ext (h2 i h3)
  · rw [Pol.len_out a i h3, Pol.len_out b i (by omega)]
open Classical in
theorem ints_P {a b : Pol (Zp p)} (ha : a.len ≤ 4096) (hb : b.len ≤ 4096) : FnOK Try.prog false 10 [pl a, pl b] (.c (.bool (decide (a = b)))) := by
  have h := Fp.ints_ok (n := (ofP a).1) (m := (ofP b).1) (a := (ofP a).2) (b := (ofP b).2) (show a.len ≤ 1048576 by omega) (show b.len ≤ 1048576 by omega)
  rw [decide_eq_decide.2 (same_pol (a := a) (b := b))] at h
  exact h
theorem ints_yes {a b : Pol (Zp p)} (ha : a.len ≤ 4096) (hb : b.len ≤ 4096) (h : a = b) : FnOK Try.prog false 10 [pl a, pl b] (.c (.bool true)) := by
  have k := ints_P ha hb
  rwa [@decide_eq_true _ (Classical.propDecidable _) h] at k
theorem ints_no {a b : Pol (Zp p)} (ha : a.len ≤ 4096) (hb : b.len ≤ 4096) (h : a ≠ b) : FnOK Try.prog false 10 [pl a, pl b] (.c (.bool false)) := by
  have k := ints_P ha hb
  rwa [@decide_eq_false _ (Classical.propDecidable _) h] at k
open Classical in
/-- The exponent of a polynomial among factors. -/
noncomputable def expo (P : Pol (Zp p)) : List (Pol (Zp p) × Nat) → Nat
  | [] => 0
  | c :: l => if c.1 = P then c.2 else expo P l
theorem expo_mem {P : Pol (Zp p)} : ∀ {l : List (Pol (Zp p) × Nat)} {e : Nat}, l.Pairwise (fun a b => a.1 ≠ b.1) → (P, e) ∈ l → expo P l = e
  | [], e, _, h => absurd h (by simp)
  | c :: l, e, hn, h => by
    rw [List.pairwise_cons] at hn
    unfold expo
    rcases List.mem_cons.1 h with h1 | h1
    · rw [← h1, if_pos rfl]
    · rw [if_neg (hn.1 _ h1)]
      exact expo_mem hn.2 h1
theorem expo_not {P : Pol (Zp p)} : ∀ {l : List (Pol (Zp p) × Nat)}, (∀ c ∈ l, c.1 ≠ P) → expo P l = 0
  | [], _ => rfl
  | c :: l, h => by
    unfold expo
    rw [if_neg (h c (by simp))]
    exact expo_not fun c hc => h c (by simp [hc])
theorem expo_val {f P : Pol (Zp p)} {l : List (Pol (Zp p) × Nat)} (h : FacL f 1 l) (h0 : f ≠ 0) (hP : Pol.Irr P) (lP : P.lead = 1) : expo P l = val P f := by
  by_cases hd : Pol.Dvs P f
  · have := expo_mem h.nd (h.mem P hP lP hd)
    rwa [Nat.one_mul] at this
  · rw [expo_not fun c hc e => hd (by rw [← e]; exact (h.all c hc).2.2.1)]
    have : ¬ 1 ≤ val P f := fun h1 => hd ((val_pos hP h0).2 h1)
    omega
theorem drop_cons {α : Type} (l : List α) (d : α) {i : Nat} (h : i < l.length) : l.drop i = l.getD i d :: l.drop (i + 1) := by
  rw [List.drop_eq_getElem_cons h, List.getD_eq_getElem?_getD, List.getElem?_eq_getElem h]
  rfl
set_option maxHeartbeats 8000000 in
theorem exponent_ok {P : Pol (Zp p)} {l : List (Pol (Zp p) × Nat)} (hP : P.len ≤ 4096) (hl : l.length ≤ 4096) (hc : ∀ c ∈ l, c.1.len ≤ 4096) : FnOK Try.prog false 9 [.c (.row 2 l.length (fcs l)), pl P] (.c (.int .i64 (expo P l))) := by
  have hmem : ∀ i, i < l.length → (l.getD i (0, 0)).1.len ≤ 4096 := fun i hi => hc _ (by
    rw [List.getD_eq_getElem?_getD, List.getElem?_eq_getElem hi]
    exact List.getElem_mem hi)
  refine fn_ok (E := E0) E0_ok Try.func9 rfl mixed (by kernel_rfl) (by kernel_rfl) ?_
  conv => whnf
  refine loop_ints (fun i : Nat => gst [(0, .c (.row 2 l.length (fcs l))), (1, pl P), (5, .c (.int .i64 i))] []) (fun i => l.length - i) (fun i => i ≤ l.length ∧ expo P l = expo P (l.drop i)) 0 rfl ?_ ⟨Nat.zero_le _, rfl⟩ fun i hi => ?_
  · exact Weak.gen [] rfl trivial ⟨.inl ⟨_, _, rfl, rfl, fun _ _ _ _ => rfl⟩, .inl ⟨_, _, rfl, rfl, fun _ _ _ _ => rfl⟩, ⟨_, rfl, rfl⟩, trivial⟩
  obtain ⟨hi1, hi2⟩ := hi
  rcases Nat.lt_or_ge i l.length with h | h
  · have hd := drop_cons l (0, 0) h
    by_cases e : (l.getD i (0, 0)).1 = P
    · have k := ints_yes (hmem i h) hP e
      have he : expo P l = (l.getD i (0, 0)).2 := by
        rw [hi2, hd]
        unfold expo
        rw [if_pos e]
      conv => whnf
      refine bpos (show decide ((i : Int) < (l.length : Int)) = true from decide_eq_true (by omega)) ?_
      conv => whnf
      refine ⟨by omega, by omega, ?_⟩
      conv => whnf
      refine ⟨_, k, ?_⟩
      conv => whnf
      refine ⟨by omega, by omega, ?_⟩
      conv => whnf
      exact ⟨rfl, sub_int (by rw [he]; rfl)⟩
    · have k := ints_no (hmem i h) hP e
      have he : expo P l = expo P (l.drop (i + 1)) := by
        rw [hi2, hd]
        conv => lhs; unfold expo
        rw [if_neg e]
      conv => whnf
      refine bpos (show decide ((i : Int) < (l.length : Int)) = true from decide_eq_true (by omega)) ?_
      conv => whnf
      refine ⟨by omega, by omega, ?_⟩
      conv => whnf
      refine ⟨_, k, ?_⟩
      conv => whnf
      refine ⟨Fp.i64 (by omega) (by omega), ?_⟩
      conv => whnf
      exact ⟨i + 1, by omega, Weak.gen [] rfl trivial ⟨.inl ⟨_, _, rfl, rfl, fun _ _ _ _ => rfl⟩, .inl ⟨_, _, rfl, rfl, fun _ _ _ _ => rfl⟩, ⟨_, rfl, rfl⟩, trivial⟩, by omega, he⟩
  · obtain rfl : i = l.length := by omega
    have he : expo P l = 0 := by rw [hi2, List.drop_length]; rfl
    conv => whnf
    refine bneg (show decide ((l.length : Int) < (l.length : Int)) = false from decide_eq_false (by omega)) ?_
    conv => whnf
    exact ⟨rfl, sub_int (by rw [he]; rfl)⟩
/-- The degrees up to a place. -/
noncomputable def tdeg (l : List (Pol (Zp p) × Nat)) : Nat → Nat
  | 0 => 0
  | i + 1 => tdeg l i + (l.getD i (0, 0)).2 * ((l.getD i (0, 0)).1.len - 1)
theorem tdeg_cons (c : Pol (Zp p) × Nat) (l : List (Pol (Zp p) × Nat)) : ∀ i, tdeg (c :: l) (i + 1) = c.2 * (c.1.len - 1) + tdeg l i
  | 0 => by show 0 + _ = _ + 0; rw [Nat.zero_add]; rfl
  | i + 1 => by
    show tdeg (c :: l) (i + 1) + _ = _ + (tdeg l i + _)
    rw [tdeg_cons c l i, Nat.add_assoc]
    rfl
theorem tdeg_all : ∀ l : List (Pol (Zp p) × Nat), tdeg l l.length = l.foldr (fun c s => c.2 * (c.1.len - 1) + s) 0
  | [] => rfl
  | c :: l => by
    show tdeg (c :: l) (l.length + 1) = _
    rw [tdeg_cons, tdeg_all l]
    rfl
theorem tdeg_mono (l : List (Pol (Zp p) × Nat)) {i j : Nat} (h : i ≤ j) : tdeg l i ≤ tdeg l j := by
  induction j with
  | zero => rw [show i = 0 by omega]; exact Nat.le_refl _
  | succ j ih =>
    rcases Nat.lt_or_ge i (j + 1) with h1 | h1
    · exact Nat.le_trans (ih (by omega)) (Nat.le_add_right _ _)
    · rw [show i = j + 1 by omega]; exact Nat.le_refl _
end
end Go.Proofs.Ytlhdliafjconmaa
/- The law FpolyUnique: the walk. -/
namespace Go.Proofs.Ytlhdliafjconmaa
open Go.RowKit
section
variable {p : Int}
theorem pol_of [hp : Prm p] {z : Fp.L} (hz : Fp.NL p z) : ∃ c : Pol (Zp p), z = ofP c :=
  ⟨⟨fun i => Zp.red (z.2 i), z.1, fun j hj => by rw [hz.z j hj]; rfl⟩, ofP_eq hz fun _ => rfl⟩
theorem Mul_P [hp : Prm p] (hm : Fp.md p) {n m : Nat} {a c : Nat → Int} {F G : Pol (Zp p)} (hn : n ≤ 1024) (hm2 : m ≤ 1024) (eF : Fp.nfL p (n, a) = ofP F) (eG : Fp.nfL p (m, c) = ofP G) : FnOK Try.prog false 7 [.c (.int .i64 p), .c (il n a), .c (il m c)] (.t2 (pl (F * G)) (.c (.int .i64 0))) := by
  have lF : F.len ≤ n := by have := Fp.nfL_le p (n, a); rw [eF] at this; exact this
  have lG : G.len ≤ m := by have := Fp.nfL_le p (m, c); rw [eG] at this; exact this
  have k := times_P hm (a := F) (b := G) (by omega) (by omega)
  have k2 : FnOK Try.prog false 14 [.c (.int .i64 p), Fp.cl (Fp.nfL p (n, a)), Fp.cl (Fp.nfL p (m, c))] (pl (F * G)) := by rw [eF, eG]; exact k
  exact Fp.mul_ok (k := (F * G).len) (X := fun i => ((F * G).f i).v) hm (by omega) (by omega) k2
set_option maxHeartbeats 8000000 in
/-- Where nothing is asked. -/
theorem uniq_out {x : Int} {n m l q : Nat} {a c : Nat → Int} {s : Bool} (haw : FnOK Try.prog true 4 [] (.c (.bool true))) (h : 12 < n ∨ 12 < m ∨ ¬ Fp.md p ∨ Fp.tl (Fp.nf p n a) n = 0 ∨ Fp.tl (Fp.nf p m c) m = 0) : FnOK Try.prog true 3 [Fp.PP p n m l q a c s x] (.c (.bool true)) := by
  have k1 := (Fp.refModulus_ok (p := p)).weak (r := true)
  by_cases h1 : 12 < n
  · refine fn_ok (E := E1) E1_ok Try.func3 rfl mixed (by kernel_rfl) (by kernel_rfl) ?_
    conv => whnf
    refine ⟨_, haw, ?_⟩
    conv => whnf
    refine bneg (show gw false (decide ((12 : Int) < (n : Int))) = false by rw [decide_eq_true (by omega)]; rfl) ?_
    conv => whnf
    exact ⟨rfl, Sub.refl _⟩
  by_cases h2 : 12 < m
  · refine fn_ok (E := E1) E1_ok Try.func3 rfl mixed (by kernel_rfl) (by kernel_rfl) ?_
    conv => whnf
    refine ⟨_, haw, ?_⟩
    conv => whnf
    refine bpos (show gw false (decide ((12 : Int) < (n : Int))) = true by rw [decide_eq_false (by omega)]; rfl) ?_
    conv => whnf
    refine bneg (show gw false (decide ((12 : Int) < (m : Int))) = false by rw [decide_eq_true (by omega)]; rfl) ?_
    conv => whnf
    exact ⟨rfl, Sub.refl _⟩
  by_cases h3 : Fp.md p
  · have hm1 := h3.1
    have hm2 := h3.2.1
    have k1 : FnOK Try.prog true 5 [.c (.int .i64 p)] (.c (.bool true)) := by rwa [@decide_eq_true _ (Classical.propDecidable _) h3] at k1
    have d1 := (Fp.degree_ok (p := p) (n := n) (a := a) (by omega) hm2 (by omega)).weak (r := true)
    have d2 := (Fp.degree_ok (p := p) (n := m) (a := c) (by omega) hm2 (by omega)).weak (r := true)
    by_cases h4 : Fp.tl (Fp.nf p n a) n = 0
    · rw [h4] at d1
      refine fn_ok (E := E1) E1_ok Try.func3 rfl mixed (by kernel_rfl) (by kernel_rfl) ?_
      conv => whnf
      refine ⟨_, haw, ?_⟩
      conv => whnf
      refine bpos (show gw false (decide ((12 : Int) < (n : Int))) = true by rw [decide_eq_false (by omega)]; rfl) ?_
      conv => whnf
      refine bpos (show gw false (decide ((12 : Int) < (m : Int))) = true by rw [decide_eq_false (by omega)]; rfl) ?_
      conv => whnf
      refine ⟨_, k1, ?_⟩
      conv => whnf
      refine ⟨_, d1, ?_⟩
      conv => whnf
      exact ⟨rfl, Sub.refl _⟩
    · have h5 : Fp.tl (Fp.nf p m c) m = 0 := by
        rcases h with e | e | e | e | e
        · exact absurd e h1
        · exact absurd e h2
        · exact absurd h3 e
        · exact absurd e h4
        · exact e
      rw [h5] at d2
      generalize Fp.tl (Fp.nf p n a) n = N at *
      refine fn_ok (E := E1) E1_ok Try.func3 rfl mixed (by kernel_rfl) (by kernel_rfl) ?_
      conv => whnf
      refine ⟨_, haw, ?_⟩
      conv => whnf
      refine bpos (show gw false (decide ((12 : Int) < (n : Int))) = true by rw [decide_eq_false (by omega)]; rfl) ?_
      conv => whnf
      refine bpos (show gw false (decide ((12 : Int) < (m : Int))) = true by rw [decide_eq_false (by omega)]; rfl) ?_
      conv => whnf
      refine ⟨_, k1, ?_⟩
      conv => whnf
      refine ⟨_, d1, ?_⟩
      conv => whnf
      refine bpos (show gw false (decide ((N : Int) - 1 < 0)) = true by rw [decide_eq_false (by omega)]; rfl) ?_
      conv => whnf
      refine ⟨_, d2, ?_⟩
      conv => whnf
      exact ⟨rfl, Sub.refl _⟩
  · have k1 : FnOK Try.prog true 5 [.c (.int .i64 p)] (.c (.bool false)) := by rwa [@decide_eq_false _ (Classical.propDecidable _) h3] at k1
    refine fn_ok (E := E1) E1_ok Try.func3 rfl mixed (by kernel_rfl) (by kernel_rfl) ?_
    conv => whnf
    refine ⟨_, haw, ?_⟩
    conv => whnf
    refine bpos (show gw false (decide ((12 : Int) < (n : Int))) = true by rw [decide_eq_false (by omega)]; rfl) ?_
    conv => whnf
    refine bpos (show gw false (decide ((12 : Int) < (m : Int))) = true by rw [decide_eq_false (by omega)]; rfl) ?_
    conv => whnf
    refine ⟨_, k1, ?_⟩
    conv => whnf
    exact ⟨rfl, Sub.refl _⟩
set_option maxHeartbeats 16000000 in
theorem uniq_in [hp : Prm p] {x : Int} {n m l q : Nat} {a c : Nat → Int} {s : Bool} (haw : FnOK Try.prog true 4 [] (.c (.bool true))) (h1 : n ≤ 12) (h2 : m ≤ 12) (h3 : Fp.md p) {F G : Pol (Zp p)} (f0 : F ≠ 0) (g0 : G ≠ 0) (eF : Fp.nfL p (n, a) = ofP F) (eG : Fp.nfL p (m, c) = ofP G) : FnOK Try.prog true 3 [Fp.PP p n m l q a c s x] (.c (.bool true)) := by
  have hm1 := h3.1
  have hm2 := h3.2.1
  have lF : F.len ≤ n := by have := Fp.nfL_le p (n, a); rw [eF] at this; exact this
  have lG : G.len ≤ m := by have := Fp.nfL_le p (m, c); rw [eG] at this; exact this
  have k1 : FnOK Try.prog true 5 [.c (.int .i64 p)] (.c (.bool true)) := by
    have k1 := (Fp.refModulus_ok (p := p)).weak (r := true)
    rwa [@decide_eq_true _ (Classical.propDecidable _) h3] at k1
  have d1 := (Fp.degree_ok (p := p) (n := n) (a := a) (by omega) hm2 (by omega)).weak (r := true)
  have d2 := (Fp.degree_ok (p := p) (n := m) (a := c) (by omega) hm2 (by omega)).weak (r := true)
  rw [show Fp.tl (Fp.nf p n a) n = F.len from congrArg Prod.fst eF] at d1
  rw [show Fp.tl (Fp.nf p m c) m = G.len from congrArg Prod.fst eG] at d2
  have pF := Pol.len_pos f0
  have pG := Pol.len_pos g0
  have km := (Mul_P h3 (n := n) (m := m) (a := a) (c := c) (by omega) (by omega) eF eG).weak (r := true)
  have hH := Pol.len_mul f0 g0
  have H0 : F * G ≠ 0 := Pol.ne_of_len (by omega)
  obtain ⟨L, sL, nL, kL⟩ := Factor_P h3 (x := (n, a)) (by show n ≤ 4096; omega) eF f0 (by omega)
  obtain ⟨M, sM, nM, kM⟩ := Factor_P h3 (x := (m, c)) (by show m ≤ 4096; omega) eG g0 (by omega)
  obtain ⟨R, sR, nR, kR⟩ := Factor_P h3 (x := ofP (F * G)) (by show (F * G).len ≤ 4096; omega) (Fp.nfL_id (ofP_NL (F * G) (by omega))) H0 (by omega)
  have hz : Int.tmod (F.lead.v * G.lead.v) p = (F * G).lead.v := by
    rw [Pol.lead_mul f0 g0, Int.tmod_eq_emod_of_nonneg (Int.mul_nonneg F.lead.r.1 G.lead.r.1)]
    rfl
  have hlc : ∀ {f : Pol (Zp p)} {K : List (Pol (Zp p) × Nat)}, f ≠ 0 → f.len ≤ 65 → FacS f K → ∀ c ∈ K, c.1.len ≤ 4096 := fun h0 hl hK c hc => by
    have := (hK.f.all c hc).2.2.1.len h0
    omega
  have cL := hlc f0 (by omega) sL
  have cM := hlc g0 (by omega) sM
  have cR := hlc H0 (by omega) sR
  have hget : ∀ i, i < R.length → Pol.Irr (R.getD i (0, 0)).1 ∧ (R.getD i (0, 0)).1.lead = 1 ∧ (R.getD i (0, 0)).2 = val (R.getD i (0, 0)).1 (F * G) ∧ (R.getD i (0, 0)).1.len ≤ 4096 := fun i hi => by
    have hmem : R.getD i (0, 0) ∈ R := by
      rw [List.getD_eq_getElem?_getD, List.getElem?_eq_getElem hi]
      exact List.getElem_mem hi
    obtain ⟨a1, a2, a3, a4⟩ := sR.f.all _ hmem
    exact ⟨a1, a2, by rw [a4, Nat.one_mul], cR _ hmem⟩
  have hsum : ∀ i, i < R.length → expo (R.getD i (0, 0)).1 L + expo (R.getD i (0, 0)).1 M = (R.getD i (0, 0)).2 := fun i hi => by
    obtain ⟨a1, a2, a3, _⟩ := hget i hi
    rw [expo_val sL.f f0 a1 a2, expo_val sM.f g0 a1 a2, a3, val_mul a1 f0 g0]
  have kx : ∀ i, i < R.length → FnOK Try.prog true 9 [.c (.row 2 L.length (fcs L)), pl (R.getD i (0, 0)).1] (.c (.int .i64 (expo (R.getD i (0, 0)).1 L))) := fun i hi => (exponent_ok (hget i hi).2.2.2 (by omega) cL).weak
  have ky : ∀ i, i < R.length → FnOK Try.prog true 9 [.c (.row 2 M.length (fcs M)), pl (R.getD i (0, 0)).1] (.c (.int .i64 (expo (R.getD i (0, 0)).1 M))) := fun i hi => (exponent_ok (hget i hi).2.2.2 (by omega) cM).weak
  have hdeg := sR.f.deg H0
  rw [← tdeg_all R] at hdeg
  have hex : ∀ i, i < R.length → (R.getD i (0, 0)).2 < 100 := fun i hi => by
    obtain ⟨a1, _, a3, _⟩ := hget i hi
    have := val_lt_len a1 H0
    omega
  have htd : ∀ i, i ≤ R.length → tdeg R i ≤ 64 := fun i hi => by
    have := tdeg_mono R hi
    omega
  have hstep : ∀ i, ((tdeg R (i + 1) : Nat) : Int) = (tdeg R i : Nat) + ((R.getD i (0, 0)).2 : Nat) * (((R.getD i (0, 0)).1.len - 1 : Nat) : Int) := fun i => by
    show ((tdeg R i + (R.getD i (0, 0)).2 * ((R.getD i (0, 0)).1.len - 1) : Nat) : Int) = _
    rw [Int.natCast_add, Int.natCast_mul]
  have hll : ∀ i, i < R.length → 2 ≤ (R.getD i (0, 0)).1.len := fun i hi => (hget i hi).1.two
  have rF := F.lead.r
  have rG := G.lead.r
  have hmul0 : 0 ≤ F.lead.v * G.lead.v := Int.mul_nonneg rF.1 rG.1
  have hmul1 : F.lead.v * G.lead.v ≤ 65521 * 65521 := Int.mul_le_mul (by omega) (by omega) rG.1 (by decide)
  generalize F.lead.v = fa at *
  generalize G.lead.v = ga at *
  generalize hHl : (F * G).lead.v = ha at *
  refine fn_ok (E := E1) E1_ok Try.func3 rfl mixed (by kernel_rfl) (by kernel_rfl) ?_
  conv => whnf
  refine ⟨_, haw, ?_⟩
  conv => whnf
  refine bpos (show gw false (decide ((12 : Int) < (n : Int))) = true by rw [decide_eq_false (by omega)]; rfl) ?_
  conv => whnf
  refine bpos (show gw false (decide ((12 : Int) < (m : Int))) = true by rw [decide_eq_false (by omega)]; rfl) ?_
  conv => whnf
  refine ⟨_, k1, ?_⟩
  conv => whnf
  refine ⟨_, d1, ?_⟩
  conv => whnf
  refine bpos (show gw false (decide ((F.len : Int) - 1 < 0)) = true by rw [decide_eq_false (by omega)]; rfl) ?_
  conv => whnf
  refine ⟨_, d2, ?_⟩
  conv => whnf
  refine bneg (show decide ((G.len : Int) - 1 < 0) = false from decide_eq_false (by omega)) ?_
  conv => whnf
  refine ⟨_, km, ?_⟩
  conv => whnf
  refine ⟨_, kL, ?_⟩
  conv => whnf
  refine ⟨_, kM, ?_⟩
  conv => whnf
  refine ⟨_, kR, ?_⟩
  conv => whnf
  refine ⟨Fp.i64 (by omega) (by omega), ?_⟩
  conv => whnf
  refine ⟨by omega, ?_⟩
  conv => whnf
  refine bneg (show (!decide (Int.tmod (fa * ga) p = ha)) = false by rw [decide_eq_true hz]; rfl) ?_
  conv => whnf
  refine loop_ints (fun i : Nat => gst [(3, pl (F * G)), (6, .c (.row 2 L.length (fcs L))), (9, .c (.row 2 M.length (fcs M))), (12, .c (.row 2 R.length (fcs R))), (14, .c (.int .i64 (tdeg R i : Nat))), (15, .c (.int .i64 i))] []) (fun i => R.length - i) (fun i => i ≤ R.length) 0 rfl ?_ (Nat.zero_le _) fun i hi => ?_
  · exact Weak.gen [] rfl trivial ⟨.inl ⟨_, _, rfl, rfl, fun _ _ _ _ => rfl⟩, .inl ⟨_, _, rfl, rfl, fun _ _ _ _ => rfl⟩, .inl ⟨_, _, rfl, rfl, fun _ _ _ _ => rfl⟩, .inl ⟨_, _, rfl, rfl, fun _ _ _ _ => rfl⟩, ⟨_, rfl, rfl⟩, ⟨_, rfl, rfl⟩, trivial⟩
  have kx := kx i
  have ky := ky i
  have hsum := hsum i
  have hstep := hstep i
  have hex := hex i
  have htd0 := htd i hi
  have htd1 := htd (i + 1)
  have hll := hll i
  rcases Nat.lt_or_ge i R.length with h | h
  · have kx := kx h
    have ky := ky h
    have hsum := hsum h
    have hex := hex h
    have htd1 := htd1 h
    have hll := hll h
    have hlp : (((R.getD i (0, 0)).1.len - 1 : Nat) : Int) = ((ofP (R.getD i (0, 0)).1).1 : Int) - 1 := by
      show _ = ((R.getD i (0, 0)).1.len : Int) - 1
      omega
    rw [hlp] at hstep
    have hmn : 0 ≤ ((R.getD i (0, 0)).2 : Int) * (((ofP (R.getD i (0, 0)).1).1 : Int) - 1) := by
      rw [← hlp]
      exact Int.mul_nonneg (Int.natCast_nonneg _) (Int.natCast_nonneg _)
    have b1 : -9223372036854775808 ≤ (((R.getD i (0, 0)).2 : Nat) : Int) * (((ofP (R.getD i (0, 0)).1).1 : Int) - 1) := by omega
    have b2 : (((R.getD i (0, 0)).2 : Nat) : Int) * (((ofP (R.getD i (0, 0)).1).1 : Int) - 1) < 9223372036854775808 := by omega
    have b3 : -9223372036854775808 ≤ ((tdeg R i : Nat) : Int) + (((R.getD i (0, 0)).2 : Nat) : Int) * (((ofP (R.getD i (0, 0)).1).1 : Int) - 1) := by omega
    have b4 : ((tdeg R i : Nat) : Int) + (((R.getD i (0, 0)).2 : Nat) : Int) * (((ofP (R.getD i (0, 0)).1).1 : Int) - 1) < 9223372036854775808 := by omega
    have hpl : ((ofP (R.getD i (0, 0)).1).1 : Int) - 1 < 10000 ∧ 0 ≤ ((ofP (R.getD i (0, 0)).1).1 : Int) - 1 := by
      have := (hget i h).2.2.2
      show ((R.getD i (0, 0)).1.len : Int) - 1 < 10000 ∧ 0 ≤ ((R.getD i (0, 0)).1.len : Int) - 1
      omega
    have b5 : -9223372036854775808 ≤ ((ofP (R.getD i (0, 0)).1).1 : Int) - 1 := by omega
    have b6 : ((ofP (R.getD i (0, 0)).1).1 : Int) - 1 < 9223372036854775808 := by omega
    conv => whnf
    refine bpos (show decide ((i : Int) < (R.length : Int)) = true from decide_eq_true (by omega)) ?_
    conv => whnf
    refine ⟨by omega, by show (i : Int) < (R.length : Int); omega, ?_⟩
    conv => whnf
    refine ⟨_, kx, ?_⟩
    conv => whnf
    refine ⟨by omega, by show (i : Int) < (R.length : Int); omega, ?_⟩
    conv => whnf
    refine ⟨_, ky, ?_⟩
    conv => whnf
    refine ⟨Fp.i64 (by omega) (by omega), ?_⟩
    conv => whnf
    refine ⟨by omega, by show (i : Int) < (R.length : Int); omega, ?_⟩
    conv => whnf
    refine bneg (show (!decide (((expo (R.getD i (0, 0)).1 L : Nat) : Int) + ((expo (R.getD i (0, 0)).1 M : Nat) : Int) = (((R.getD i (0, 0)).2 : Nat) : Int))) = false by rw [decide_eq_true (by omega)]; rfl) ?_
    conv => whnf
    refine ⟨by omega, by show (i : Int) < (R.length : Int); omega, ?_⟩
    conv => whnf
    refine ⟨by omega, by show (i : Int) < (R.length : Int); omega, ?_⟩
    conv => whnf
    refine ⟨Fp.i64 b5 b6, ?_⟩
    conv => whnf
    refine ⟨Fp.i64 b1 b2, ?_⟩
    conv => whnf
    refine ⟨Fp.i64 b3 b4, ?_⟩
    conv => whnf
    refine ⟨Fp.i64 (by omega) (by omega), ?_⟩
    conv => whnf
    exact ⟨i + 1, by omega, Weak.gen [] rfl trivial ⟨.inl ⟨_, _, rfl, rfl, fun _ _ _ _ => rfl⟩, .inl ⟨_, _, rfl, rfl, fun _ _ _ _ => rfl⟩, .inl ⟨_, _, rfl, rfl, fun _ _ _ _ => rfl⟩, .inl ⟨_, _, rfl, rfl, fun _ _ _ _ => rfl⟩, ⟨_, rfl, hstep.symm⟩, ⟨_, rfl, rfl⟩, trivial⟩, by omega⟩
  · obtain rfl : i = R.length := by omega
    have hL : (ofP (F * G)).1 = (F * G).len := rfl
    conv => whnf
    refine bneg (show decide ((R.length : Int) < (R.length : Int)) = false from decide_eq_false (by omega)) ?_
    conv => whnf
    refine ⟨Fp.i64 (by omega) (by omega), ?_⟩
    conv => whnf
    exact ⟨rfl, Fp.subB (decide_eq_true (by omega))⟩
end
end Go.Proofs.Ytlhdliafjconmaa
/- The awake call of the polynomials modulo a prime answers true: over contracts. -/
namespace Go.Proofs.Ytlhdliafjconmaa
open Go.RowKit
theorem md_small {p : Int} (h1 : 2 ≤ p) (h2 : p < 9) (h3 : p % 2 = 1) : Fp.md p := ⟨h1, by omega, fun d h4 h5 h6 => by
  rcases Int.lt_or_le d 3 with h | h
  · obtain rfl : d = 2 := by omega
    omega
  · have := Int.mul_le_mul h h (by omega) (by omega)
    omega⟩
section
variable {p : Int} [hp : Prm p]
/-- x + c. -/
noncomputable def lin (c : Int) : Pol (Zp p) := ⟨fun i => if i = 0 then Zp.red c else if i = 1 then 1 else 0, 2, fun j hj => by rw [if_neg (by omega), if_neg (by omega)]⟩
theorem lin_len (c : Int) : (lin c : Pol (Zp p)).len = 2 := Pol.len_eq (k := 1) (fun j hj => by show (if j = 0 then _ else if j = 1 then _ else _) = _; rw [if_neg (by omega), if_neg (by omega)]) (by
  show (if 1 = 0 then Zp.red c else if 1 = 1 then (1 : Zp p) else 0) ≠ 0
  exact Fld.one_ne)
theorem lin_lead (c : Int) : (lin c : Pol (Zp p)).lead = 1 := by
  unfold Pol.lead
  rw [lin_len]
  rfl
end
/-- A literal list of integers. -/
abbrev litV (l : List Int) : V := .c (.row 1 l.length (rowF 1 (l.map (Cell.int .i64))))
theorem sub_lit {n : Nat} {a : Nat → Int} {l : List Int} (hn : l.length = n) (h : ∀ i, i < n → l[i]? = some (a i)) : Sub (litV l) (.c (il n a)) := by
  refine subRowG hn fun i j hi hj => ?_
  obtain rfl : j = 0 := by omega
  unfold rowF
  rw [Nat.mul_one, Nat.add_zero, List.getD_eq_getElem?_getD, List.getElem?_map, h i hi]
  rfl
theorem ints_lit {n : Nat} {a : Nat → Int} {l : List Int} (hl : n ≤ 4096) (hn : l.length = n) (h : ∀ i, i < n → l[i]? = some (a i)) : FnOK Try.prog false 10 [.c (il n a), litV l] (.c (.bool true)) := by
  have h1 := Fp.ints_ok (n := n) (m := n) (a := a) (b := a) (by omega) (by omega)
  rw [@decide_eq_true _ (Classical.propDecidable _) ⟨rfl, fun _ _ => rfl⟩] at h1
  refine Fp.arg_ok h1 fun D w vs hv => ?_
  match vs, hv with
  | [v0, v1], ⟨h0, h2, _⟩ => exact ⟨h0, sub_lit hn h D w v1 h2, trivial⟩
section
theorem awake_fac (hm : Fp.md 5) : FnOK Try.prog true 8 [.c (.int .i64 5), litV [2, 0, 2]] (.t3 (.c (.int .i64 2)) (.c (.row 2 2 (@fcs 5 (md_prm hm) [(@lin 5 (md_prm hm) 2, 1), (@lin 5 (md_prm hm) 3, 1)]))) (.c (.int .i64 0))) := by
  haveI := md_prm hm
  let a : Nat → Int := fun i => if i = 0 then 2 else if i = 2 then 2 else 0
  have l2 := lin_len (p := 5) 2
  have l3 := lin_len (p := 5) 3
  have n2 : (lin 2 : Pol (Zp 5)) ≠ 0 := Pol.ne_of_len (by omega)
  have n3 : (lin 3 : Pol (Zp 5)) ≠ 0 := Pol.ne_of_len (by omega)
  have hC : (Zp.red 2 : Zp 5) ≠ 0 := fun e => absurd (show (2 : Int) % 5 = 0 from Zp.v_zero.2 e) (by decide)
  have nC : (Pol.C (Zp.red 2) : Pol (Zp 5)) ≠ 0 := Pol.ne_of_len (by rw [Pol.len_C hC]; decide)
  have h23 := Pol.len_mul n2 n3
  have n23 : (lin 2 * lin 3 : Pol (Zp 5)) ≠ 0 := Pol.ne_of_len (by omega)
  have hf := Pol.len_mul nC n23
  rw [Pol.len_C hC] at hf
  have f0 : (Pol.C (Zp.red 2) * (lin 2 * lin 3) : Pol (Zp 5)) ≠ 0 := Pol.ne_of_len (by omega)
  have ex : Fp.nfL 5 (3, a) = ofP (Pol.C (Zp.red 2) * (lin 2 * lin 3) : Pol (Zp 5)) := ofP_eq (Fp.NL.nfL hm (by decide)) fun i => by
    match i with
    | 0 => exact Zp.ext rfl
    | 1 => exact Zp.ext rfl
    | 2 => exact Zp.ext rfl
    | i + 3 =>
      rw [Pol.len_out (Pol.C (Zp.red 2) * (lin 2 * lin 3) : Pol (Zp 5)) (i + 3) (by omega)]
      rfl
  obtain ⟨L, sL, nL, kL⟩ := Factor_P hm (x := (3, a)) (show 3 ≤ 4096 by decide) ex f0 (by omega)
  have epr : prL [((lin 2 : Pol (Zp 5)), 1), (lin 3, 1)] = lin 2 * lin 3 := by
    show Crg.pw (lin 2 : Pol (Zp 5)) 1 * (Crg.pw (lin 3) 1 * 1) = _
    rw [Crg.pw_one, Crg.pw_one, Crg.mul_one]
  have hcmp : cmpP (lin 2 : Pol (Zp 5)) (lin 3) < 0 := by
    unfold cmpP cmpV
    rw [l2, l3, if_pos rfl]
    exact (show cmpF (fun i => ((lin 2 : Pol (Zp 5)).f i).v) (fun i => ((lin 3 : Pol (Zp 5)).f i).v) 2 = -1 from rfl) ▸ (by decide)
  have hne : (lin 2 : Pol (Zp 5)) ≠ lin 3 := fun e => by
    rw [e] at hcmp
    have := cmpP_neg (lin 3 : Pol (Zp 5)) (lin 3)
    omega
  have sM : FacS (Pol.C (Zp.red 2) * (lin 2 * lin 3) : Pol (Zp 5)) [(lin 2, 1), (lin 3, 1)] := by
    refine ⟨FacL.of_prod f0 (fun c hc => ?_) ?_ ?_ ?_, ?_⟩
    · rcases List.mem_cons.1 hc with e | e
      · rw [e]; exact ⟨irr_two l2, lin_lead 2, Nat.le_refl 1⟩
      · rw [List.mem_singleton.1 e]; exact ⟨irr_two l3, lin_lead 3, Nat.le_refl 1⟩
    · exact List.pairwise_cons.2 ⟨fun b hb => by rw [List.mem_singleton.1 hb]; exact hne, List.pairwise_singleton _ _⟩
    · rw [epr]
      refine ⟨Pol.C (Zp.red 3), ?_⟩
      have e1 : (Pol.C (Zp.red 2) * Pol.C (Zp.red 3) : Pol (Zp 5)) = 1 := by
        rw [Pol.C_mul_C]
        exact congrArg Pol.C (show (Zp.red 2 * Zp.red 3 : Zp 5) = 1 from Zp.ext rfl)
      rw [mul_3, e1, Crg.one_mul]
    · rw [epr]
      exact ⟨Pol.C (Zp.red 2), Crg.mul_comm _ _⟩
    · exact List.pairwise_cons.2 ⟨fun b hb => by rw [List.mem_singleton.1 hb]; exact hcmp, List.pairwise_singleton _ _⟩
  obtain rfl := sL.eq sM
  have hlead : (Pol.C (Zp.red 2) * (lin 2 * lin 3) : Pol (Zp 5)).lead.v = 2 := by
    rw [Pol.lead_mul nC n23, Pol.lead_mul n2 n3, lin_lead, lin_lead]
    have : (Pol.C (Zp.red 2) : Pol (Zp 5)).lead = Zp.red 2 := by
      unfold Pol.lead
      rw [Pol.len_C hC]
      rfl
    rw [this]
    rfl
  rw [hlead] at kL
  refine Fp.arg_ok kL fun D w vs hv => ?_
  match vs, hv with
  | [v0, v1], ⟨h0, h2, _⟩ => exact ⟨h0, sub_lit (n := 3) (a := a) rfl (fun i hi => by
      match i, hi with
      | 0, _ => rfl
      | 1, _ => rfl
      | 2, _ => rfl) D w v1 h2, trivial⟩
theorem awake_mul (hm : Fp.md 7) : ∃ X : Nat → Int, (∀ i, i < 3 → [(6 : Int), 0, 1][i]? = some (X i)) ∧ FnOK Try.prog true 7 [.c (.int .i64 7), litV [1, 1], litV [6, 1]] (.t2 (.c (il 3 X)) (.c (.int .i64 0))) := by
  haveI := md_prm hm
  let a : Nat → Int := fun i => if i = 0 then 1 else if i = 1 then 1 else 0
  let c : Nat → Int := fun i => if i = 0 then 6 else if i = 1 then 1 else 0
  have l2 := lin_len (p := 7) 1
  have l3 := lin_len (p := 7) 6
  have n2 : (lin 1 : Pol (Zp 7)) ≠ 0 := Pol.ne_of_len (by omega)
  have n3 : (lin 6 : Pol (Zp 7)) ≠ 0 := Pol.ne_of_len (by omega)
  have h23 := Pol.len_mul n2 n3
  have ea : Fp.nfL 7 (2, a) = ofP (lin 1 : Pol (Zp 7)) := ofP_eq (Fp.NL.nfL hm (by decide)) fun i => by
    match i with
    | 0 => exact Zp.ext rfl
    | 1 => exact Zp.ext rfl
    | i + 2 => rw [Pol.len_out (lin 1 : Pol (Zp 7)) (i + 2) (by omega)]; rfl
  have ec : Fp.nfL 7 (2, c) = ofP (lin 6 : Pol (Zp 7)) := ofP_eq (Fp.NL.nfL hm (by decide)) fun i => by
    match i with
    | 0 => exact Zp.ext rfl
    | 1 => exact Zp.ext rfl
    | i + 2 => rw [Pol.len_out (lin 6 : Pol (Zp 7)) (i + 2) (by omega)]; rfl
  have k := (Mul_P hm (n := 2) (m := 2) (a := a) (c := c) (by decide) (by decide) ea ec).weak (r := true)
  have hl : (lin 1 * lin 6 : Pol (Zp 7)).len = 3 := by omega
  have e3 : pl (lin 1 * lin 6 : Pol (Zp 7)) = .c (il 3 fun i => ((lin 1 * lin 6 : Pol (Zp 7)).f i).v) := by
    show V.c (il (lin 1 * lin 6 : Pol (Zp 7)).len _) = _
    rw [hl]
    rfl
  rw [e3] at k
  refine ⟨_, fun i hi => ?_, Fp.arg_ok k fun D w vs hv => ?_⟩
  · match i, hi with
    | 0, _ => rfl
    | 1, _ => rfl
    | 2, _ => rfl
  · match vs, hv with
    | [v0, v1, v2], ⟨h0, h1, h2, _⟩ => exact ⟨h0, sub_lit (n := 2) (a := a) rfl (fun i hi => by
        match i, hi with
        | 0, _ => rfl
        | 1, _ => rfl) D w v1 h1, sub_lit (n := 2) (a := c) rfl (fun i hi => by
        match i, hi with
        | 0, _ => rfl
        | 1, _ => rfl) D w v2 h2, trivial⟩
set_option maxHeartbeats 4000000 in
theorem awakeF : FnOK Try.prog true 4 [] (.c (.bool true)) := by
  have h5 : Fp.md 5 := md_small (by decide) (by decide) (by decide)
  have h7 : Fp.md 7 := md_small (by decide) (by decide) (by decide)
  haveI := md_prm h5
  have k1 := awake_fac h5
  obtain ⟨X, hX, k2⟩ := awake_mul h7
  have l2 := lin_len (p := 5) 2
  have l3 := lin_len (p := 5) 3
  have i1 : FnOK Try.prog true 10 [pl (lin 2 : Pol (Zp 5)), litV [2, 1]] (.c (.bool true)) := (ints_lit (l := [2, 1]) (n := (lin 2 : Pol (Zp 5)).len) (by omega) l2.symm fun i hi => by
    match i, (show i < 2 by omega) with
    | 0, _ => rfl
    | 1, _ => rfl).weak
  have i2 : FnOK Try.prog true 10 [pl (lin 3 : Pol (Zp 5)), litV [3, 1]] (.c (.bool true)) := (ints_lit (l := [3, 1]) (n := (lin 3 : Pol (Zp 5)).len) (by omega) l3.symm fun i hi => by
    match i, (show i < 2 by omega) with
    | 0, _ => rfl
    | 1, _ => rfl).weak
  have i3 : FnOK Try.prog true 10 [.c (il 3 X), litV [6, 0, 1]] (.c (.bool true)) := (ints_lit (l := [6, 0, 1]) (n := 3) (by decide) rfl hX).weak
  refine fn_ok (E := E1) E1_ok Try.func4 rfl mixed (by kernel_rfl) (by kernel_rfl) ?_
  conv => whnf
  refine ⟨fun i j hi hj => ?_, ?_⟩
  · match i, j, hi, hj with
    | 0, 0, _, _ => rfl
    | 1, 0, _, _ => rfl
    | 2, 0, _, _ => rfl
  conv => whnf
  refine ⟨_, k1, ?_⟩
  conv => whnf
  refine ⟨fun i j hi hj => ?_, ?_⟩
  · match i, j, hi, hj with
    | 0, 0, _, _ => rfl
    | 1, 0, _, _ => rfl
  conv => whnf
  refine ⟨fun i j hi hj => ?_, ?_⟩
  · match i, j, hi, hj with
    | 0, 0, _, _ => rfl
    | 1, 0, _, _ => rfl
  conv => whnf
  refine ⟨_, k2, ?_⟩
  conv => whnf
  refine ⟨by decide, by show (0 : Int) < 2; decide, ?_⟩
  conv => whnf
  refine ⟨by decide, by show (0 : Int) < 2; decide, ?_⟩
  conv => whnf
  refine ⟨fun i j hi hj => ?_, ?_⟩
  · match i, j, hi, hj with
    | 0, 0, _, _ => rfl
    | 1, 0, _, _ => rfl
  conv => whnf
  refine ⟨_, i1, ?_⟩
  conv => whnf
  refine ⟨by decide, by show (1 : Int) < 2; decide, ?_⟩
  conv => whnf
  refine ⟨fun i j hi hj => ?_, ?_⟩
  · match i, j, hi, hj with
    | 0, 0, _, _ => rfl
    | 1, 0, _, _ => rfl
  conv => whnf
  refine ⟨_, i2, ?_⟩
  conv => whnf
  refine ⟨fun i j hi hj => ?_, ?_⟩
  · match i, j, hi, hj with
    | 0, 0, _, _ => rfl
    | 1, 0, _, _ => rfl
    | 2, 0, _, _ => rfl
  conv => whnf
  refine ⟨_, i3, ?_⟩
  conv => whnf
  exact ⟨rfl, Sub.refl _⟩
end
end Go.Proofs.Ytlhdliafjconmaa
/- The law FpolyUnique: its call, under what its argument reads as. -/
namespace Go.Proofs.Ytlhdliafjconmaa
open Go.ChangeShapes Go.WideShapes Go.ChangeAt Go.RowKit
theorem unique_ok {p x : Int} {n m l q : Nat} {a c : Nat → Int} {s : Bool} : FnOK Try.prog true 3 [Fp.PP p n m l q a c s x] (.c (.bool true)) := by
  by_cases h : 12 < n ∨ 12 < m ∨ ¬ Fp.md p ∨ Fp.tl (Fp.nf p n a) n = 0 ∨ Fp.tl (Fp.nf p m c) m = 0
  · exact uniq_out awakeF h
  · have h1 : n ≤ 12 := Nat.le_of_not_lt fun e => h (.inl e)
    have h2 : m ≤ 12 := Nat.le_of_not_lt fun e => h (.inr (.inl e))
    have h3 : Fp.md p := Classical.byContradiction fun e => h (.inr (.inr (.inl e)))
    haveI := md_prm h3
    obtain ⟨F, eF⟩ := pol_of (Fp.NL.nfL h3 (x := (n, a)) (show n ≤ 4096 by omega))
    obtain ⟨G, eG⟩ := pol_of (Fp.NL.nfL h3 (x := (m, c)) (show m ≤ 4096 by omega))
    refine uniq_in awakeF h1 h2 h3 (F := F) (G := G) (fun e => h (.inr (.inr (.inr (.inl ?_))))) (fun e => h (.inr (.inr (.inr (.inr ?_))))) eF eG
    · have : Fp.tl (Fp.nf p n a) n = F.len := congrArg Prod.fst eF
      rw [this, e, Pol.len_zero]
    · have : Fp.tl (Fp.nf p m c) m = G.len := congrArg Prod.fst eG
      rw [this, e, Pol.len_zero]
variable {H : Type} {enc : TypeId × Value → H}
set_option maxRecDepth 100000 in
theorem walk_FpolyUnique {W : World} {base : Nat} {v0 : Value} {d0 : DataW H} {p0 : List MemPlace}
    (u0 : Value.okWide Try.prog W .any base 28 v0) (h0 : DataW.Trod enc Try.prog W 0 (fun _ => true) true 28 v0 d0 p0) :
    Calls Try.prog 3 #[v0] W fun e w' => e = .returned (.bool true) ∧ Below W.heap.size W w' := by
  obtain ⟨p, x, n, m, l, q, a, c, s, g0⟩ := open_polys u0 h0
  exact law_call (vs := [v0]) (unique_ok (p := p) (x := x) (n := n) (m := m) (l := l) (q := q) (a := a) (c := c) (s := s)) ⟨g0, trivial⟩
end Go.Proofs.Ytlhdliafjconmaa
