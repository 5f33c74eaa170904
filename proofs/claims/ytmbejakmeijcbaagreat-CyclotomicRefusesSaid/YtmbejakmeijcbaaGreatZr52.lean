/- What is read as data, in abstract words; the last step of a law's row. -/
import Derived.Test.YtmbejakmeijcbaaGreatZr7
import Derived.Test.YtmbejakmeijcbaaGreatRows
import Derived.ProofKit
import Derived.OpenShut
import Derived.Carry
import Derived.ChangeSame
import Derived.Test.YtmbejakmeijcbaaGreatZr13
namespace Go.Proofs.YtmbejakmeijcbaaGreat
open Go.ChangeShapes Go.WideShapes Go.ChangeAt Go.RowKit
theorem lawOwn : ownKnob Tryz.prog.godebug = none := by kernel_rfl
theorem lawLaid : laidOutB Tryz.prog = true := by kernel_rfl
section
variable {H : Type} {enc : TypeId × Value → H} {P : Program}
theorem post_below {f : Func} {s : ChangeSpec} {apart fresh handsOn again : Bool} {W W' : World} {args : Array Value} {v : Value} {ds gs : List (DataW H)} {before pa pv : List MemPlace}
  (hW : DataW.Whole enc P f.params.toList s.vars apart W args.toList ds gs before)
  (hres : ∀ (b : Nat) (sp : Nat → Bool) (hd : Bool), DataW.TrodAll enc P W' b sp hd f.resultTypes.toList (v.resultList f.resultTypes.size) (s.fn H (ds ++ gs)).results [])
  (hargs : ∀ sp : Nat → Bool, (∀ p ∈ before, sp p.block = true) → DataW.TrodAll enc P W' 0 sp true f.params.toList args.toList (s.fn H (ds ++ gs)).args pa)
  (hvars : ∀ sp : Nat → Bool, (∀ p ∈ before, sp p.block = true) → DataW.TrodVars enc P W' sp s.vars (s.fn H (ds ++ gs)).vars pv)
  (hps : before = pa ++ pv) (hb : Below W.heap.size W W')
  (hok : ∀ (j : Nat) (t : TypeId) (r : Value), f.resultTypes[j]? = some t → (v.resultList f.resultTypes.size)[j]? = some r → Value.okWide P W' .any 0 t r) :
  s.post enc P f apart fresh handsOn again W args v W' := by
 have hlt : ∀ p ∈ before, p.block < W.heap.size := fun p hp => hW.lt p hp
 have hold : ∀ p ∈ before, (fun b => decide (b < W.heap.size)) p.block = true := fun p hp => by simpa using hlt p hp
 refine ⟨ds, gs, before, [], pa, pv, hW, hres _ _ _, hargs _ hold, hvars _ hold, World.keptBut_mono (fun p hp => ⟨hp, ?_⟩) (hb.frame (· ∈ before)), fun _ => ?_⟩
 ·rw [hps, List.mem_append] at hp
  exact Or.inr hp
 ·obtain ⟨_, _, _, _, _, hz, hn⟩ := hW
  refine ⟨hok, _, _, ([] ++ pa) ++ pv, ⟨[] ++ pa, pv, trodAll_append (hargs _ (fun _ _ => rfl)) (hres _ _ _), hvars _ (fun _ _ => rfl), rfl, ?_, ?_⟩, ?_⟩
  ·intro b off hp
   have hin : MemPlace.cell b off ∈ before := by rw [hps]; simpa using hp
   rw [hb.frozen (hlt _ hin)]
   exact hz b off hin
  ·intro ha
   have := hn ha
   rw [hps] at this
   simpa using this
  ·intro p hp _
   rw [hps]
   simpa using hp
theorem Below.trodS {t : TypeId} (hl : laidOutB P = true) (hr : P.readableRec t = true) (hrow : t < P.types.size) {W W' : World} {sp : Nat → Bool} {v : Value} {d : DataW H} {ps : List MemPlace}
  (h : DataW.Trod enc P W 0 (fun _ => true) true t v d ps) (hb : Below W.heap.size W W') (hlt : ∀ x ∈ ps, x.block < W.heap.size) (hs : ∀ x ∈ ps, sp x.block = true) :
  DataW.Trod enc P W' 0 sp true t v d ps :=
 WideElems.Trod_stays hl hr hrow h (fun x hx => hb.same (hlt x hx)) hs
end
section
variable {H : Type} {enc : TypeId × Value → H} {P : Program} {w : World} {sp : Nat → Bool} {held : Bool}
theorem cell_int {t fuel : Nat} {k : IntKind} {cs : List Value} {x : DataW H × List MemPlace} (ht : P.underlying t = some (.int k)) (h : DataW.trod enc P w 0 sp held fuel t cs = some x) : ∃ n, cs = [.int k n] ∧ (Lit.int k n).wf = true := by
 obtain ⟨n, h1, _, h2⟩ := DataW.trod_int ht h
 exact ⟨n, h1, h2⟩
theorem okWide_slice {r : Reach} {b0 t e : Nat} {v : Value} (ht : P.underlying t = some (.slice e)) (hval : Value.okWide P w r b0 t v) : v.cells.toList = [v] := by
 cases v with
 | agg cs => simp [Value.okWide, ht, Cell.okWide, Cell.ok] at hval
 | _ => rfl
end
section
variable {H : Type} {enc : TypeId × Value → H} {w : World} {sp : Nat → Bool} {held : Bool}
end
theorem law_call {r : Bool} {f : FuncId} {al : List V} (h : FnOK Tryz.prog r f al (.c (.bool true))) {w : World} {vs : List Value} (hv : VRels (fun _ => False) w [] al vs) : Calls Tryz.prog f vs.toArray w fun e w' => e = .returned (.bool true) ∧ Below w.heap.size w w' :=
 (h.2 (fun _ => False) w vs (fun b hb => hb.elim) (fun _ b o d hb => hb.elim) hv).mono fun _ _ ⟨v, he, hv, hb⟩ => ⟨by rw [he, show v = .bool true from hv], hb⟩
end Go.Proofs.YtmbejakmeijcbaaGreat
/- Integers as arguments, opened. -/
namespace Go.Proofs.YtmbejakmeijcbaaGreat
open Go.ChangeShapes Go.WideShapes Go.ChangeAt Go.RowKit
set_option maxRecDepth 100000
theorem open_i64 {H : Type} {enc : TypeId × Value → H} {w : World} {sp : Nat → Bool} {held : Bool} {r : Reach} {b0 t : Nat} {v : Value} {d : DataW H} {ps : List MemPlace} (ht : Tryz.prog.underlying t = some (.int .i64)) (hval : Value.okWide Tryz.prog w r b0 t v) (hd : DataW.Trod enc Tryz.prog w 0 sp held t v d ps) : ∃ n : Int, VRel (fun _ => False) w [] (.c (.int .i64 n)) v := by
 obtain ⟨fuel, hf⟩ := hd
 obtain ⟨n, e, _⟩ := cell_int ht hf
 have hc : v.cells.toList = [v] := by
  cases v with
  | agg cs => simp [Value.okWide, ht, Cell.okWide, Cell.ok] at hval
  | _ => rfl
 rw [hc] at e
 cases e
 exact ⟨n, rfl⟩
end Go.Proofs.YtmbejakmeijcbaaGreat
/- Lists opened: of digits, of large integers, of fractions; what the bulk of their data bounds. -/
namespace Go.Proofs.YtmbejakmeijcbaaGreat
open Go.ChangeShapes Go.WideShapes Go.ChangeAt Go.RowKit
section
variable {H : Type} {enc : TypeId × Value → H} {P : Program} {w : World} {sp : Nat → Bool} {held : Bool}
theorem bulk_one (d : DataW H) : 1 ≤ Rows.uptoBulk d := by
 cases d with
 | lit l => cases l <;> simp [Rows.uptoBulk]
 | nil => simp [Rows.uptoBulk]
 | ptr d => simp [Rows.uptoBulk]
 | slice elems spare => simp [Rows.uptoBulk]
 | agg parts => simp [Rows.uptoBulk]
 | iface t d => simp [Rows.uptoBulk]
 | map entries => simp [Rows.uptoBulk]
 | held h => simp [Rows.uptoBulk]
theorem bulk_part {d : DataW H} {l : List (DataW H)} (h : d ∈ l) : Rows.uptoBulk d ≤ Rows.uptoBulkAll l := by
 induction l with
 | nil => cases h
 | cons x r ih =>
  simp only [Rows.uptoBulkAll]
  cases List.mem_cons.1 h with
  | inl e => subst e; omega
  | inr e => have := ih e; omega
theorem bulk_len (l : List (DataW H)) : l.length ≤ Rows.uptoBulkAll l := by
 induction l with
 | nil => simp [Rows.uptoBulkAll]
 | cons x r ih => have := bulk_one x; simp only [Rows.uptoBulkAll, List.length_cons]; omega
theorem free_addr {a : Addr} {sz : Nat} {cs : List Value} (h0 : 0 < sz) (h : w.cells? 0 (a.add (0 * sz)) sz = some cs) : ∃ b o, a = ⟨b, o, none⟩ ∧ b < w.heap.size := by
 obtain ⟨b, o, spt⟩ := a
 have hs : spt = none ∧ b < w.heap.size := by
  obtain ⟨_, h2, h3⟩ := World.cells?_some h
  have h4 := h3 0 h0
  rw [Nat.zero_mul, Addr.add, if_pos rfl, Addr.add, if_pos rfl, List.getElem?_eq_getElem (by omega)] at h4
  unfold World.cell? at h4
  split at h4
  ·rename_i hh
   refine ⟨?_, (Array.getElem?_eq_some_iff.1 hh).1⟩
   split at h4
   ·cases h4
   ·rename_i hs; simpa using hs
  ·cases h4
 exact ⟨b, o, by rw [hs.1], hs.2⟩
theorem crels_get {D : Nat → Prop} {ρ : List Loc} : ∀ {l : List Cell} {vs : List Value}, CRels D w ρ l vs → ∀ j, j < l.length → ∃ u, vs[j]? = some u ∧ CRel D w ρ (l.getD j .any) u
 | [], _, _, j, hj => absurd hj (Nat.not_lt_zero j)
 | _ :: _, [], h, _, _ => h.elim
 | x :: l, v :: vs, h, j, hj => by
  cases j with
  | zero => exact ⟨v, rfl, h.1⟩
  | succ j => exact crels_get h.2 j (by simpa using hj)
theorem cell_list {α : Type} [Inhabited α] {t e sz fuel : Nat} {cs : List Value} {x : DataW H × List MemPlace} {G : α → List Cell} {Q : α → DataW H → Prop} (ht : P.underlying t = some (.slice e)) (hk : P.cellsOf e = sz) (h0 : 0 < sz) (hG : ∀ a, (G a).length = sz)
  (one : ∀ (n : Nat) (cs' : List Value) (y : DataW H × List MemPlace), DataW.trod enc P w 0 sp held n e cs' = some y → ∃ a : α, CRels (fun _ => False) w [] (G a) cs' ∧ Q a y.1)
  (h : DataW.trod enc P w 0 sp held fuel t cs = some x) :
  ∃ (v : Value) (n : Nat) (f : Nat → α), cs = [v] ∧ CRel (fun _ => False) w [] (.row sz n fun i j => (G (f i)).getD j .any) v ∧ n ≤ Rows.uptoBulk x.1 ∧ ∀ i, i < n → ∃ d, Q (f i) d ∧ Rows.uptoBulk d ≤ Rows.uptoBulk x.1 := by
 rcases DataW.trod_slice ht h with ⟨rfl, rfl⟩ | ⟨a, len, cap, elems, rest, n, _, rfl, hx, _, hl, hm, hlen, hel, _⟩
 ·exact ⟨_, 0, fun _ => default, rfl, ⟨none, 0, rfl, Nat.le_refl _, fun h => absurd h (Nat.lt_irrefl 0)⟩, Nat.zero_le _, fun i hi => absurd hi (Nat.not_lt_zero i)⟩
 ·have get : ∀ i (hi : i < len), ∃ b : α, (∃ cs', w.cells? 0 (a.add (i * sz)) sz = some cs' ∧ CRels (fun _ => False) w [] (G b) cs') ∧ Q b (elems[i]'(by omega)).1 := by
   intro i hi
   have := hel i hi
   rw [hk, List.getElem?_eq_getElem (by omega), Option.bind_eq_some_iff] at this
   obtain ⟨cs', h1, h2⟩ := this
   obtain ⟨b, h3, h4⟩ := one n cs' _ h2
   exact ⟨b, ⟨cs', h1, h3⟩, h4⟩
  have hbulk : elems.length ≤ Rows.uptoBulk x.1 ∧ ∀ i (hi : i < len), Rows.uptoBulk (elems[i]'(by omega)).1 ≤ Rows.uptoBulk x.1 := by
   rw [hx]
   simp only [Rows.uptoBulk]
   refine ⟨?_, fun i hi => ?_⟩
   ·have := bulk_len (elems.map (·.1))
    simp only [List.length_map] at this
    omega
   ·have := bulk_part (l := elems.map (·.1)) (d := (elems[i]'(by omega)).1) (List.mem_map_of_mem (List.getElem_mem _))
    omega
  obtain ⟨f, hf⟩ : ∃ f : Nat → α, ∀ i (hi : i < len), (∃ cs', w.cells? 0 (a.add (i * sz)) sz = some cs' ∧ CRels (fun _ => False) w [] (G (f i)) cs') ∧ Q (f i) (elems[i]'(by omega)).1 :=
   ⟨fun i => if h : i < len then (get i h).choose else default, fun i hi => by
    simp only [dif_pos hi]
    exact (get i hi).choose_spec⟩
  refine ⟨_, len, f, rfl, ⟨_, cap, rfl, hl, fun hn => ?_⟩, by omega, fun i hi => ⟨_, (hf i hi).2, hbulk.2 i hi⟩⟩
  obtain ⟨cs0, c1, _⟩ := (hf 0 hn).1
  obtain ⟨b, o, rfl, hb⟩ := free_addr h0 c1
  refine ⟨b, o, rfl, hb, id, fun i j hi hj => ?_⟩
  obtain ⟨cs', c1, c2⟩ := (hf i hi).1
  obtain ⟨_, h2, h3⟩ := World.cells?_some c1
  have h4 := h3 j hj
  obtain ⟨u, hu, hr⟩ := crels_get c2 j (by rw [hG]; exact hj)
  rw [add_plain, add_plain, hu] at h4
  exact ⟨u, by rw [show o + (i * sz + j) = o + i * sz + j by omega]; exact h4, hr⟩
theorem cell_mag {t e fuel : Nat} {cs : List Value} {x : DataW H × List MemPlace} (ht : P.underlying t = some (.slice e)) (hk : P.cellsOf e = 1) (he : P.underlying e = some (.int .u32)) (h : DataW.trod enc P w 0 sp held fuel t cs = some x) : ∃ (v : Value) (l : List Nat), cs = [v] ∧ CRel (fun _ => False) w [] (dsC l) v ∧ Dg.ok l ∧ l.length ≤ Rows.uptoBulk x.1 := by
 obtain ⟨v, n, f, h1, h2, h3, h4⟩ := cell_list (G := fun a : Nat => [Cell.int .u32 a]) (Q := fun a _ => a < 4294967296) ht hk (by decide) (fun _ => rfl) (fun n cs' y hy => by
  obtain ⟨k, e1, hw⟩ := cell_int he hy
  have hw : 0 ≤ k ∧ k < 4294967296 := by
   simp [Lit.wf] at hw
   have h1 : (IntKind.u32.min : Int) = 0 := by decide
   have h2 : (IntKind.u32.max : Int) = 4294967295 := by decide
   omega
  refine ⟨k.toNat, ?_, by omega⟩
  subst e1
  exact ⟨by show Value.int .u32 k = .int .u32 (k.toNat : Int); rw [Int.toNat_of_nonneg hw.1], trivial⟩) h
 refine ⟨v, (List.range n).map f, h1, ?_, fun d hd => ?_, by simpa using h3⟩
 ·refine subRowG (by simp) (fun i j hi hj => ?_) (fun _ => False) w v h2
  have hi : i < n := by simpa using hi
  obtain rfl := Nat.lt_one_iff.1 hj
  simp [List.getD, hi]
 ·obtain ⟨i, hi, rfl⟩ := List.mem_map.1 hd
  obtain ⟨_, h5, _⟩ := h4 i (List.mem_range.1 hi)
  exact h5
instance : Inhabited RawZ := ⟨⟨false, []⟩⟩
instance : Inhabited RawR := ⟨⟨default, default⟩⟩
end
section
variable {H : Type} {enc : TypeId × Value → H} {w : World} {sp : Nat → Bool} {held : Bool}
theorem cBool : Tryz.prog.cellsOf 4 = 1 := by kernel_rfl
theorem cMag : Tryz.prog.cellsOf 42 = 1 := by kernel_rfl
theorem cU32 : Tryz.prog.cellsOf 115 = 1 := by kernel_rfl
theorem cBig : Tryz.prog.cellsOf 44 = 2 := by kernel_rfl
theorem cRat : Tryz.prog.cellsOf 46 = 4 := by kernel_rfl
set_option maxRecDepth 100000 in
theorem one_int {n : Nat} {cs : List Value} {y : DataW H × List MemPlace} (h : DataW.trod enc Tryz.prog w 0 sp held n 44 cs = some y) : ∃ a : RawZ, CRels (fun _ => False) w [] (zr a) cs ∧ Dg.ok a.ds ∧ a.ds.length ≤ Rows.uptoBulk y.1 := by
 obtain ⟨xs, m, _, rfl, hl, hlen, hf⟩ := DataW.trod_struct Tryz.underlying44 h
 match xs, hlen with
 | [y0, y1], _ =>
  have h0 : DataW.trod enc Tryz.prog w 0 sp held m 4 ((cs.drop 0).take (Tryz.prog.cellsOf 4)) = some y0 := by simpa using hf 0 _ rfl
  have h1 : DataW.trod enc Tryz.prog w 0 sp held m 42 ((cs.drop 1).take (Tryz.prog.cellsOf 42)) = some y1 := by simpa using hf 1 _ rfl
  rw [cBool] at h0
  rw [cMag] at h1
  rw [cBig] at hl
  obtain ⟨s, e0, _⟩ := DataW.trod_bool Tryz.underlying4 h0
  obtain ⟨v, l, e1, hv, ho, hb⟩ := cell_mag Tryz.underlying42 cU32 Tryz.underlying115 h1
  match cs, hl, e0, e1 with
  | [x0, x1], _, e0, e1 =>
   simp at e0 e1
   subst e0 e1
   refine ⟨⟨s, l⟩, ⟨rfl, hv, trivial⟩, ho, ?_⟩
   show l.length ≤ _
   simp only [List.map, Rows.uptoBulk, Rows.uptoBulkAll]
   omega
set_option maxRecDepth 100000 in
theorem one_rat {n : Nat} {cs : List Value} {y : DataW H × List MemPlace} (h : DataW.trod enc Tryz.prog w 0 sp held n 46 cs = some y) : ∃ a : RawR, CRels (fun _ => False) w [] (rr a) cs ∧ Rf.dgq a := by
 obtain ⟨xs, m, _, rfl, hl, hlen, hf⟩ := DataW.trod_struct Tryz.underlying46 h
 match xs, hlen with
 | [y0, y1], _ =>
  have h0 : DataW.trod enc Tryz.prog w 0 sp held m 44 ((cs.drop 0).take (Tryz.prog.cellsOf 44)) = some y0 := by simpa using hf 0 _ rfl
  have h1 : DataW.trod enc Tryz.prog w 0 sp held m 44 ((cs.drop 2).take (Tryz.prog.cellsOf 44)) = some y1 := by simpa using hf 1 _ rfl
  rw [cBig] at h0 h1
  rw [cRat] at hl
  obtain ⟨a0, c0, d0, _⟩ := one_int h0
  obtain ⟨a1, c1, d1, _⟩ := one_int h1
  match cs, hl, c0, c1 with
  | [x0, x1, x2, x3], _, c0, c1 =>
   exact ⟨⟨a0, a1⟩, ⟨c0.1, c0.2.1, c1.1, c1.2.1, trivial⟩, d0, d1⟩
end
end Go.Proofs.YtmbejakmeijcbaaGreat
/- Fields and elements, opened. -/
namespace Go.Proofs.YtmbejakmeijcbaaGreat
open Go.ChangeShapes Go.WideShapes Go.ChangeAt Go.RowKit
section
variable {H : Type} {enc : TypeId × Value → H} {w : World} {sp : Nat → Bool} {held : Bool}
set_option maxRecDepth 100000 in
theorem open_elem {r : Reach} {b0 t : Nat} {v : Value} {d : DataW H} {ps : List MemPlace} (ht : Tryz.prog.underlying t = some (.slice 46)) (hval : Value.okWide Tryz.prog w r b0 t v) (hd : DataW.Trod enc Tryz.prog w 0 sp held t v d ps) : ∃ (n : Nat) (q : Nat → RawR), VRel (fun _ => False) w [] (.c (ql n q)) v ∧ ∀ j, j < n → Rf.dgq (q j) := by
 obtain ⟨fuel, hf⟩ := hd
 obtain ⟨u, n, f, h1, h2, h3, h4⟩ := cell_list (G := rr) (Q := fun a _ => Rf.dgq a) ht cRat (by decide) (fun _ => rfl) (fun n cs' y hy => one_rat hy) hf
 rw [okWide_slice ht hval] at h1
 cases h1
 exact ⟨n, f, h2, fun j hj => (h4 j hj).elim fun _ h => h.1⟩
end
end Go.Proofs.YtmbejakmeijcbaaGreat
