/- Abstract operations that make or write blocks of the call's own, and calls that are handed slices of the call's own. -/
import Derived.Test.YtigciplaoikcfaaGreatAbsN
import Derived.Orders
namespace Go.Proofs.YtigciplaoikcfaaGreat
open Go.RowKit
def updF (f : Nat → Nat → Cell) (i o : Nat) (l : List Cell) (i' j : Nat) : Cell := if i' = i ∧ o ≤ j ∧ j < o + l.length then l.getD (j - o) .any else f i' j
def zeroF (l : List Cell) (_ j : Nat) : Cell := l.getD j .any
/-- A slice of one's own that is handed out will not be written again. -/
def frz1 (σ : St) (x : V) (K : St → Prop) : Prop :=
  match x with
  | .c (.gs k _) | .c (.sl k _ _ _ _) | .c (.p k _ _ _ _) => match σ.bl[k]? with
    | some B => match B.st with
      | 0 => (∀ i j, i < B.n → j < B.sz → (B.f i j).clos = true) ∧ K { σ with bl := σ.bl.set k { B with st := 1 } }
      | _ => K σ
    | none => K σ
  | _ => K σ
def frzA : List V → St → (St → Prop) → Prop
  | [], σ, K => K σ
  | x :: l, σ, K => frz1 σ x fun σ' => frzA l σ' K
/-- The parts of a value. -/
def partsV : V → List V
  | .t2 a b => partsV a ++ partsV b
  | .t3 a b d => partsV a ++ (partsV b ++ partsV d)
  | .t4 a b d e => partsV a ++ (partsV b ++ (partsV d ++ partsV e))
  | .g l => l.map V.c
  | .c (.cl _ m f) => (List.range m).map fun j => V.c (f j)
  | x => [x]
/-- Whether a call is told by a contract that lets it write. -/
def wrB (σ : St) (g : Operand) : Bool := match calleeA σ g with
  | some f => wrF f || frF f
  | none => false
def ph1 (d : Bool) (σ : St) : St := match d with
  | true => { σ with bl := σ.bl ++ [phB] }
  | false => σ
/-- A call that is handed a block to write (or, d, a place for none), behind the freezing of others. -/
def callM (E : Env) (dst : Option Nat) (σ : St) (f : Option FuncId) (args : List Operand) (K : St → Prop) : Prop := match f with
  | none => False
  | some f => ∃ (fz : List V) (d : Bool), frzA fz (ph1 d σ) fun σ1 =>
    ∃ (k : Nat) (B : Blk) (as : List V) (X : V) (B' : Blk) (fresh : List Blk), FnM E.P E.r f B as X B' fresh ∧ σ1.bl[k]? = some B ∧ (B.st = 0 ∨ 2 ≤ B.st) ∧ B.plain ∧ B'.plain ∧ (∀ F ∈ fresh, F.plain) ∧ as.all V.fst = true ∧
      (args.map fun x => St.close σ1.bl (σ1.ev x)) = as.map (renV k σ1.bl.length) ∧ K (St.put ⟨σ1.tm, σ1.bl.set k B' ++ fresh⟩ dst (renV k σ1.bl.length X))
def aop (E : Env) (o : Oper) (σ : St) (K : St → Prop) : Prop :=
  match o.op with
  | .box T x => match cellsV σ.bl E.r (σ.ev x) with
    | some l => K ((σ.push ⟨T, l.length, 1, 0, 0, boxF l⟩).put o.dst (.c (.p σ.bl.length 0 l.length 0 0)))
    | none => False
  | .alloc T => match E.ty T with
    | some ti => match cellsV σ.bl E.r (.g ti.zero) with
      | some l => K ((σ.push ⟨T, l.length, 1, 0, 0, boxF l⟩).put o.dst (.c (.p σ.bl.length 0 l.length 0 0)))
      | none => False
    | none => False
  | .store T x y => match E.ty T, σ.ev x, cellsV σ.bl E.r (σ.ev y) with
    | some ti, .c (.p k u sz i o'), some l => match σ.bl[k]? with
      | some B => chk (B.u == u && (B.sz == sz && (B.st == 0 && (l.length == ti.size && (o' + l.length).ble sz)))) (K (St.put { σ with bl := σ.bl.set k { B with f := updF B.f i o' l } } o.dst (.c .any)))
      | none => False
    | _, _, _ => False
  | .makeSlice T ln cp => match E.ty T with
    | some ti => match ti.elem with
      | some e => match E.ty e, σ.ev ln, σ.ev cp with
        | some te, .c (.int _ n), .c (.int _ c) => 0 ≤ n ∧ n ≤ c ∧ c ≤ 281474976710656 ∧ (te.bytes : Int) * c ≤ 281474976710656 ∧ chk (te.zero.length == te.size) (match cellsV σ.bl E.r (.g te.zero) with
          | some l => K ((σ.push ⟨e, te.size, n.toNat, 0, 0, zeroF l⟩).put o.dst (.c (.gs σ.bl.length 0)))
          | none => False)
        | _, _, _ => False
      | none => False
    | none => False
  | .buildSlice T len parts => match E.ty T with
    | some ti => match ti.elem with
      | some e => match E.ty e with
        | some te => chk (len.ble 16777216 && (len * te.size).ble 16777216) (match fillA σ.bl ((List.range len).map fun i => some (i * te.size, te.size)) (List.replicate (len * te.size) .any) (parts.toList.map fun q => (q.1, σ.ev q.2)) with
          | some l => match cellsV σ.bl E.r (.g l) with
            | some l => K ((σ.push ⟨e, te.size, len, 0, 0, rowF te.size l⟩).put o.dst (.c (.gs σ.bl.length 0)))
            | none => False
          | none => False)
        | none => False
      | none => False
    | none => False
  | .call { callee := .value g, args, .. } => match wrB σ g with
    | true => callM E o.dst σ (calleeA σ g) args.toList K ∨ frzA (args.toList.flatMap fun x => partsV (σ.ev x)) σ fun σ' => dop E o σ' fun v => K (σ'.put o.dst v)
    | false => frzA (args.toList.flatMap fun x => partsV (σ.ev x)) σ fun σ' => dop E o σ' fun v => K (σ'.put o.dst v)
  | .call { callee := .builtin .append, args, argTypes } => appA E o.dst σ args.toList argTypes.toList K
  | _ => dop E o σ fun v => K (σ.put o.dst v)
theorem frz1_eq (σ : St) (k : Nat) (K : St → Prop) : (match σ.bl[k]? with
    | some B => match B.st with
      | 0 => (∀ i j, i < B.n → j < B.sz → (B.f i j).clos = true) ∧ K { σ with bl := σ.bl.set k { B with st := 1 } }
      | _ => K σ
    | none => K σ) = (match σ.bl[k]? with
    | some B => (B.st = 0 → (∀ i j, i < B.n → j < B.sz → (B.f i j).clos = true) ∧ K { σ with bl := σ.bl.set k { B with st := 1 } }) ∧ (B.st ≠ 0 → K σ)
    | none => K σ) := by
  cases σ.bl[k]? with
  | none => rfl
  | some B =>
    cases hst : B.st with
    | zero => simp [hst]
    | succ n => simp [hst]
theorem Rel.frz1 {C : Ctx} {σ : St} {a : Act} {w : World} {x : V} {K : St → Prop} (h : frz1 σ x K) (hr : Rel C σ a w) : ∃ σ', K σ' ∧ Rel C σ' a w ∧ σ'.tm = σ.tm := by
  have key : ∀ k, (match σ.bl[k]? with
    | some B => (B.st = 0 → (∀ i j, i < B.n → j < B.sz → (B.f i j).clos = true) ∧ K { σ with bl := σ.bl.set k { B with st := 1 } }) ∧ (B.st ≠ 0 → K σ)
    | none => K σ) → ∃ σ', K σ' ∧ Rel C σ' a w ∧ σ'.tm = σ.tm := by
    intro k h
    split at h
    · rename_i B hB
      by_cases hz : B.st = 0
      · obtain ⟨h1, h2⟩ := h.1 hz
        obtain ⟨ρ, hs, hN, hd, hf⟩ := hr
        obtain ⟨s1, s2⟩ := hs.freeze hB hz h1
        exact ⟨_, h2, ⟨ρ, s1, hN, hd, fun t => (hf t).step (Ext.refl _ _) (fun b _ hb => s2 b hb) (LocsLe.refl _)⟩, rfl⟩
      · exact ⟨σ, h.2 hz, hr, rfl⟩
    · exact ⟨σ, h, hr, rfl⟩
  unfold Go.Proofs.YtigciplaoikcfaaGreat.frz1 at h
  split at h
  · rw [frz1_eq] at h; exact key _ h
  · rw [frz1_eq] at h; exact key _ h
  · rw [frz1_eq] at h; exact key _ h
  · exact ⟨σ, h, hr, rfl⟩
theorem Rel.frzA {C : Ctx} {a : Act} {w : World} : ∀ {l : List V} {σ : St} {K : St → Prop}, frzA l σ K → Rel C σ a w → ∃ σ', K σ' ∧ Rel C σ' a w ∧ σ'.tm = σ.tm
  | [], σ, K, h, hr => ⟨σ, h, hr, rfl⟩
  | x :: l, σ, K, h, hr => by
    obtain ⟨σ1, h1, h2, h3⟩ := Rel.frz1 h hr
    obtain ⟨σ2, h4, h5, h6⟩ := Rel.frzA h1 h2
    exact ⟨σ2, h4, h5, h6.trans h3⟩
/-- What a step comes to, in a whole state. -/
theorem dop_rel {E : Env} (hE : EnvOK E) {C : Ctx} (hC : C.r = E.r) {o : Oper} {σ : St} {a : Act} {w : World} {K : V → Prop} (h : dop E o σ K) (hd : dstOK C.N o.dst) (hr : Rel C σ a w) {next : Act → World → Prop} {Q : Exit → Act → World → Prop}
    (hn : ∀ v a' w', K v → Rel C (σ.put o.dst v) a' w' → next a' w') : o.wp E.P a w next Q := by
  obtain ⟨X, hX, hst⟩ := dop_sound hE h
  rw [← hC] at hst
  obtain ⟨ρ, hs, hN, hdf, hf⟩ := hr
  refine hst C.D0 C.w0 ρ σ.bl a w hs (Agree.refl o σ) (fun x _ => ev_rel hf x) next Q fun v w' hb hv => hn X _ _ hX ?_
  exact Rel.put (hs.ext hb) hN hdf (frame_step (Ext.of_below hb) (fun _ _ x => x) (LocsLe.refl _) hf) hd hv
theorem CRel.void {D D' : Nat → Prop} {w w' : World} {ρ : List Loc} {x : Cell} {v : Value} (h : CRel D w ρ x v) (hcl : ∀ sz n f, x ≠ .row sz n f) (hcl2 : ∀ m f, x ≠ .xp m f) (hcl3 : ∀ F m f, x ≠ .cl F m f := by simp) : CRel D' w' ρ x v := by
  cases x with
  | row sz n f => exact absurd rfl (hcl _ _ _)
  | xp m f => exact absurd rfl (hcl2 _ _)
  | cl F m f => exact absurd rfl (hcl3 _ _ _)
  | _ => exact h
theorem getD_of {α : Type} {l : List α} {j : Nat} {d : α} (h : j < l.length) : l[j]? = some (l.getD j d) := by simp [List.getD, h]
theorem last_loc {ρ : List Loc} {n : Nat} (h : ρ.length = n) (l : Loc) : (ρ ++ [l])[n]? = some l := by rw [← h]; simp
theorem box_sound {P : Program} {C : Ctx} {σ : St} {a : Act} {w : World} (h : Rel C σ a w) {T : TypeId} {l : List Cell} {x : V} {v : Value} (hc : cellsV σ.bl C.r x = some l) (hx : ∀ ρ, Sat C.D0 C.w0 C.r ρ σ.bl w → (∀ t, VRel (Dof C.D0 ρ σ.bl) w ρ (σ.tm t) (a.tmps.getD t undef)) → VRel (Dof C.D0 ρ σ.bl) w ρ x v) {dst : Option Nat} (hd : dstOK C.N dst) :
    ∃ b, (newVar T v).run P w = .ok ⟨b, 0, none⟩ (w.alloc (.cells v.cells T)) ∧ Rel C ((σ.push ⟨T, l.length, 1, 0, 0, boxF l⟩).put dst (.c (.p σ.bl.length 0 l.length 0 0))) (a.put dst (.pointer (some ⟨b, 0, none⟩))) (w.alloc (.cells v.cells T)) := by
  refine ⟨w.heap.size, by simp [newVar, newRow, newObj]; rfl, ?_⟩
  have hsz : v.cells.size = l.length := by
    obtain ⟨ρ, hs, hN, hdf, hf⟩ := h
    have := (cellsV_rel hs hc (hx ρ hs hf)).1.length
    simpa using this.symm
  refine Rel.push h (by rw [hsz]; omega) (Nat.le_refl 1) (by unfold maxLen; omega) (fun ρ hs hf i j hi hj => ?_) (fun hr => ?_) hd _ _ (fun ρ hl => ?_) (by simp) (by simp)
  · obtain rfl : i = 0 := by omega
    obtain ⟨u, hu, hur⟩ := (cellsV_rel hs hc (hx ρ hs hf)).1.get j _ (getD_of (d := Cell.any) hj)
    exact ⟨u, by rw [Nat.zero_mul, Nat.zero_add]; simpa using hu, hur⟩
  · obtain ⟨ρ, hs, hN, hdf, hf⟩ := h
    exact (cellsV_rel hs hc (hx ρ hs hf)).2.2 hr
  · exact ⟨_, last_loc hl _, Nat.le_refl _, fun _ => ⟨by show 0 < 1; omega, w.heap.size, rfl, by simp⟩⟩
theorem zero_rel {D : Nat → Prop} {w : World} {ρ : List Loc} {zv : Value} {l : List Cell} (h : l = zv.cells.toList.map cellOf) : CRels D w ρ l zv.cells.toList := by
  rw [h]
  exact CRels.of _ _ (by simp) fun j x v h1 h2 => by
    rw [List.getElem?_map, h2] at h1
    simp at h1; subst h1
    exact cellOf_rel _ _ _ v
theorem fillA_length {bl : List Blk} {offs : List (Option (Nat × Nat))} : ∀ (parts : List (Nat × V)) (cs l : List Cell), fillA bl offs cs parts = some l → l.length = cs.length
  | [], cs, l, h => by simp [fillA] at h; rw [h]
  | (i, x) :: parts, cs, l, h => by
    simp only [fillA] at h
    split at h
    · split at h
      · split at h
        · rename_i hc
          simp only [Bool.and_eq_true, beq_iff_eq, Nat.ble_eq] at hc
          rw [fillA_length parts _ l h]
          simp; omega
        · cases h
      · split at h
        · rename_i hc
          simp only [Bool.and_eq_true, beq_iff_eq, Nat.ble_eq] at hc
          rw [fillA_length parts _ l h]
          simp; omega
        · cases h
      · cases h
    · cases h
theorem any_rels {D : Nat → Prop} {w : World} {ρ : List Loc} : ∀ (n : Nat) (vs : List Value), vs.length = n → CRels D w ρ (List.replicate n .any) vs
  | 0, [], _ => trivial
  | n + 1, _ :: vs, h => ⟨trivial, any_rels n vs (by simpa using h)⟩
  | 0, _ :: _, h => by simp at h
  | _ + 1, [], h => by simp at h
set_option maxHeartbeats 1000000 in
theorem aop_sound {E : Env} (hE : EnvOK E) {C : Ctx} (hC : C.r = E.r) {o : Oper} {σ : St} {a : Act} {w : World} {K : St → Prop} (h : aop E o σ K) (hd : dstOK C.N o.dst) (hr : Rel C σ a w) {next : Act → World → Prop} {Q : Exit → Act → World → Prop}
    (hn : ∀ σ' a' w', K σ' → Rel C σ' a' w' → next a' w') : o.wp E.P a w next Q := by
  unfold aop at h
  rw [← hC] at h
  split at h
  case h_1 T x hx =>
    split at h
    · rename_i l hl
      obtain ⟨b, h1, h2⟩ := box_sound (P := E.P) (T := T) (v := a.eval x) hr hl (fun ρ hs hf => ev_rel hf x) hd
      have : (execOp a.eval o).run E.P w = .ok (.value (.pointer (some ⟨b, 0, none⟩))) (w.alloc (.cells (a.eval x).cells T)) := by
        simp [execOp, hx, Instr.box, h1]
      unfold Oper.wp
      rw [this]
      exact hn _ _ _ h h2
    · exact h.elim
  case h_2 T hx =>
    split at h
    · rename_i ti ht
      have ht := hE.ty _ _ ht
      split at h
      · rename_i l hl
        obtain ⟨zv, hz, hzc⟩ := run_zero ht w
        obtain ⟨b, h1, h2⟩ := box_sound (P := E.P) (T := T) (v := .agg zv.cells) hr hl (fun ρ hs hf => ⟨zv.cells, rfl, zero_rel hzc⟩) hd
        have e1 : newVar T (.agg zv.cells) = newVar T zv := rfl
        rw [e1] at h1
        have : (execOp a.eval o).run E.P w = .ok (.value (.pointer (some ⟨b, 0, none⟩))) (w.alloc (.cells zv.cells T)) := by
          simp [execOp, hx, Instr.alloc, hz, h1, Value.cells]
        unfold Oper.wp
        rw [this]
        exact hn _ _ _ h h2
      · exact h.elim
    · exact h.elim
  case h_3 T x y hx =>
    split at h
    · rename_i ti k u sz i o' l ht hv hl
      split at h
      · rename_i B hB
        have ht := hE.ty _ _ ht
        obtain ⟨g0, g7⟩ := chk_iff.1 h
        simp only [Bool.and_eq_true, beq_iff_eq, Nat.ble_eq] at g0
        obtain ⟨g1, g2, g3, g5, g6⟩ := g0
        obtain ⟨ρ, hs, hN, hdf, hf⟩ := hr
        have e1 := ev_rel hf x
        rw [hv] at e1
        obtain ⟨lc, hlc, hu, hp⟩ := e1
        obtain ⟨q0, q1⟩ := hs.at_ k lc B hlc hB (by omega)
        have hln := loc_n hs hlc hB (by omega)
        obtain ⟨g4, hp2⟩ := hp (by omega)
        rw [hln] at g4
        rcases q1 with ⟨q1, _, _⟩ | ⟨b, cap, cs, q1, q2, q3, q4, q5, q6, q7, q8⟩
        · omega
        obtain ⟨b', e2, e3⟩ := hp2
        rw [q1] at e2; cases e2
        obtain ⟨c1, c2, c3⟩ := cellsV_rel hs hl (ev_rel hf y)
        have hlen := c1.length
        simp only [Array.length_toList] at hlen
        have hfit : i * sz + o' + 0 + (a.eval y).cells.toList.length ≤ cs.size := by
          simp only [Array.length_toList, Nat.add_zero]
          rw [q5, g2]
          have : (i + 1) * sz ≤ cap * sz := Nat.mul_le_mul_right _ (by omega)
          rw [Nat.succ_mul] at this
          omega
        have hst := run_storeCells_at (P := E.P) b (i * sz + o') B.t (a.eval y).cells.toList 0 cs w q4 hfit c2
        obtain ⟨cs', hcs'⟩ : ∃ cs', cs' = (cs.toList.take (i * sz + o' + 0) ++ (a.eval y).cells.toList ++ cs.toList.drop (i * sz + o' + 0 + (a.eval y).cells.toList.length)).toArray := ⟨_, rfl⟩
        rw [← hcs'] at hst
        have hcl : cs'.size = cs.size := by
          rw [hcs']; simp at hfit ⊢; omega
        have hget : ∀ m : Nat, cs'[m]? = if i * sz + o' ≤ m ∧ m < i * sz + o' + l.length then (a.eval y).cells[m - (i * sz + o')]? else cs[m]? := by
          intro m
          rw [hcs']
          simp only [Nat.add_zero, List.getElem?_toArray, List.append_assoc]
          have ht : (cs.toList.take (i * sz + o')).length = i * sz + o' := by simp at hfit ⊢; omega
          rcases Nat.lt_or_ge m (i * sz + o') with hm | hm
          · rw [List.getElem?_append_left (by omega), if_neg (by omega), List.getElem?_take_of_lt hm]; simp
          · rw [List.getElem?_append_right (by omega), ht]
            rcases Nat.lt_or_ge (m - (i * sz + o')) l.length with hm2 | hm2
            · rw [List.getElem?_append_left (by simp; omega), if_pos (by omega)]; simp
            · rw [List.getElem?_append_right (by simp; omega), if_neg (by omega), List.getElem?_drop]
              simp
              congr 1
              omega
        have hupd := hs.update (f' := updF B.f i o' l) (w' := w.setRow b cs') hlc hB g3 q1 q4 (setRow_heap w b cs cs' B.t _ q4) hcl (fun x hx => setRow_other w b x cs' hx) (by simp) rfl rfl rfl (fun i' j hi' hj => ?_) (fun hr m d => ?_)
        · obtain ⟨s1, s2, s3⟩ := hupd
          have hex : (execOp a.eval o).run E.P w = .ok .skip (w.setRow b cs') := by
            have h1 : (storeVar T ⟨b, i * sz + o', none⟩ (a.eval y)).run E.P w = .ok () (w.setRow b cs') := by
              simp [storeVar, run_size ht, ← g5, hlen, hst, Result.andThen]
            simp [execOp, hx, e3, Instr.storeAt, Instr.sureAddr, h1]
          unfold Oper.wp
          rw [hex, Oper.upon_skip]
          exact hn _ _ _ g7 (Rel.put (σ := { σ with bl := σ.bl.set k { B with f := updF B.f i o' l } }) s1 hN hdf (frame_step s3 (fun x _ hx => (s2 x).1 hx) (LocsLe.refl _) hf) hd trivial)
        · rw [hget]
          unfold updF
          by_cases hc : i' = i ∧ o' ≤ j ∧ j < o' + l.length
          · rw [if_pos hc, if_pos (by rw [hc.1, g2]; omega)]
            obtain ⟨v, hv, hvr⟩ := c1.get (j - o') _ (getD_of (d := Cell.any) (by omega))
            exact ⟨v, by rw [hc.1, g2, show i * sz + j - (i * sz + o') = j - o' by omega]; simpa using hv, hvr⟩
          · rw [if_neg hc, if_neg]
            · obtain ⟨v, hv, hvr⟩ := q8 i' j hi' hj
              rw [if_pos g3] at hvr
              exact ⟨v, hv, hvr⟩
            · rw [g2] at hj ⊢
              intro hh
              rcases Nat.lt_trichotomy i' i with hlt | heq | hgt
              · have : (i' + 1) * sz ≤ i * sz := Nat.mul_le_mul_right _ hlt
                rw [Nat.succ_mul] at this
                omega
              · subst heq; omega
              · have : (i + 1) * sz ≤ i' * sz := Nat.mul_le_mul_right _ hgt
                rw [Nat.succ_mul] at this
                omega
        · rw [hget]
          split
          · exact c3 hr _ d
          · intro e
            have := hs.noU hr b m d (.inr ⟨k, lc, B, hlc, hB, g3, q1⟩)
            simp only [World.cell?, q4, Option.isSome_none, Bool.false_eq_true, if_false] at this
            exact this e
      · exact h.elim
    · exact h.elim
  case h_4 T ln cp hx =>
    split at h
    · rename_i ti ht
      split at h
      · rename_i e he
        split at h
        · rename_i te k1 n k2 c hte hn1 hc1
          have ht := hE.ty _ _ ht
          have hte := hE.ty _ _ hte
          obtain ⟨h0, h1, h2, h3, h⟩ := h
          obtain ⟨h4, h⟩ := chk_iff.1 h
          have h4 : te.zero.length = te.size := by simpa using h4
          split at h
          · rename_i l hl
            obtain ⟨d, i, zv, hd', hi, hz, hti⟩ := tyOf_spec hte
            have hzc : te.zero = zv.cells.toList.map cellOf := by rw [hti]; rfl
            have hss : te.size = i.size := by rw [hti]; rfl
            have hev : a.eval ln = .int k1 n ∧ a.eval cp = .int k2 c := by
              obtain ⟨ρ, hs, hN, hdf, hf⟩ := hr
              have e1 := ev_rel hf ln
              have e2 := ev_rel hf cp
              rw [hn1] at e1
              rw [hc1] at e2
              exact ⟨e1, e2⟩
            have hzs : zv.cells.size = te.size := by rw [← h4, hzc]; simp
            obtain ⟨cs, hcs⟩ : ∃ cs : Array Value, cs = (Array.range (c.toNat * te.size)).map fun q => zv.cells[q % zv.cells.size]! := ⟨_, rfl⟩
            have hcz : cs.size = c.toNat * te.size := by rw [hcs]; simp
            have hcg : ∀ q, q < c.toNat * te.size → cs[q]? = some (zv.cells[q % te.size]!) := by
              intro q hq
              rw [hcs, ← hzs]
              rw [← hzs] at hq
              simp [hq]
            have hbt : te.bytes = i.bytes := by rw [hti]; rfl
            have hrun : (Instr.makeSlice T (.int k1 n) (.int k2 c)).run E.P w = .ok (.slice (some ⟨w.heap.size, 0, none⟩) n.toNat c.toNat) (w.alloc (.cells cs e)) := by
              have := run_make (P := E.P) w T e i zv (under_elem ht he) hi hz k1 k2 n c h0 h1 (by rw [← hbt]; exact h3) (by omega)
              rw [this, hcs, hss]
              rfl
            have hex : (execOp a.eval o).run E.P w = .ok (.value (.slice (some ⟨w.heap.size, 0, none⟩) n.toNat c.toNat)) (w.alloc (.cells cs e)) := by
              have : execOp a.eval o = (do let z ← Instr.makeSlice T (a.eval ln) (a.eval cp); pure (.value z)) := by unfold execOp; rw [hx]
              rw [this, hev.1, hev.2, Sem.run_bind, hrun]
              rfl
            unfold Oper.wp
            rw [hex]
            have hzr : ∀ D ρ, CRels D w ρ te.zero zv.cells.toList := fun D ρ => zero_rel hzc
            have hll : l = te.zero := by
              simp only [cellsV] at hl
              split at hl
              · cases hl; rfl
              · cases hl
            have hmod : ∀ {i j : Nat}, j < te.size → (i * te.size + j) % te.size = j := by
              intro i j hj
              rw [Nat.add_comm, Nat.add_mul_mod_self_right, Nat.mod_eq_of_lt hj]
            refine hn _ _ _ h (Rel.push hr hcz (by omega) (by unfold maxLen; omega) (fun ρ hs hf i j hi hj => ?_) (fun hr' q d e => ?_) hd _ _ (fun ρ hl => ?_) (by simp) (by simp))
            · obtain ⟨u, hu, hur⟩ := (hzr (Dof C.D0 ρ σ.bl) ρ).get j _ (getD_of (d := Cell.any) (by omega))
              refine ⟨u, ?_, by simp only [zeroF, hll]; exact hur⟩
              rw [hcg _ (idx_lt hi hj (by omega)), hmod hj]
              have hj2 : j < zv.cells.size := by omega
              simp at hu
              simp [hj2] at hu ⊢
              exact hu
            · obtain ⟨ρ, hs, hN, hdf, hf⟩ := hr
              have hx3 := (cellsV_rel hs hl (D := fun _ => False) (x := .g te.zero) (v := .agg zv.cells) ⟨zv.cells, rfl, hzr _ _⟩).2.2 hr'
              have hq : q < c.toNat * te.size := by
                have := (Array.getElem?_eq_some_iff.1 e).1
                omega
              rw [hcg q hq] at e
              have hts : 0 < te.size := by
                rcases Nat.eq_zero_or_pos te.size with h0 | h0
                · rw [h0] at hq; omega
                · exact h0
              have hlt := Nat.mod_lt q hts
              have := hx3 (q % te.size) d
              rw [show (Value.agg zv.cells).cells = zv.cells from rfl] at this
              apply this
              simp [show q % te.size < zv.cells.size by omega] at e ⊢
              exact e
            · exact ⟨_, last_loc hl _, Nat.le_refl _, fun _ => by simp [Loc.v]⟩
          · exact h.elim
        · exact h.elim
      · exact h.elim
    · exact h.elim
  case h_5 T len parts hx =>
    split at h
    · rename_i ti ht
      split at h
      · rename_i e he
        split at h
        · rename_i te hte
          have ht := hE.ty _ _ ht
          have hte := hE.ty _ _ hte
          obtain ⟨h0, h⟩ := chk_iff.1 h
          simp only [Bool.and_eq_true, Nat.ble_eq] at h0
          obtain ⟨hl1, h1⟩ := h0
          split at h
          · rename_i l0 hl0
            split at h
            · rename_i l hl
              have hll : l = l0 := by
                simp only [cellsV] at hl
                split at hl
                · cases hl; rfl
                · cases hl
              subst hll
              obtain ⟨d, i, zv, hd', hi, hz, hti⟩ := tyOf_spec hte
              obtain ⟨z0, hz0⟩ : ∃ z0 : Array Value, z0 = (Array.range (len * te.size)).map (fun q => (if len * te.size = 0 then #[] else zv.cells)[q % (if len * te.size = 0 then #[] else zv.cells : Array Value).size]!) := ⟨_, rfl⟩
              have hzs : z0.size = len * te.size := by rw [hz0]; simp
              have hfill : ∀ ρ, Sat C.D0 C.w0 C.r ρ σ.bl w → (∀ t, VRel (Dof C.D0 ρ σ.bl) w ρ (σ.tm t) (a.tmps.getD t undef)) → ∃ cells', Instr.fill (fun i => some (i * te.size, te.size)) z0 (parts.toList.map fun q => (q.1, a.eval q.2)) = some cells' ∧ CRels (Dof C.D0 ρ σ.bl) w ρ l cells'.toList := by
                intro ρ hs hf
                refine fill_rel hs (fun i off fsz hi => ?_) (g := σ.ev) (e := a.eval) parts.toList _ l z0 hl0 (fun q _ => ev_rel hf q.2) (any_rels _ _ (by simp [hzs]))
                rw [List.getElem?_map] at hi
                rcases Nat.lt_or_ge i len with h2 | h2
                · rw [List.getElem?_range h2] at hi
                  simp at hi
                  simp [← hi.1, ← hi.2]
                · rw [List.getElem?_eq_none (by simp; omega)] at hi; cases hi
              have hr0 := hr
              obtain ⟨ρ, hs, hN, hdf, hf⟩ := hr
              obtain ⟨cells', e1, e2⟩ := hfill ρ hs hf
              have hcz : cells'.size = len * te.size := by
                have := e2.length
                rw [fillA_length _ _ _ hl0] at this
                simpa using this.symm
              have hex : (execOp a.eval o).run E.P w = .ok (.value (.slice (some ⟨w.heap.size, 0, none⟩) len len)) (w.alloc (.cells cells' e)) := by
                have h3 : execOp a.eval o = (do let z ← Instr.buildSlice T len (parts.map fun (i, x) => (i, a.eval x)); pure (.value z)) := by unfold execOp; rw [hx]
                have h4 : (Instr.buildSlice T len (parts.map fun (i, x) => (i, a.eval x))).run E.P w = .ok (.slice (some ⟨w.heap.size, 0, none⟩) len len) (w.alloc (.cells cells' e)) := by
                  have hpl : (parts.map fun (i, x) => (i, a.eval x)).toList = parts.toList.map fun q => (q.1, a.eval q.2) := by simp
                  have hsz := fun w => run_size hte w
                  have hzv : ∀ w, (zeroValue e).run E.P w = .ok zv w := fun w => by simp [zeroValue, typeInfo, hi, hz]
                  have h1' : ¬ 16777216 < len * te.size := by omega
                  have e1' : Instr.fill (fun i => some (i * te.size, te.size)) z0 (parts.toList.map fun x => (x.fst, a.eval x.snd)) = some cells' := e1
                  by_cases h0 : len * te.size = 0
                  · have hz1 : z0 = #[] := by apply Array.eq_empty_of_size_eq_zero; omega
                    rw [hz1] at e1'
                    have hz2 : Array.map (fun _ => (default : Value)) (Array.range 0) = #[] := by apply Array.eq_empty_of_size_eq_zero; simp
                    simp [Instr.buildSlice, run_underlying (under_elem ht he), hsz, h0, newRow, newObj]
                    rw [hz2, e1']
                    rfl
                  · rw [if_neg h0] at hz0
                    rw [hz0] at e1'
                    simp [Instr.buildSlice, run_underlying (under_elem ht he), hsz, h0, h1', newRow, newObj, hzv, e1']
                    rfl
                rw [h3, Sem.run_bind, h4]
                rfl
              unfold Oper.wp
              rw [hex]
              refine hn _ _ _ h (Rel.push hr0 hcz (Nat.le_refl _) (by unfold maxLen; omega) (fun ρ hs hf i j hi hj => ?_) (fun hr' q d e => ?_) hd _ _ (fun ρ hl => ?_) (by simp) (by simp))
              · obtain ⟨c2, e3, e4⟩ := hfill ρ hs hf
                rw [e1] at e3; cases e3
                obtain ⟨u, hu, hur⟩ := e4.get (i * te.size + j) _ (getD_of (d := Cell.any) (by rw [fillA_length _ _ _ hl0]; simp; exact idx_lt hi hj (Nat.le_refl _)))
                exact ⟨u, by simpa using hu, hur⟩
              · exact (cellsV_rel hs hl (x := .g l) (v := .agg cells') ⟨cells', rfl, e2⟩).2.2 hr' q d (by simpa [Value.cells] using e)
              · exact ⟨_, last_loc hl _, Nat.le_refl _, fun _ => by simp [Loc.v]⟩
            · exact h.elim
          · exact h.elim
        · exact h.elim
      · exact h.elim
    · exact h.elim
  case h_6 g args ts hx =>
    split at h
    · rcases h with h | h
      case inr =>
        obtain ⟨σ', h1, h2, h3⟩ := Rel.frzA h hr
        exact dop_rel hE hC h1 hd h2 fun v a' w' hk hrel => hn _ _ _ hk hrel
      cases hg : calleeA σ g with
      | none => rw [hg] at h; exact h.elim
      | some f =>
        rw [hg] at h
        obtain ⟨fz, d, h⟩ := h
        have hr1 : Rel C (ph1 d σ) a w := by
          cases d with
          | false => exact hr
          | true =>
            obtain ⟨ρ, hs, hN, hdf, hf⟩ := hr
            obtain ⟨p1, p2⟩ := hs.ph
            exact ⟨_, p1, ⟨hN.1, hN.2.trans (LocsLe.append _ _)⟩, hdf, fun t => (hf t).step (Ext.refl _ _) (fun b _ hb => (p2 b).1 hb) (LocsLe.append _ _)⟩
        obtain ⟨σ1, h1, h2, h3⟩ := Rel.frzA h hr1
        obtain ⟨k, B, as, X, B', fresh, c1, c2, c3, c4, c5, c6, c7, c8, c9⟩ := h1
        have htm : σ1.tm = σ.tm := by rw [h3]; cases d <;> rfl
        have hg1 : calleeA σ1 g = some f := by
          unfold calleeA at hg ⊢
          rw [htm]; exact hg
        exact callM_core hx hg1 h2 (by rw [hC]; exact c1) c2 c3 c4 c5 c6 c7 c8 hd fun a' w' hrel => hn _ _ _ c9 hrel
    · obtain ⟨σ', h1, h2, h3⟩ := Rel.frzA h hr
      exact dop_rel hE hC h1 hd h2 fun v a' w' hk hrel => hn _ _ _ hk hrel
  case h_7 args ts hx => exact appA_sound hE hC hx h hd hr hn
  case h_8 => exact dop_rel hE hC h hd hr fun v a' w' hk hrel => hn _ _ _ hk hrel
end Go.Proofs.YtigciplaoikcfaaGreat
/- Regions: operations in the order of the text, and in any order. -/
namespace Go.Proofs.YtigciplaoikcfaaGreat
open Go.RowKit
def guardV (σ : St) (ops : Array Oper) (g : Nat) : Option (Nat × Bool) :=
  match (ops[g]?).bind (·.dst) with
  | some d => match σ.tm d with
    | .c (.bool b) => some (d, b)
    | _ => none
  | none => none
def aops (E : Env) (ops : Array Oper) : List Oper → St → (St → Prop) → Prop
  | [], σ, K => K σ
  | o :: rest, σ, K => match o.guard with
    | none => aop E o σ fun σ' => aops E ops rest σ' K
    | some (g, want) => match guardV σ ops g with
      | some (d, b) => cs (gw want b) (aop E o (σ.put (some d) (.c (.bool want))) fun σ' => aops E ops rest σ' K) (aops E ops rest ((σ.put (some d) (.c (.bool !want))).put o.dst (.c .any)) K)
      | none => False
/-- What is reached in some abstract state. -/
def QR (C : Ctx) (R : Exit → St → Prop) (e : Exit) (a : Act) (w : World) : Prop := ∃ σ, Rel C σ a w ∧ R e σ
theorem guard_val {σ : St} {a : Act} {w : World} {ops : Array Oper} {g d : Nat} {b : Bool} (h : guardV σ ops g = some (d, b)) (hx : ∀ d, (ops[g]?).bind (·.dst) = some d → ∃ D ρ, VRel D w ρ (σ.tm d) (a.tmps.getD d undef)) : yielded ops a.tmps g = some b ∧ a.tmps.getD d undef = .bool b ∧ d < a.tmps.size ∧ σ.tm d = .c (.bool b) := by
  unfold guardV at h
  split at h
  · rename_i d' hd
    split at h
    · rename_i b' hb
      cases h
      obtain ⟨D, ρ, hv⟩ := hx d hd
      rw [hb] at hv
      have hv' : a.tmps.getD d undef = .bool b := hv
      have hlt : d < a.tmps.size := by
        rcases Nat.lt_or_ge d a.tmps.size with h | h
        · exact h
        · rw [Array.getD, dif_neg (by omega)] at hv'
          simp [undef] at hv'
      refine ⟨?_, hv', hlt, hb⟩
      unfold yielded
      rw [hd]
      simp only [Option.bind_some]
      rw [Array.getElem?_eq_getElem hlt]
      rw [Array.getD, dif_pos hlt] at hv'
      rw [show a.tmps[d] = .bool b from hv']
    · cases h
  · cases h
theorem put_same {C : Ctx} {σ : St} {a : Act} {w : World} {d : Nat} {v : V} (h : Rel C σ a w) (hv : ∀ D ρ, VRel D w ρ v (a.tmps.getD d undef)) : Rel C (σ.put (some d) v) a w := by
  obtain ⟨ρ, hs, hN, hdf, hf⟩ := h
  refine ⟨ρ, hs, hN, hdf, fun t => ?_⟩
  simp only [St.put, upd]
  by_cases e : t = d
  · subst e; rw [if_pos rfl]; exact hv _ _
  · rw [if_neg e]; exact hf t
theorem aops_sound {E : Env} (hE : EnvOK E) {C : Ctx} (hC : C.r = E.r) {ops : Array Oper} {Q : Exit → Act → World → Prop} {K : St → Prop} (hQ : ∀ σ a w, K σ → Rel C σ a w → Q .normal a w) :
    ∀ (l : List Oper) (σ : St) (a : Act) (w : World), (∀ o ∈ l, dstOK C.N o.dst) → aops E ops l σ K → Rel C σ a w → wpList E.P ops Q l a w
  | [], σ, a, w, _, h, hr => hQ σ a w h hr
  | o :: rest, σ, a, w, hd, h, hr => by
    have ih := fun σ a w => aops_sound (ops := ops) hE hC hQ rest σ a w (fun o ho => hd o (by simp [ho]))
    unfold wpList
    simp only [aops] at h
    split at h
    · rename_i hg
      rw [if_pos (by simp [Region.wanted, hg])]
      exact .inl (aop_sound hE hC h (hd o (by simp)) hr fun σ' a' w' hk hrel => ih σ' a' w' hk hrel)
    · rename_i g want hg
      split at h
      · rename_i d b hgv
        have h := cs_iff.1 h
        rw [gw_true, gw_false] at h
        obtain ⟨hy, hv, hlt, htm⟩ := guard_val (a := a) (w := w) hgv (by obtain ⟨ρ, hs, hN, hdf, hf⟩ := hr; exact fun d _ => ⟨_, ρ, hf d⟩)
        have hwt : Region.wanted o (yielded ops a.tmps) = (b == want) := by
          unfold Region.wanted
          rw [hg]
          simp only [hy]
          rfl
        rw [hwt]
        by_cases e : b = want
        · rw [if_pos (by simp [e])]
          refine .inl (aop_sound hE hC (h.1 e) (hd o (by simp)) (put_same hr fun D ρ => ?_) fun σ' a' w' hk hrel => ih σ' a' w' hk hrel)
          rw [hv, e]; rfl
        · have e' : b = !want := by cases b <;> cases want <;> simp_all
          rw [if_neg (by simpa using e)]
          have h2 : Rel C (σ.put (some d) (.c (.bool !want))) a w := put_same hr fun D ρ => by rw [hv, e']; rfl
          obtain ⟨ρ, hs, hN, hdf, hf⟩ := h2
          exact ih _ _ _ (h.2 e') (Rel.put hs hN hdf hf (hd o (by simp)) trivial)
      · exact h.elim
end Go.Proofs.YtigciplaoikcfaaGreat
