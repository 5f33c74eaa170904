/- The abstract operations that leave the call's own blocks alone are sound. -/
import Derived.Test.YtlhdliafjconmaaGreatUf1
namespace Go.Proofs.YtlhdliafjconmaaGreat
open Go.RowKit
theorem VRels.map {D : Nat → Prop} {w : World} {ρ : List Loc} {g : Operand → V} {e : Operand → Value} : ∀ (l : List Operand), (∀ x ∈ l, VRel D w ρ (g x) (e x)) → VRels D w ρ (l.map g) (l.map e)
  | [], _ => trivial
  | x :: l, h => ⟨h x (by simp), VRels.map l fun y hy => h y (by simp [hy])⟩
theorem VRels.clos {D : Nat → Prop} {w : World} {ρ ρ' : List Loc} : ∀ {l : List V} {vs : List Value}, VRels D w ρ l vs → l.all V.clos = true → VRels D w ρ' l vs
  | [], [], _, _ => trivial
  | _ :: _, _ :: _, h, hc => by
    simp only [List.all_cons, Bool.and_eq_true] at hc
    exact ⟨h.1.clos hc.1, VRels.clos h.2 hc.2⟩
  | [], _ :: _, h, _ => h.elim
  | _ :: _, [], h, _ => h.elim
theorem VRels.append {D : Nat → Prop} {w : World} {ρ : List Loc} : ∀ {l l' : List V} {vs vs' : List Value}, VRels D w ρ l vs → VRels D w ρ l' vs' → VRels D w ρ (l ++ l') (vs ++ vs')
  | [], _, [], _, _, h => h
  | _ :: _, _, _ :: _, _, h, h' => ⟨h.1, VRels.append h.2 h'⟩
  | [], _, _ :: _, _, h, _ => h.elim
  | _ :: _, _, [], _, h, _ => h.elim
theorem VRels.cells {D : Nat → Prop} {w : World} {ρ : List Loc} {g : Cell → Cell} : ∀ {l : List Cell} {vs : List Value}, CRels D w ρ (l.map g) vs → VRels D w ρ (l.map fun c => V.c (g c)) vs
  | [], [], _ => trivial
  | _ :: _, _ :: _, h => ⟨h.1, VRels.cells h.2⟩
  | [], _ :: _, h => h.elim
  | _ :: _, [], h => h.elim
theorem callee_eval {D : Nat → Prop} {w : World} {ρ : List Loc} {σ : St} {a : Act} {g : Operand} {f : FuncId} (h : calleeA σ g = some f) (hx : VRel D w ρ (σ.ev g) (a.eval g)) : a.eval g = .func (.func f) #[] #[] := by
  cases g with
  | func x => simp [calleeA] at h; subst h; rfl
  | tmp t =>
    simp only [calleeA] at h
    split at h
    · rename_i f' hf
      cases h
      simp only [St.ev, hf] at hx
      exact hx
    · cases h
  | const v => simp [calleeA] at h
  | global x => simp [calleeA] at h
theorem exec_callc {P : Program} {a : Act} {w : World} {o : Oper} {g : Operand} {args : Array Operand} {ts : Array TypeId} {f : FuncId} {caps : Array Value} (ho : o.op = .call { callee := .value g, args := args, argTypes := ts }) (hg : a.eval g = .func (.func f) #[] caps) (hb : hasBody P f = true) :
    (execOp a.eval o).run P w = .ok (.enter f (args.map a.eval ++ caps)) w := by
  simp only [hasBody] at hb
  split at hb
  · rename_i fn hf
    simp only [Bool.and_eq_true, Bool.not_eq_true', Option.isSome_iff_exists] at hb
    obtain ⟨⟨c, hc⟩, hn⟩ := hb
    have : (execOp a.eval o) = (do let d ← resolve a.eval { callee := .value g, args := args, argTypes := ts } o.type; invoke d.target d.args) := by
      unfold execOp; rw [ho]
    rw [this]
    have hn' : ¬ fn.name = "runtime.NumGoroutine" := by simpa using hn
    simp [resolve, hg, Deferred.ofValue, invoke, callFunc, hf, hn', hc]
  · cases hb
theorem caps_eval {D : Nat → Prop} {w : World} {ρ : List Loc} {σ : St} {a : Act} {g : Operand} {f : FuncId} {cs : List Cell} (h : capsA σ g = some (f, cs)) (hx : VRel D w ρ (σ.ev g) (a.eval g)) : (∃ n c, σ.ev g = .c (.cl f n c) ∧ cs = (List.range n).map c) ∧ ∃ caps : Array Value, a.eval g = .func (.func f) #[] caps ∧ CRels D w ρ cs caps.toList := by
  cases g with
  | tmp t =>
    simp only [capsA] at h
    split at h
    · rename_i f' n c hf
      cases h
      simp only [St.ev, hf] at hx
      obtain ⟨caps, h1, h2, h3⟩ := hx
      refine ⟨⟨n, c, hf, rfl⟩, caps, h1, CRels.of _ _ (by simp [h2]) fun j x v hx hv => ?_⟩
      rw [List.getElem?_map] at hx
      rcases Nat.lt_or_ge j n with hj | hj
      · rw [List.getElem?_range hj] at hx
        simp at hx; subst hx
        obtain ⟨u, hu, hr⟩ := h3 j hj
        rw [Array.getElem?_toList, hu] at hv
        cases hv; exact hr
      · rw [List.getElem?_eq_none (by simp; omega)] at hx; cases hx
    · cases h
  | func x => simp [capsA] at h
  | const v => simp [capsA] at h
  | global x => simp [capsA] at h
theorem exec_call {P : Program} {a : Act} {w : World} {o : Oper} {g : Operand} {args : Array Operand} {ts : Array TypeId} {f : FuncId} (ho : o.op = .call { callee := .value g, args := args, argTypes := ts }) (hg : a.eval g = .func (.func f) #[] #[]) (hb : hasBody P f = true) :
    (execOp a.eval o).run P w = .ok (.enter f (args.map a.eval)) w := by
  simp only [hasBody] at hb
  split at hb
  · rename_i fn hf
    simp only [Bool.and_eq_true, Bool.not_eq_true', Option.isSome_iff_exists] at hb
    obtain ⟨⟨c, hc⟩, hn⟩ := hb
    have : (execOp a.eval o) = (do let d ← resolve a.eval { callee := .value g, args := args, argTypes := ts } o.type; invoke d.target d.args) := by
      unfold execOp; rw [ho]
    rw [this]
    have hn' : ¬ fn.name = "runtime.NumGoroutine" := by simpa using hn
    simp [resolve, hg, Deferred.ofValue, invoke, callFunc, hf, hn', hc]
  · cases hb
theorem len_rel {D0 : Nat → Prop} {w0 : Base} {w : World} {r : Bool} {ρ : List Loc} {bl : List Blk} (hs : Sat D0 w0 r ρ bl w) {x : V} {v : Value} {n : Nat} (h : lenA bl x = some n) (hx : VRel (Dof D0 ρ bl) w ρ x v) : ∃ A c, v = .slice A n c ∧ n ≤ c := by
  cases x with
  | c x =>
    cases x <;> simp only [lenA] at h <;> first | (cases h; done) | skip
    case row sz m f => cases h; obtain ⟨A, c, h1, h2, _⟩ := hx; exact ⟨A, c, h1, h2⟩
    case nil => cases h; exact ⟨none, 0, hx, Nat.le_refl _⟩
    case sl k u sz o m =>
      obtain ⟨l, hl, hu, hv⟩ := hx
      split at h
      · rename_i B hB
        split at h
        · rename_i hst
          simp only [Bool.and_eq_true, beq_iff_eq, Nat.ble_eq] at hst
          cases h
          obtain ⟨g0, g1⟩ := hs.at_ k l B hl hB hst.2
          obtain ⟨_, A, c, e1, e2, _⟩ := hv (by omega)
          exact ⟨A, c, e1, e2⟩
        · cases h
      · cases h
    case gs k u =>
      obtain ⟨l, hl, hu, hv⟩ := hx
      split at h
      · rename_i B hB
        split at h
        · rename_i hst
          simp only [Bool.and_eq_true, beq_iff_eq, Nat.ble_eq] at hst
          cases h
          obtain ⟨g0, g1⟩ := hs.at_ k l B hl hB hst.2
          have hv' := hv (by omega)
          rcases g1 with ⟨g1, g2, g3⟩ | ⟨b, cap, cs, g1, g2, g3, g4, g5, g6, g7, g8⟩
          · exact ⟨none, 0, by rw [hv', g3, g1], by omega⟩
          · exact ⟨_, cap, hv'.trans g3, g6⟩
        · cases h
      · cases h
  | g l => simp [lenA] at h
  | t2 a b => simp [lenA] at h
  | t3 a b d => simp [lenA] at h
  | t4 a b d e => simp [lenA] at h
  | un => simp [lenA] at h
theorem loc_u {D0 : Nat → Prop} {w0 : Base} {w : World} {r : Bool} {ρ : List Loc} {bl : List Blk} (hs : Sat D0 w0 r ρ bl w) {k : Nat} {l : Loc} {B : Blk} (h1 : ρ[k]? = some l) (h2 : bl[k]? = some B) (h3 : B.st ≤ 1) : l.u = B.u := (hs.at_ k l B h1 h2 h3).1
theorem CRels.append {D : Nat → Prop} {w : World} {ρ : List Loc} : ∀ {l : List Cell} {vs : List Value} {l' : List Cell} {vs' : List Value}, CRels D w ρ l vs → CRels D w ρ l' vs' → CRels D w ρ (l ++ l') (vs ++ vs')
  | [], [], _, _, _, h => h
  | _ :: _, _ :: _, _, _, h, k => ⟨h.1, CRels.append h.2 k⟩
  | [], _ :: _, _, _, h, _ => h.elim
  | _ :: _, [], _, _, h, _ => h.elim
theorem CRels.take {D : Nat → Prop} {w : World} {ρ : List Loc} : ∀ {l : List Cell} {vs : List Value} (n : Nat), CRels D w ρ l vs → CRels D w ρ (l.take n) (vs.take n)
  | [], [], _, _ => by simp [CRels]
  | _ :: _, _ :: _, 0, _ => trivial
  | _ :: _, _ :: _, n + 1, h => ⟨h.1, CRels.take n h.2⟩
  | [], _ :: _, _, h => h.elim
  | _ :: _, [], _, h => h.elim
theorem CRels.drop {D : Nat → Prop} {w : World} {ρ : List Loc} : ∀ {l : List Cell} {vs : List Value} (n : Nat), CRels D w ρ l vs → CRels D w ρ (l.drop n) (vs.drop n)
  | [], [], _, _ => by simp [CRels]
  | _ :: _, _ :: _, 0, h => h
  | _ :: _, _ :: _, n + 1, h => CRels.drop n h.2
  | [], _ :: _, _, h => h.elim
  | _ :: _, [], _, h => h.elim
theorem fold_seg (off : Nat) : ∀ (vs : List Value) (k : Nat) (cells : Array Value), off + k + vs.length ≤ cells.size →
    ((vs.zipIdx k).foldl (fun cs p => cs.setIfInBounds (off + p.2) p.1) cells).toList = cells.toList.take (off + k) ++ vs ++ cells.toList.drop (off + k + vs.length)
  | [], k, cells, _ => by simp
  | v :: vs, k, cells, h => by
    simp only [List.zipIdx_cons, List.foldl_cons]
    rw [fold_seg off vs (k + 1) _ (by simp at h ⊢; omega)]
    have e := list_seg_step cells.toList (off + k) v vs (by simp at h ⊢; omega)
    simpa [Array.toList_setIfInBounds, Nat.add_assoc] using e
theorem run_places {P : Program} (fs : Array Field) (h : ∀ f ∈ fs.toList, P.cellsOf f.type ≠ 0) (w : World) :
    (fs.mapM fun f => do pure (f.offset, ← sizeOf f.type) : Sem (Array (Nat × Nat))).run P w = .ok (fs.toList.map fun f => (f.offset, P.cellsOf f.type)).toArray w := by
  have key : ∀ l : List Field, (∀ f ∈ l, P.cellsOf f.type ≠ 0) → (l.mapM fun f => Functor.map (Prod.mk f.offset) (sizeOf f.type) : Sem (List (Nat × Nat))).run P w = .ok (l.map fun f => (f.offset, P.cellsOf f.type)) w := by
    intro l
    induction l with
    | nil => intro _; rfl
    | cons f l ih =>
      intro hl
      have hs : (sizeOf f.type).run P w = .ok (P.cellsOf f.type) w := by
        have h1 := hl f (by simp)
        cases hI : P.info? f.type with
        | none => simp [Program.cellsOf, hI] at h1
        | some i' => simp [sizeOf, typeInfo, Program.cellsOf, hI]
      have ih' := ih fun g hg => hl g (by simp [hg])
      simp [List.mapM_cons, hs, ih', Result.andThen]
  rw [Array.mapM_eq_mapM_toList]
  simp [key fs.toList h, Result.andThen]
theorem fill_rel {D0 : Nat → Prop} {w0 : Base} {w : World} {r : Bool} {ρ : List Loc} {bl : List Blk} (hs : Sat D0 w0 r ρ bl w) {D : Nat → Prop} {offs : List (Option (Nat × Nat))} {place : Nat → Option (Nat × Nat)} (hp : ∀ (i off fsz : Nat), offs[i]? = some (some (off, fsz)) → place i = some (off, fsz)) {g : Operand → V} {e : Operand → Value} :
    ∀ (parts : List (Nat × Operand)) (cs cs' : List Cell) (cells : Array Value), fillA bl offs cs (parts.map fun q => (q.1, g q.2)) = some cs' → (∀ q ∈ parts, VRel D w ρ (g q.2) (e q.2)) → CRels D w ρ cs cells.toList →
      ∃ cells', Instr.fill place cells (parts.map fun q => (q.1, e q.2)) = some cells' ∧ CRels D w ρ cs' cells'.toList
  | [], cs, cs', cells, h, _, hc => by simp [fillA] at h; subst h; exact ⟨cells, rfl, hc⟩
  | (i, x) :: parts, cs, cs', cells, h, hg, hc => by
    simp only [List.map_cons, fillA] at h
    split at h
    · rename_i off fsz ho
      have hx := hg (i, x) (by simp)
      have step : ∀ (l : List Cell) (v : Value), e x = v → v.cells.size = fsz → fsz = l.length → off + l.length ≤ cs.length → CRels D w ρ l v.cells.toList → fillA bl offs (cs.take off ++ l ++ cs.drop (off + l.length)) (parts.map fun q => (q.1, g q.2)) = some cs' →
          ∃ cells', Instr.fill place cells (((i, x) :: parts).map fun q => (q.1, e q.2)) = some cells' ∧ CRels D w ρ cs' cells'.toList := by
        intro l v ev e1 e2 e3 e4 e5
        have hlen := hc.length
        simp only [Array.length_toList] at hlen
        have hseg := fold_seg off v.cells.toList 0 cells (by simp only [Array.length_toList]; omega)
        obtain ⟨cells', h1, h2⟩ := fill_rel hs hp parts _ cs' (v.cells.zipIdx.foldl (fun cs (p : Value × Nat) => cs.setIfInBounds (off + p.2) p.1) cells) e5 (fun q hq => hg q (by simp [hq])) (by
          rw [← Array.foldl_toList, Array.toList_zipIdx, hseg]
          have el : v.cells.toList.length = l.length := e4.length.symm
          simp only [Nat.add_zero, el]
          exact ((hc.take off).append e4).append (hc.drop _))
        refine ⟨cells', ?_, h2⟩
        simp only [List.map_cons, Instr.fill, hp i off fsz ho, ev]
        rw [if_neg (by simp; omega)]
        exact h1
      split at h
      · rename_i y hy
        split at h
        · rename_i hcond
          simp only [Bool.and_eq_true, beq_iff_eq, Nat.ble_eq] at hcond
          rw [hy] at hx
          obtain ⟨h1, h2, h3⟩ := hcond
          have hcell : (e x).cells = #[e x] := by
            exact (one_rel hs h1 hx).2
          refine step [y] (e x) rfl (by rw [hcell]; simp [h2]) (by simp [h2]) (by simpa using h3) (by rw [hcell]; exact ⟨hx, trivial⟩) (by simpa using h)
        · cases h
      · rename_i l hl
        split at h
        · rename_i hcond
          simp only [Bool.and_eq_true, beq_iff_eq, Nat.ble_eq] at hcond
          rw [hl] at hx
          obtain ⟨vs, e1, e2⟩ := hx
          have hlen := e2.length
          simp only [Array.length_toList] at hlen
          exact step l (e x) rfl (by rw [e1]; simp only [Value.cells]; omega) hcond.1 hcond.2 (by rw [e1]; exact e2) h
        · cases h
      · cases h
    · cases h
theorem toNat_lt {n : Int} {m : Nat} (h0 : 0 ≤ n) (h : n < (m : Int)) : n.toNat < m := by omega
theorem run_index {P : Program} {T e : TypeId} {ti te : TI} (ht : tyOf P T = some ti) (he : ti.elem = some e) (hte : tyOf P e = some te) {k : IntKind} {n : Int} {b o len c : Nat} (h0 : 0 ≤ n) (h1 : n < (len : Int)) (w : World) :
    (Instr.indexAt T (.slice (some ⟨b, o, none⟩) len c) (.int k n)).run P w = .ok (.pointer (some ⟨b, o + n.toNat * te.size, none⟩)) w := by
  have hs := fun w => run_size hte w
  simp [Instr.indexAt, asIntOf, run_underlying (under_elem ht he), h0, h1, hs, add_plain]
theorem run_slice {P : Program} {T e : TypeId} {te : TI} (hu : P.underlying T = some (.slice e)) (hte : tyOf P e = some te) {A : Option Addr} {n c l h : Nat} {lo hi : Option Value} (hlo : lo = none ∧ l = 0 ∨ lo = some (.int .i64 l)) (hhi : hi = none ∧ h = n ∨ hi = some (.int .i64 h)) (h1 : l ≤ h) (h2 : h ≤ c) (w : World) :
    (Instr.sliceAt T (.slice A n c) lo hi none).run P w = .ok (.slice (if c = l then A else A.map (·.add (l * te.size))) (h - l) (c - l)) w := by
  have hs := fun w => run_size hte w
  have e1 : ((l : Int) ≤ (h : Int)) := by omega
  have e2 : ((h : Int) ≤ (c : Int)) := by omega
  rcases hlo with ⟨rfl, rfl⟩ | rfl <;> rcases hhi with ⟨rfl, rfl⟩ | rfl <;>
    simp [Instr.sliceAt, Instr.slice, Instr.sliceBounds, Instr.sliceBound, asIntOf, run_underlying hu, hs, h1, h2]
theorem slice_val {A : Option Addr} {b o l h n c sz : Nat} (hA : 0 < n → A = some ⟨b, o, none⟩) (h1 : l ≤ h) (h2 : h ≤ n) (h3 : n ≤ c) (hn : 0 < h - l) : (if c = l then A else A.map (·.add (l * sz))) = some ⟨b, o + l * sz, none⟩ := by
  rw [if_neg (by omega), hA (by omega)]
  simp [add_plain]
/-- The bounds of a slice expression. -/
theorem slice_bounds {D : Nat → Prop} {w : World} {ρ : List Loc} {σ : St} {a : Act} {lo : Option Operand} {m : Int} (h : (match lo.map σ.ev with | none => some (0 : Int) | some (V.c (.int .i64 n)) => some n | _ => none) = some m) (hm : 0 ≤ m) (hr : ∀ x, lo = some x → VRel D w ρ (σ.ev x) (a.eval x)) :
    lo.map a.eval = none ∧ m.toNat = 0 ∨ lo.map a.eval = some (.int .i64 (m.toNat : Int)) := by
  cases lo with
  | none => simp at h; subst h; exact .inl ⟨rfl, rfl⟩
  | some x =>
    right
    simp only [Option.map_some] at h ⊢
    split at h
    · rename_i h0; cases h0
    · rename_i n hn
      cases h
      have := hr x rfl
      rw [Option.some.inj hn] at this
      rw [show a.eval x = .int .i64 m from this, Int.toNat_of_nonneg hm]
    · cases h
theorem slice_boundh {D : Nat → Prop} {w : World} {ρ : List Loc} {σ : St} {a : Act} {hi : Option Operand} {m : Int} {n0 : Nat} {q : Option Int} (hq : ∀ z, q = some z → z = n0) (h : (match hi.map σ.ev with | none => q | some (V.c (.int .i64 n)) => some n | _ => none) = some m) (hm : 0 ≤ m) (hr : ∀ x, hi = some x → VRel D w ρ (σ.ev x) (a.eval x)) :
    hi.map a.eval = none ∧ m.toNat = n0 ∨ hi.map a.eval = some (.int .i64 (m.toNat : Int)) := by
  cases hi with
  | none => simp at h; exact .inl ⟨rfl, by rw [hq m h]; rfl⟩
  | some x =>
    right
    simp only [Option.map_some] at h ⊢
    split at h
    · rename_i h0; cases h0
    · rename_i n hn
      cases h
      have := hr x rfl
      rw [Option.some.inj hn] at this
      rw [show a.eval x = .int .i64 m from this, Int.toNat_of_nonneg hm]
    · cases h
theorem arg_mem {o : Oper} {c : Call} (hx : o.op = .call c) {x : Operand} (h : x ∈ c.args.toList) : x ∈ o.op.operands := by
  rw [hx]
  simp only [Op.operands, Call.operands]
  exact Array.mem_append.2 (.inr (Array.mem_toList_iff.1 h))
set_option maxHeartbeats 1000000 in
theorem dop_sound {E : Env} (hE : EnvOK E) {o : Oper} {σ : St} {K : V → Prop} (h : dop E o σ K) : ∃ X, K X ∧ ∀ D0 w0, Steps1 E.P D0 w0 E.r o σ X := by
  unfold dop at h
  split at h
  case h_1 x hx | h_2 x hx =>
    refine ⟨_, h, fun D0 w0 => steps1_value fun ρ bl a w hs hag hr => ⟨a.eval x, ?_, hr x (by rw [hx]; simp [Op.operands])⟩⟩
    simp [execOp, hx]
  case h_3 c x y hx =>
    split at h
    · rename_i t ht
      have hb : ∀ (D0 : Nat → Prop) (w0 : Base) (ρ : List Loc) (bl : List Blk) (a : Act) (w : World), (∀ x ∈ o.op.operands, VRel (Dof D0 ρ bl) w ρ (σ.ev x) (a.eval x)) → a.eval c = .bool t := by
        intro D0 w0 ρ bl a w hr
        have := hr c (by rw [hx]; simp [Op.operands])
        rw [ht] at this
        exact this
      have h := cs_iff.1 h
      cases t with
      | true =>
        refine ⟨_, h.1 rfl, fun D0 w0 => steps1_value fun ρ bl a w hs hag hr => ⟨a.eval x, ?_, hr x (by rw [hx]; simp [Op.operands])⟩⟩
        simp [execOp, hx, hb D0 w0 ρ bl a w hr, asBool]
      | false =>
        refine ⟨_, h.2 rfl, fun D0 w0 => steps1_value fun ρ bl a w hs hag hr => ⟨a.eval y, ?_, hr y (by rw [hx]; simp [Op.operands])⟩⟩
        simp [execOp, hx, hb D0 w0 ρ bl a w hr, asBool]
    · exact h.elim
  case h_4 T x hx =>
    split at h
    · rename_i ti ht
      have ht := hE.ty _ _ ht
      obtain ⟨h1, h⟩ := chk_iff.1 h
      simp only [Bool.or_eq_true, beq_iff_eq] at h1
      split at h
      · rename_i k u sz i o' hv
        split at h
        · rename_i B hB
          obtain ⟨g0, g6⟩ := chk_iff.1 h
          simp only [Bool.and_eq_true, beq_iff_eq, Nat.ble_eq] at g0
          obtain ⟨g1, g2, g3, g5⟩ := g0
          refine ⟨_, g6, fun D0 w0 => steps1_value fun ρ bl a w hs hag hr => ?_⟩
          have hB := hag (by rw [hx]; rfl) x (by rw [hx]; simp [Op.operands]) k u (by rw [hv]; exact ⟨rfl, rfl⟩) B hB (by omega) (by omega)
          have hr' := hr x (by rw [hx]; simp [Op.operands])
          rw [hv] at hr'
          obtain ⟨y, hy, hyr⟩ := load_p hs ht h1 hB g1 g2 g3 g5 hr'
          exact ⟨y, by simp [execOp, hx, hy], hyr⟩
        · exact h.elim
      · rename_i m f hv
        obtain ⟨g0, h⟩ := chk_iff.1 h
        refine ⟨_, h, fun D0 w0 => steps1_value fun ρ bl a w hs hag hr => ?_⟩
        have hr' := hr x (by rw [hx]; simp [Op.operands])
        rw [hv] at hr'
        obtain ⟨y, hy, hyr⟩ := load_x ht h1 (Nat.le_of_ble_eq_true g0) hr'
        exact ⟨y, by simp [execOp, hx, hy], hyr.nil_rho⟩
      · exact h.elim
    · exact h.elim
  case h_5 T x fld hx =>
    split at h
    · rename_i ti ht
      have ht := hE.ty _ _ ht
      split at h
      · rename_i off fsz ho
        split at h
        · rename_i k u sz i o' hv
          split at h
          · rename_i B hB
            obtain ⟨g0, g3⟩ := chk_iff.1 h
            simp only [Bool.and_eq_true, beq_iff_eq, Nat.ble_eq] at g0
            obtain ⟨g1, g2⟩ := g0
            refine ⟨_, g3, fun D0 w0 => steps1_value fun ρ bl a w hs hag hr => ?_⟩
            have hB := hag (by rw [hx]; rfl) x (by rw [hx]; simp [Op.operands]) k u (by rw [hv]; exact ⟨rfl, rfl⟩) B hB (by omega) (by omega)
            have hr' := hr x (by rw [hx]; simp [Op.operands])
            rw [hv] at hr'
            obtain ⟨l, hl, hu, hp⟩ := hr'
            have hlu := loc_u hs hl hB g2
            obtain ⟨hil, b, e1, e2⟩ := hp (by omega)
            refine ⟨.pointer (some ⟨b, i * sz + o' + off, none⟩), ?_, ⟨l, hl, hu, fun _ => ⟨hil, b, e1, by rw [Nat.add_assoc]⟩⟩⟩
            simp [execOp, hx, e2, run_field ht ho]
          · exact h.elim
        · rename_i m f hv
          obtain ⟨g0, h⟩ := chk_iff.1 h
          have g0 := Nat.le_of_ble_eq_true g0
          refine ⟨_, h, fun D0 w0 => steps1_value fun ρ bl a w hs hag hr => ?_⟩
          have hr' := hr x (by rw [hx]; simp [Op.operands])
          rw [hv] at hr'
          obtain ⟨b, o', e1, e2, e3, e4⟩ := hr'
          refine ⟨.pointer (some ⟨b, o' + off, none⟩), by simp [execOp, hx, e1, run_field ht ho], ⟨b, o' + off, rfl, e2, e3, fun j hj => ?_⟩⟩
          rw [Nat.add_assoc]
          exact e4 (off + j) (by omega)
        · exact h.elim
      · exact h.elim
    · exact h.elim
  case h_6 T x ix hx =>
    split at h
    · rename_i ti ht
      split at h
      · rename_i e he
        split at h
        · rename_i te kk n hte hn
          have ht := hE.ty _ _ ht
          have hte := hE.ty _ _ hte
          obtain ⟨h0, h⟩ := h
          have hix : ∀ (D0 : Nat → Prop) (w0 : Base) (ρ : List Loc) (bl : List Blk) (a : Act) (w : World), (∀ x ∈ o.op.operands, VRel (Dof D0 ρ bl) w ρ (σ.ev x) (a.eval x)) → a.eval ix = .int kk n := by
            intro D0 w0 ρ bl a w hr
            have := hr ix (by rw [hx]; simp [Op.operands])
            rw [hn] at this
            exact this
          split at h
          · rename_i sz m f hv
            obtain ⟨g1, h⟩ := h
            obtain ⟨g2, g3⟩ := chk_iff.1 h
            have g2 : te.size = sz := by simpa using g2
            refine ⟨_, g3, fun D0 w0 => steps1_value fun ρ bl a w hs hag hr => ?_⟩
            have hr' := hr x (by rw [hx]; simp [Op.operands])
            rw [hv] at hr'
            obtain ⟨A, c, e1, e2, e4⟩ := hr'
            obtain ⟨b, o', rfl, e5, e6, e7⟩ := e4 (by omega)
            refine ⟨.pointer (some ⟨b, o' + n.toNat * te.size, none⟩), by simp [execOp, hx, e1, hix D0 w0 ρ bl a w hr, run_index ht he hte h0 g1], ⟨b, _, rfl, e5, e6, fun j hj => ?_⟩⟩
            obtain ⟨y, hy, hyr⟩ := e7 n.toNat j (toNat_lt h0 g1) hj
            exact ⟨y, by rw [g2, Nat.add_assoc]; exact hy, hyr⟩
          · rename_i k u hv
            split at h
            · rename_i B hB
              obtain ⟨g4, h⟩ := h
              obtain ⟨g0, g5⟩ := chk_iff.1 h
              simp only [Bool.and_eq_true, beq_iff_eq, Nat.ble_eq] at g0
              obtain ⟨g1, g2, g3⟩ := g0
              refine ⟨_, g5, fun D0 w0 => steps1_value fun ρ bl a w hs hag hr => ?_⟩
              have hB := hag (by rw [hx]; rfl) x (by rw [hx]; simp [Op.operands]) k u (by rw [hv]; exact ⟨rfl, rfl⟩) B hB (by omega) (by omega)
              have hr' := hr x (by rw [hx]; simp [Op.operands])
              rw [hv] at hr'
              obtain ⟨l, hl, hu, hp⟩ := hr'
              have hln := loc_n hs hl hB g2
              obtain ⟨q0, q1⟩ := hs.at_ k l B hl hB g2
              have hp' := hp (by omega)
              rcases q1 with ⟨q1, _, _⟩ | ⟨b, cap, cs, q1, q2, q3, _⟩
              · omega
              · refine ⟨.pointer (some ⟨b, n.toNat * te.size, none⟩), ?_, ⟨l, hl, hu, fun _ => ⟨by omega, b, q1, by rw [g3]; rfl⟩⟩⟩
                have := run_index (P := E.P) ht he hte (k := kk) (b := b) (o := 0) (c := cap) h0 g4 w
                rw [Nat.zero_add] at this
                simp [execOp, hx, hp', q3, hix D0 w0 ρ bl a w hr, this]
            · exact h.elim
          · rename_i k u sz o' m hv
            split at h
            · rename_i B hB
              obtain ⟨g4, h⟩ := h
              obtain ⟨g0, g5⟩ := chk_iff.1 h
              simp only [Bool.and_eq_true, beq_iff_eq, Nat.ble_eq] at g0
              obtain ⟨g1, g2, g3⟩ := g0
              refine ⟨_, g5, fun D0 w0 => steps1_value fun ρ bl a w hs hag hr => ?_⟩
              have hB := hag (by rw [hx]; rfl) x (by rw [hx]; simp [Op.operands]) k u (by rw [hv]; exact ⟨rfl, rfl⟩) B hB (by omega) (by omega)
              have hr' := hr x (by rw [hx]; simp [Op.operands])
              rw [hv] at hr'
              obtain ⟨l, hl, hu, hp⟩ := hr'
              have hlu := loc_u hs hl hB g2
              obtain ⟨hon, A, c, e1, e2, e4⟩ := hp (by omega)
              obtain ⟨b, e5, rfl⟩ := e4 (by omega)
              refine ⟨.pointer (some ⟨b, o' * sz + n.toNat * te.size, none⟩), by simp [execOp, hx, e1, hix D0 w0 ρ bl a w hr, run_index ht he hte h0 g4], ⟨l, hl, hu, fun _ => ⟨by omega, b, e5, by rw [g3, Nat.add_mul]; rfl⟩⟩⟩
            · exact h.elim
          · exact h.elim
        · exact h.elim
      · exact h.elim
    · exact h.elim
  case h_7 T parts hx =>
    split at h
    · rename_i ti ht
      split at h
      · rename_i l hl
        have ht := hE.ty _ _ ht
        obtain ⟨h0, h3⟩ := chk_iff.1 h
        simp only [Bool.and_eq_true, Bool.not_eq_true', List.isEmpty_eq_false_iff] at h0
        obtain ⟨h1, h2⟩ := h0
        refine ⟨_, h3, fun D0 w0 => steps1_value fun ρ bl a w hs hag hr => ?_⟩
        have hpm : ∀ q ∈ parts.toList, q.2 ∈ o.op.operands := fun q hq => by rw [hx]; simp only [Op.operands]; simp; exact ⟨q.1, by simpa using hq⟩
        have hl := fillA_congr (bl' := bl) _ _ (fun q hq => by
          obtain ⟨q', hq', rfl⟩ := List.mem_map.1 hq
          exact hag (by rw [hx]; rfl) q'.2 (hpm q' hq')) hl
        obtain ⟨d, i, zv, hd, hi, hz, hti⟩ := tyOf_spec ht
        have hfs : ∃ fs, d = .struct fs := by
          rw [hti] at h1
          simp only [tiOf] at h1
          cases d <;> first | exact ⟨_, rfl⟩ | exact absurd rfl h1
        obtain ⟨fs, rfl⟩ := hfs
        have hoffs : ti.offs = fs.toList.map fun f => if E.P.cellsOf f.type = 0 then none else some (f.offset, E.P.cellsOf f.type) := by rw [hti]; rfl
        have hne : ∀ f ∈ fs.toList, E.P.cellsOf f.type ≠ 0 := by
          intro f hf he
          rw [hoffs, List.all_map, List.all_eq_true] at h2
          have := h2 f hf
          simp [he] at this
        have hzero : ti.zero = zv.cells.toList.map cellOf := by rw [hti]; rfl
        have hp : ∀ (i off fsz : Nat), ti.offs[i]? = some (some (off, fsz)) → ((fs.toList.map fun f => (f.offset, E.P.cellsOf f.type)).toArray)[i]? = some (off, fsz) := by
          intro i off fsz hj
          rw [hoffs, List.getElem?_map] at hj
          simp only [List.getElem?_toArray, List.getElem?_map]
          cases hf : fs.toList[i]? with
          | none => rw [hf] at hj; simp at hj
          | some f =>
            rw [hf] at hj
            have := hne f (List.mem_of_getElem? hf)
            simp [this] at hj
            simp [hj.1, hj.2]
        have hz0 : CRels (Dof D0 ρ bl) w ρ ti.zero zv.cells.toList := by
          rw [hzero]
          exact CRels.of _ _ (by simp) fun j x v h1 h2 => by
            rw [List.getElem?_map, h2] at h1
            simp at h1; subst h1
            exact cellOf_rel _ _ _ v
        obtain ⟨cells', e1, e2⟩ := fill_rel hs hp (g := σ.ev) (e := a.eval) parts.toList ti.zero l zv.cells hl (fun q hq => hr q.2 (by rw [hx]; simp only [Op.operands]; simp; exact ⟨q.1, by simpa using hq⟩)) hz0
        refine ⟨.agg cells', ?_, ⟨cells', rfl, e2⟩⟩
        have hpl := run_places (P := E.P) fs hne w
        have hzv : (zeroValue T).run E.P w = .ok zv w := by simp [zeroValue, typeInfo, hi, hz]
        have hex : execOp a.eval o = (do let y ← Instr.build T (parts.map fun (i, x) => (i, a.eval x)); pure (.value y)) := by unfold execOp; rw [hx]
        rw [hex]
        have hb : (Instr.build T (parts.map fun (i, x) => (i, a.eval x))).run E.P w = .ok (.agg cells') w := by
          unfold Instr.build
          simp only [Sem.run_bind, hzv, Result.andThen, run_underlying hd, hpl]
          have : (parts.map fun (i, x) => (i, a.eval x)).toList = parts.toList.map fun q => (q.1, a.eval q.2) := by simp
          rw [this]
          simp only [e1]
          rfl
        simp [hb]
      · exact h.elim
    · exact h.elim
  case h_8 op T x y T2 hx =>
    split at h
    · rename_i k a' k' b' h1 h2
      obtain ⟨hk, hbin⟩ := chk_iff.1 h
      obtain ⟨c, hc, v, _, hv, hrun⟩ := intBin_sound hk hbin T x y (default : World) (P := E.P)
      refine ⟨_, hc, fun D0 w0 => steps1_value fun ρ bl a w hs hag hr => ?_⟩
      have e1 := hr x (by rw [hx]; simp [Op.operands])
      have e2 := hr y (by rw [hx]; simp [Op.operands])
      rw [h1] at e1
      rw [h2] at e2
      refine ⟨v, ?_, hv _ _ _⟩
      have hex : execOp a.eval o = (do let z ← (do eqGuard op T x y (a.eval x) (a.eval y); binOp op T (a.eval x) (a.eval y) : Sem Value); pure (.value z)) := by unfold execOp; rw [hx]
      rw [hex, show a.eval x = .int k a' from e1, show a.eval y = .int k' b' from e2]
      have := hrun w
      rw [Sem.run_bind, this]
      rfl
    · rename_i a' b' h1 h2
      split at h
      · rename_i ti ht
        have ht := hE.ty _ _ ht
        obtain ⟨hk, h⟩ := chk_iff.1 h
        have hu := under_kd1 ht (by simpa using hk)
        have run0 : ∀ (d : Nat) (w : World), (Op.equalIn (d + 1) T (.bool a') (.bool b')).run E.P w = .ok (a' == b') w := fun d w => by simp [Op.equalIn, run_underlying hu]
        have run : ∀ w : World, (Op.equal T (.bool a') (.bool b')).run E.P w = .ok (a' == b') w := run0 9999
        have hev : ∀ (ρ : List Loc) (D : Nat → Prop) (a : Act) (w : World), (∀ x ∈ o.op.operands, VRel D w ρ (σ.ev x) (a.eval x)) → a.eval x = .bool a' ∧ a.eval y = .bool b' := by
          intro ρ D a w hr
          have e1 := hr x (by rw [hx]; simp [Op.operands])
          have e2 := hr y (by rw [hx]; simp [Op.operands])
          rw [h1] at e1
          rw [h2] at e2
          exact ⟨e1, e2⟩
        unfold boolBin at h
        split at h
        · refine ⟨_, h, fun D0 w0 => steps1_value fun ρ bl a w hs hag hr => ?_⟩
          obtain ⟨e1, e2⟩ := hev _ _ _ _ hr
          exact ⟨.bool (a' == b'), by simp [execOp, hx, e1, e2, eqGuard, binOp, run], rfl⟩
        · refine ⟨_, h, fun D0 w0 => steps1_value fun ρ bl a w hs hag hr => ?_⟩
          obtain ⟨e1, e2⟩ := hev _ _ _ _ hr
          exact ⟨.bool (!(a' == b')), by simp [execOp, hx, e1, e2, eqGuard, binOp, run], rfl⟩
        · exact h.elim
      · exact h.elim
    · rename_i sz n f h1 h2
      split at h
      · rename_i ti ht
        have ht := hE.ty _ _ ht
        obtain ⟨hk, h0, h⟩ := chk_iff.1 h
        obtain ⟨e, he⟩ := Option.isSome_iff_exists.1 hk
        have hu := under_elem ht he
        have run0 : ∀ (d : Nat) (w : World) (b : Addr) (c : Nat), (Op.equalIn (d + 1) T (.slice (some b) n c) (.slice none 0 0)).run E.P w = .ok false w := fun d w b c => by simp [Op.equalIn, run_underlying hu]
        have run : ∀ (w : World) (b : Addr) (c : Nat), (Op.equal T (.slice (some b) n c) (.slice none 0 0)).run E.P w = .ok false w := run0 9999
        have hev : ∀ (ρ : List Loc) (D : Nat → Prop) (a : Act) (w : World), (∀ x ∈ o.op.operands, VRel D w ρ (σ.ev x) (a.eval x)) → ∃ b c, a.eval x = .slice (some b) n c ∧ a.eval y = .slice none 0 0 := by
          intro ρ D a w hr
          have e1 := hr x (by rw [hx]; simp [Op.operands])
          have e2 := hr y (by rw [hx]; simp [Op.operands])
          rw [h1] at e1
          rw [h2] at e2
          obtain ⟨A, c, q1, _, q2⟩ := e1
          obtain ⟨b, o', rfl, _⟩ := q2 h0
          exact ⟨_, c, q1, e2⟩
        unfold nilBin at h
        split at h
        · refine ⟨_, h, fun D0 w0 => steps1_value fun ρ bl a w hs hag hr => ?_⟩
          obtain ⟨b, c, e1, e2⟩ := hev _ _ _ _ hr
          exact ⟨.bool false, by simp [execOp, hx, e1, e2, eqGuard, binOp, run], rfl⟩
        · refine ⟨_, h, fun D0 w0 => steps1_value fun ρ bl a w hs hag hr => ?_⟩
          obtain ⟨b, c, e1, e2⟩ := hev _ _ _ _ hr
          exact ⟨.bool true, by simp [execOp, hx, e1, e2, eqGuard, binOp, run], rfl⟩
        · exact h.elim
      · exact h.elim
    · exact h.elim
  case h_9 op T x hx =>
    split at h
    · rename_i b h1
      refine ⟨_, h, fun D0 w0 => steps1_value fun ρ bl a w hs hag hr => ?_⟩
      have e1 := hr x (by rw [hx]; simp [Op.operands])
      rw [h1] at e1
      exact ⟨.bool (!b), by simp [execOp, hx, show a.eval x = .bool b from e1, Op.unary], rfl⟩
    · rename_i k n h1
      refine ⟨_, h, fun D0 w0 => steps1_value fun ρ bl a w hs hag hr => ?_⟩
      have e1 := hr x (by rw [hx]; simp [Op.operands])
      rw [h1] at e1
      exact ⟨.int k (k.wrap (-n)), by simp [execOp, hx, show a.eval x = .int k n from e1, Op.unary, Op.intArith], rfl⟩
    · rename_i k n h1
      refine ⟨_, h, fun D0 w0 => steps1_value fun ρ bl a w hs hag hr => ?_⟩
      have e1 := hr x (by rw [hx]; simp [Op.operands])
      rw [h1] at e1
      exact ⟨.int k (k.wrap (BitVec.ofInt k.bits (if k.signed then -1 else k.max) ^^^ BitVec.ofInt k.bits n).toNat), by simp [execOp, hx, show a.eval x = .int k n from e1, Op.unary, Op.intBits], rfl⟩
    · exact h.elim
  case h_10 S T x hx =>
    split at h
    · rename_i ts ti kk n hts hti h1
      split at h
      · rename_i k1 k h2 h3
        have hts := hE.ty _ _ hts
        have hti := hE.ty _ _ hti
        refine ⟨_, h, fun D0 w0 => steps1_value fun ρ bl a w hs hag hr => ?_⟩
        have e1 := hr x (by rw [hx]; simp [Op.operands])
        rw [h1] at e1
        exact ⟨.int k (k.wrap n), by simp [execOp, hx, show a.eval x = .int kk n from e1, convert, run_underlying (under_ik hts h2), run_underlying (under_ik hti h3), Conv.intToInt], rfl⟩
      · exact h.elim
    · exact h.elim
  case h_11 x i hx =>
    split at h
    · rename_i v hv
      refine ⟨_, h, fun D0 w0 => steps1_value fun ρ bl a w hs hag hr => ?_⟩
      have e1 := hr x (by rw [hx]; simp [Op.operands])
      cases hq : σ.ev x with
      | c y => rw [hq] at hv; simp [extractA] at hv
      | g l => rw [hq] at hv; simp [extractA] at hv
      | un => rw [hq] at hv; simp [extractA] at hv
      | t2 p q =>
        rw [hq] at hv e1
        obtain ⟨y, z, e2, e3, e4⟩ := e1
        match i, hv with
        | 0, hv => simp [extractA] at hv; subst hv; exact ⟨y, by simp [execOp, hx, e2, Instr.extract], e3⟩
        | 1, hv => simp [extractA] at hv; subst hv; exact ⟨z, by simp [execOp, hx, e2, Instr.extract], e4⟩
        | _ + 2, hv => simp [extractA] at hv
      | t3 p q s =>
        rw [hq] at hv e1
        obtain ⟨y, z, u, e2, e3, e4, e5⟩ := e1
        match i, hv with
        | 0, hv => simp [extractA] at hv; subst hv; exact ⟨y, by simp [execOp, hx, e2, Instr.extract], e3⟩
        | 1, hv => simp [extractA] at hv; subst hv; exact ⟨z, by simp [execOp, hx, e2, Instr.extract], e4⟩
        | 2, hv => simp [extractA] at hv; subst hv; exact ⟨u, by simp [execOp, hx, e2, Instr.extract], e5⟩
        | _ + 3, hv => simp [extractA] at hv
      | t4 p q s t =>
        rw [hq] at hv e1
        obtain ⟨y, z, u, t', e2, e3, e4, e5, e6⟩ := e1
        match i, hv with
        | 0, hv => simp [extractA] at hv; subst hv; exact ⟨y, by simp [execOp, hx, e2, Instr.extract], e3⟩
        | 1, hv => simp [extractA] at hv; subst hv; exact ⟨z, by simp [execOp, hx, e2, Instr.extract], e4⟩
        | 2, hv => simp [extractA] at hv; subst hv; exact ⟨u, by simp [execOp, hx, e2, Instr.extract], e5⟩
        | 3, hv => simp [extractA] at hv; subst hv; exact ⟨t', by simp [execOp, hx, e2, Instr.extract], e6⟩
        | _ + 4, hv => simp [extractA] at hv
    · exact h.elim
  case h_13 args argTypes hx =>
    split at h
    · rename_i x T h1 h2
      split at h
      · rename_i ti n ht hn
        have ht := hE.ty _ _ ht
        obtain ⟨g0, h⟩ := chk_iff.1 h
        refine ⟨_, h, fun D0 w0 => steps1_value fun ρ bl a w hs hag hr => ?_⟩
        have e1 := hr x (arg_mem hx (by simp [h1]))
        have hn := lenA_congr (hag (by rw [hx]; rfl) x (arg_mem hx (by simp [h1]))) hn
        obtain ⟨A, c, e2, e3⟩ := len_rel hs hn e1
        obtain ⟨e, he⟩ := Option.isSome_iff_exists.1 g0
        refine ⟨.int .i64 n, ?_, rfl⟩
        have ha : args = #[x] := by rw [← Array.toList_inj]; simpa using h1
        have hT : argTypes = #[T] := by rw [← Array.toList_inj]; simpa using h2
        simp [execOp, hx, resolve, invoke, builtin, Builtin.len_, ha, hT, e2, run_underlying (under_elem ht he), goInt]
      · rename_i ti ht hn
        have ht := hE.ty _ _ ht
        split at h
        · rename_i n hs
          obtain ⟨g0, h⟩ := chk_iff.1 h
          refine ⟨_, h, fun D0 w0 => steps1_value fun ρ bl a w _ hag hr => ?_⟩
          have e1 := hr x (arg_mem hx (by simp [h1]))
          unfold strA at hs
          split at hs
          · rename_i s hv
            cases hs
            rw [hv] at e1
            have e2 : a.eval x = .string s := e1
            refine ⟨.int .i64 s.size, ?_, rfl⟩
            have ha : args = #[x] := by rw [← Array.toList_inj]; simpa using h1
            have hT : argTypes = #[T] := by rw [← Array.toList_inj]; simpa using h2
            simp [execOp, hx, resolve, invoke, builtin, Builtin.len_, ha, hT, e2, run_underlying (under_kd2 ht (by simpa using g0)), goInt]
          · cases hs
        · exact h.elim
      · exact h.elim
    · exact h.elim
  case h_14 args ts hx =>
    split at h
    · rename_i k a' k' b' h1
      refine ⟨_, h, fun D0 w0 => steps1_value fun ρ bl a w hs hag hr => ?_⟩
      obtain ⟨x, y, ha, hx1, hy1⟩ : ∃ x y, args.toList = [x, y] ∧ σ.ev x = .c (.int k a') ∧ σ.ev y = .c (.int k' b') := by
        match hh : args.toList, h1 with
        | [x, y], h1 => simp at h1; exact ⟨x, y, rfl, h1.1, h1.2⟩
        | [], h1 => simp at h1
        | [_], h1 => simp at h1
        | _ :: _ :: _ :: _, h1 => simp at h1
      have e1 := hr x (arg_mem hx (by simp [ha]))
      have e2 := hr y (arg_mem hx (by simp [ha]))
      rw [hx1] at e1
      rw [hy1] at e2
      refine ⟨.int k (if b' > a' then b' else a'), ?_, rfl⟩
      have ha' : args = #[x, y] := by rw [← Array.toList_inj]; simpa using ha
      simp [execOp, hx, resolve, invoke, builtin, Builtin.max_, Builtin.max2, ha', show a.eval x = .int k a' from e1, show a.eval y = .int k' b' from e2]
    · rename_i k a' k' b' k2 c' h1
      refine ⟨_, h, fun D0 w0 => steps1_value fun ρ bl a w hs hag hr => ?_⟩
      obtain ⟨x, y, z, ha, hx1, hy1, hz1⟩ : ∃ x y z, args.toList = [x, y, z] ∧ σ.ev x = .c (.int k a') ∧ σ.ev y = .c (.int k' b') ∧ σ.ev z = .c (.int k2 c') := by
        match hh : args.toList, h1 with
        | [x, y, z], h1 => simp at h1; exact ⟨x, y, z, rfl, h1.1, h1.2.1, h1.2.2⟩
        | [], h1 => simp at h1
        | [_], h1 => simp at h1
        | [_, _], h1 => simp at h1
        | _ :: _ :: _ :: _ :: _, h1 => simp at h1
      have e1 := hr x (arg_mem hx (by simp [ha]))
      have e2 := hr y (arg_mem hx (by simp [ha]))
      have e3 := hr z (arg_mem hx (by simp [ha]))
      rw [hx1] at e1
      rw [hy1] at e2
      rw [hz1] at e3
      refine ⟨.int k (if c' > (if b' > a' then b' else a') then c' else (if b' > a' then b' else a')), ?_, rfl⟩
      have ha' : args = #[x, y, z] := by rw [← Array.toList_inj]; simpa using ha
      simp [execOp, hx, resolve, invoke, builtin, Builtin.max_, Builtin.max2, ha', show a.eval x = .int k a' from e1, show a.eval y = .int k' b' from e2, show a.eval z = .int k2 c' from e3]
    · exact h.elim
  case h_15 args ts hx =>
    split at h
    · rename_i k a' k' b' h1
      refine ⟨_, h, fun D0 w0 => steps1_value fun ρ bl a w hs hag hr => ?_⟩
      obtain ⟨x, y, ha, hx1, hy1⟩ : ∃ x y, args.toList = [x, y] ∧ σ.ev x = .c (.int k a') ∧ σ.ev y = .c (.int k' b') := by
        match hh : args.toList, h1 with
        | [x, y], h1 => simp at h1; exact ⟨x, y, rfl, h1.1, h1.2⟩
        | [], h1 => simp at h1
        | [_], h1 => simp at h1
        | _ :: _ :: _ :: _, h1 => simp at h1
      have e1 := hr x (arg_mem hx (by simp [ha]))
      have e2 := hr y (arg_mem hx (by simp [ha]))
      rw [hx1] at e1
      rw [hy1] at e2
      refine ⟨.int k (if b' < a' then b' else a'), ?_, rfl⟩
      have ha' : args = #[x, y] := by rw [← Array.toList_inj]; simpa using ha
      simp [execOp, hx, resolve, invoke, builtin, Builtin.min_, Builtin.min2, ha', show a.eval x = .int k a' from e1, show a.eval y = .int k' b' from e2]
    · exact h.elim
  case h_16 g args ts hx =>
    split at h
    · rename_i f hf
      obtain ⟨hcl, X, ⟨hb, hok⟩, hK⟩ := chk_iff.1 h
      refine ⟨X, hK, fun D0 w0 ρ bl a w hs hag hr next Q hn => ?_⟩
      have hg := callee_eval hf (hr g (by rw [hx]; simp [Op.operands, Call.operands]))
      unfold Oper.wp
      rw [exec_call hx hg hb, Oper.upon_enter]
      have hcl2 : (args.toList.map fun x => St.close bl (σ.ev x)) = args.toList.map fun x => St.close σ.bl (σ.ev x) := List.map_congr_left fun x hxm => close_congr (hag (by rw [hx]; rfl) x (arg_mem hx hxm)) (List.all_eq_true.1 hcl _ (List.mem_map_of_mem hxm))
      have hvs : VRels (Dof D0 ρ bl) w [] (args.toList.map fun x => St.close σ.bl (σ.ev x)) (args.toList.map a.eval) := by
        rw [← hcl2] at hcl ⊢
        exact
        (VRels.map args.toList fun x hxm => close_rel hs (hr x (arg_mem hx hxm))).clos hcl
      have := hok (Dof D0 ρ bl) w _ (fun b hb => hs.lt hb) (fun hr b o d hD => hs.noU hr b o d hD) hvs
      rw [show (args.toList.map a.eval).toArray = args.map a.eval by rw [← Array.toList_map, Array.toArray_toList]] at this
      refine this.mono ?_
      rintro e w' ⟨v, rfl, hv, hb⟩
      exact hn v w' hb hv.nil_rho
    · split at h
      · rename_i f cs hf
        obtain ⟨hcl, X, ⟨hb, hok⟩, hK⟩ := chk_iff.1 h
        refine ⟨X, hK, fun D0 w0 ρ bl a w hs hag hr next Q hn => ?_⟩
        have hgm : g ∈ o.op.operands := by rw [hx]; simp [Op.operands, Call.operands]
        obtain ⟨⟨n, c, hev, hcs⟩, caps, hg, hcaps⟩ := caps_eval hf (hr g hgm)
        unfold Oper.wp
        rw [exec_callc hx hg hb, Oper.upon_enter]
        rw [List.all_append, Bool.and_eq_true] at hcl
        obtain ⟨hcla, hclc⟩ := hcl
        have hcl2 : (args.toList.map fun x => St.close bl (σ.ev x)) = args.toList.map fun x => St.close σ.bl (σ.ev x) := List.map_congr_left fun x hxm => close_congr (hag (by rw [hx]; rfl) x (arg_mem hx hxm)) (List.all_eq_true.1 hcla _ (List.mem_map_of_mem hxm))
        have hcc : cs.map (St.closeC bl) = cs.map (St.closeC σ.bl) := List.map_congr_left fun y hy => closeC_congr (fun k u hm => hag (by rw [hx]; rfl) g hgm k u (by
          rw [hev]
          rw [hcs] at hy
          obtain ⟨j, hj, rfl⟩ := List.mem_map.1 hy
          exact ⟨j, List.mem_range.1 hj, hm⟩)) (List.all_eq_true.1 hclc _ (List.mem_map_of_mem hy))
        have hvs : VRels (Dof D0 ρ bl) w [] (args.toList.map fun x => St.close σ.bl (σ.ev x)) (args.toList.map a.eval) := by
          rw [← hcl2] at hcla ⊢
          exact (VRels.map args.toList fun x hxm => close_rel hs (hr x (arg_mem hx hxm))).clos hcla
        have hvc : VRels (Dof D0 ρ bl) w [] (cs.map fun c => V.c (St.closeC σ.bl c)) caps.toList := by
          have h1 := closeCs_rel hs hcaps
          rw [hcc] at h1
          have h2 : (cs.map (St.closeC σ.bl)).all Cell.clos = true := by
            rw [List.all_eq_true] at hclc ⊢
            intro y hy
            obtain ⟨z, hz, rfl⟩ := List.mem_map.1 hy
            exact hclc _ (List.mem_map_of_mem hz)
          exact VRels.cells (h1.clos h2)
        have hvv := hvs.append hvc
        have := hok (Dof D0 ρ bl) w _ (fun b hb => hs.lt hb) (fun hr b o d hD => hs.noU hr b o d hD) hvv
        rw [show (args.toList.map a.eval ++ caps.toList).toArray = args.map a.eval ++ caps by
          rw [← Array.toList_map, ← Array.toList_append, Array.toArray_toList]] at this
        refine this.mono ?_
        rintro e w' ⟨v, rfl, hv, hb⟩
        exact hn v w' hb hv.nil_rho
      · exact h.elim
  case h_12 T x lo hi hx =>
    split at h
    · rename_i ti ht
      split at h
      · rename_i e he
        split at h
        · rename_i te hte
          have ht := hE.ty _ _ ht
          have hte := hE.ty _ _ hte
          obtain ⟨hsz, h⟩ := chk_iff.1 h
          have hsz : szA σ.bl (σ.ev x) = some te.size := by
            split at hsz
            · rename_i z hz
              rw [hz]; simpa using hsz
            · cases hsz
          have hu := under_elem ht he
          unfold sliceA at h
          split at h
          · rename_i l' h' hl hh
            obtain ⟨h0, h1, h⟩ := h
            have mlo : ∀ y, lo = some y → y ∈ o.op.operands := fun y hy => by rw [hx]; simp [Op.operands, hy]
            have mhi : ∀ y, hi = some y → y ∈ o.op.operands := fun y hy => by rw [hx]; simp [Op.operands, hy]
            have mx : x ∈ o.op.operands := by rw [hx]; simp [Op.operands]
            have hex : ∀ a : Act, execOp a.eval o = (do let z ← Instr.sliceAt T (a.eval x) (lo.map a.eval) (hi.map a.eval) none; pure (.value z)) := by
              intro a; unfold execOp; rw [hx]; rfl
            have key : ∀ (D0 : Nat → Prop) (w0 : Base) (ρ : List Loc) (bl : List Blk) (a : Act) (w : World) (A : Option Addr) (n c : Nat), (∀ x ∈ o.op.operands, VRel (Dof D0 ρ bl) w ρ (σ.ev x) (a.eval x)) → a.eval x = .slice A n c → lenA σ.bl (σ.ev x) = some n → h'.toNat ≤ n → n ≤ c →
                (execOp a.eval o).run E.P w = .ok (.value (.slice (if c = l'.toNat then A else A.map (·.add (l'.toNat * te.size))) (h'.toNat - l'.toNat) (c - l'.toNat))) w := by
              intro D0 w0 ρ bl a w A n c hr hev hn hle hnc
              have b1 := slice_bounds (a := a) hl h0 (fun y hy => hr y (mlo y hy))
              have b2 := slice_boundh (a := a) (n0 := n) (fun z hz => by rw [hn] at hz; simp at hz; omega) hh (by omega) (fun y hy => hr y (mhi y hy))
              rw [hex, hev]
              have := run_slice (P := E.P) hu hte (A := A) (n := n) (c := c) b1 b2 (by omega) (by omega) w
              rw [Sem.run_bind, this]
              rfl
            split at h
            · rename_i sz n f hv
              obtain ⟨g1, g2⟩ := h
              have hte' : sz = te.size := by rw [hv] at hsz; simpa [szA] using hsz
              refine ⟨_, g2, fun D0 w0 => steps1_value fun ρ bl a w hs hag hr => ?_⟩
              have hr' := hr x mx
              rw [hv] at hr'
              obtain ⟨A, c, e1, e2, e4⟩ := hr'
              refine ⟨_, key D0 w0 ρ bl a w A n c hr e1 (by rw [hv]; rfl) (by omega) e2, ⟨_, _, by rw [show (h' - l').toNat = h'.toNat - l'.toNat by omega], by omega, fun hn => ?_⟩⟩
              obtain ⟨b, o', hA, e5, e6, e7⟩ := e4 (by omega)
              refine ⟨b, o' + l'.toNat * te.size, slice_val (n := n) (h := h'.toNat) (fun _ => hA) (by omega) (by omega) e2 (by omega), e5, e6, fun i j hi hj => ?_⟩
              obtain ⟨y, hy, hyr⟩ := e7 (l'.toNat + i) j (by omega) hj
              exact ⟨y, by rw [← hy, hte', Nat.add_mul]; congr 2; omega, hyr⟩
            · rename_i k u hv
              split at h
              · rename_i B hB
                obtain ⟨g0, h⟩ := chk_iff.1 h
                simp only [Bool.and_eq_true, beq_iff_eq, Nat.ble_eq] at g0
                obtain ⟨g1, g2⟩ := g0
                obtain ⟨g3, g4⟩ := h
                have hte' : B.sz = te.size := by rw [hv] at hsz; simpa [szA, hB] using hsz
                refine ⟨_, g4, fun D0 w0 => steps1_value fun ρ bl a w hs hag hr => ?_⟩
                have hln0 : lenA σ.bl (σ.ev x) = some B.n := by rw [hv]; simp [lenA, hB, g1, g2]
                have hB := hag (by rw [hx]; rfl) x mx k u (by rw [hv]; exact ⟨rfl, rfl⟩) B hB (by omega) (by omega)
                have hr' := hr x mx
                rw [hv] at hr'
                have hln : lenA bl (σ.ev x) = some B.n := by rw [hv]; simp [lenA, hB, g1, g2]
                obtain ⟨A, c, e1, e2⟩ := len_rel hs (hv ▸ hln) hr'
                obtain ⟨l, hlk, hlu, hp⟩ := hr'
                have hln2 := loc_n hs hlk hB g2
                obtain ⟨q0, q1⟩ := hs.at_ k l B hlk hB g2
                refine ⟨_, key D0 w0 ρ bl a w A B.n c hr e1 hln0 (by omega) e2, ⟨l, hlk, hlu, fun _ => ⟨by omega, _, _, by rw [show (h' - l').toNat = h'.toNat - l'.toNat by omega], by omega, fun hn => ?_⟩⟩⟩
                have hp' := hp (by omega)
                rcases q1 with ⟨q1, _, _⟩ | ⟨b, cap, cs, q1, q2, q3, _⟩
                · omega
                · rw [q3, e1] at hp'
                  injection hp' with z1 z2 z3
                  refine ⟨b, q1, ?_⟩
                  have := slice_val (n := B.n) (h := h'.toNat) (c := c) (sz := te.size) (l := l'.toNat) (fun _ => z1) (by omega) (by omega) e2 (by omega)
                  rw [Nat.zero_add] at this
                  rw [hte']; exact this
              · exact h.elim
            · rename_i k u sz o' n hv
              split at h
              · rename_i B hB
                obtain ⟨g0, h⟩ := chk_iff.1 h
                simp only [Bool.and_eq_true, beq_iff_eq, Nat.ble_eq] at g0
                obtain ⟨g1, g2⟩ := g0
                obtain ⟨g3, g4⟩ := h
                have hte' : sz = te.size := by rw [hv] at hsz; simpa [szA] using hsz
                refine ⟨_, g4, fun D0 w0 => steps1_value fun ρ bl a w hs hag hr => ?_⟩
                have hln0 : lenA σ.bl (σ.ev x) = some n := by rw [hv]; simp [lenA, hB, g1, g2]
                have hB := hag (by rw [hx]; rfl) x mx k u (by rw [hv]; exact ⟨rfl, rfl⟩) B hB (by omega) (by omega)
                have hr' := hr x mx
                rw [hv] at hr'
                obtain ⟨l, hlk, hlu, hp⟩ := hr'
                have hlu' := loc_u hs hlk hB g2
                obtain ⟨hon, A, c, e1, e2, e4⟩ := hp (by omega)
                refine ⟨_, key D0 w0 ρ bl a w A n c hr e1 hln0 (by omega) e2, ⟨l, hlk, hlu, fun _ => ⟨by omega, _, _, by rw [show (h' - l').toNat = h'.toNat - l'.toNat by omega], by omega, fun hn => ?_⟩⟩⟩
                obtain ⟨b, q1, q2⟩ := e4 (by omega)
                refine ⟨b, q1, ?_⟩
                have := slice_val (n := n) (h := h'.toNat) (c := c) (sz := te.size) (l := l'.toNat) (fun _ => q2) (by omega) (by omega) e2 (by omega)
                rw [this, hte', Nat.add_mul]
              · exact h.elim
            · exact h.elim
          · exact h.elim
        · exact h.elim
      · exact h.elim
    · exact h.elim
  case h_17 T s ix hx =>
    split at h
    · rename_i ti kk n ht h1
      have ht := hE.ty _ _ ht
      obtain ⟨hk, h0, h⟩ := chk_iff.1 h
      have hu := under_kd2 ht (by simpa using hk)
      split at h
      · rename_i b hb
        refine ⟨_, h, fun D0 w0 => steps1_value fun ρ bl a w hs hag hr => ?_⟩
        have e1 := hr ix (by rw [hx]; simp [Op.operands])
        rw [h1] at e1
        have e1 : a.eval ix = .int kk n := e1
        have ec : a.eval (.const (.string s)) = .string s := rfl
        exact ⟨.int .u8 (b.toNat : Int), by simp [execOp, hx, e1, ec, Instr.index, asIntOf, run_underlying hu, h0, hb], rfl⟩
      · exact h.elim
    · exact h.elim
  case h_18 f first captured hx =>
    obtain ⟨hk, h⟩ := chk_iff.1 h
    refine ⟨_, h, fun D0 w0 => steps1_value fun ρ bl a w hs hag hr => ?_⟩
    have hf : first = #[] := by simpa using hk
    refine ⟨.func (.func f) #[] (captured.map a.eval), by simp [execOp, hx, Instr.makeFunc, hf], captured.map a.eval, rfl, by simp, fun j hj => ?_⟩
    refine ⟨a.eval captured[j], by simp [hj], ?_⟩
    have hc : captured.toList[j]? = some captured[j] := by simp [hj]
    unfold capC
    rw [hc]
    simp only
    have := hr captured[j] (by rw [hx]; simp [Op.operands, hf])
    split
    · rename_i c hcv
      rw [hcv] at this
      exact this
    · trivial
  case h_19 T x fld hx =>
    split at h
    · rename_i ti ht
      have ht := hE.ty _ _ ht
      split at h
      · rename_i off fsz l ho hv
        split at h
        · rename_i c hc
          obtain ⟨hk, h⟩ := chk_iff.1 h
          obtain ⟨fs, f, hu, hf, hof, hp⟩ := under_kd3 ht (by simpa using hk) ho
          refine ⟨_, h, fun D0 w0 => steps1_value fun ρ bl a w hs hag hr => ?_⟩
          have e1 := hr x (by rw [hx]; simp [Op.operands])
          rw [hv] at e1
          obtain ⟨vs, e2, e3⟩ := e1
          obtain ⟨y, hy, hyr⟩ := CRels.get e3 _ _ hc
          have hy' : vs[off]? = some y := by simpa using hy
          exact ⟨y, by simp [execOp, hx, e2, Instr.field, asAgg, part, run_underlying hu, hf, run_plain hp, hof, hy'], hyr⟩
        · exact h.elim
      · exact h.elim
    · exact h.elim
  case h_20 x hx =>
    split at h
    · rename_i k u sz i o' hv
      split at h
      · rename_i B hB
        obtain ⟨g0, g3⟩ := chk_iff.1 h
        simp only [Bool.and_eq_true, beq_iff_eq, Nat.ble_eq] at g0
        obtain ⟨g1, g2⟩ := g0
        refine ⟨_, g3, fun D0 w0 => steps1_value fun ρ bl a w hs hag hr => ?_⟩
        have hB := hag (by rw [hx]; rfl) x (by rw [hx]; simp [Op.operands]) k u (by rw [hv]; exact ⟨rfl, rfl⟩) B hB (by omega) (by omega)
        have hr' := hr x (by rw [hx]; simp [Op.operands])
        rw [hv] at hr'
        obtain ⟨l, hl, hu, hp⟩ := hr'
        have hlu := loc_u hs hl hB g2
        obtain ⟨hil, b, e1, e2⟩ := hp (by omega)
        exact ⟨.pointer (some ⟨b, i * sz + o', none⟩), by simp [execOp, hx, e2], ⟨l, hl, hu, fun _ => ⟨hil, b, e1, rfl⟩⟩⟩
      · exact h.elim
    · rename_i m f hv
      refine ⟨_, h, fun D0 w0 => steps1_value fun ρ bl a w hs hag hr => ?_⟩
      have hr' := hr x (by rw [hx]; simp [Op.operands])
      rw [hv] at hr'
      obtain ⟨b, o', e1, e2, e3, e4⟩ := hr'
      exact ⟨.pointer (some ⟨b, o', none⟩), by simp [execOp, hx, e1], ⟨b, o', rfl, e2, e3, e4⟩⟩
    · exact h.elim
  case h_21 => exact h.elim
end Go.Proofs.YtlhdliafjconmaaGreat
/- Abstract operations that make or write blocks of the call's own; operations in the order of the text. -/
namespace Go.Proofs.YtlhdliafjconmaaGreat
open Go.RowKit
def Rel (C : Ctx) (σ : St) (a : Act) (w : World) : Prop :=
  ∃ ρ, Sat C.D0 C.w0 C.r ρ σ.bl w ∧ (C.N ≤ a.tmps.size ∧ LocsLe C.ρ0 ρ) ∧ a.defers = [] ∧ ∀ t, VRel (Dof C.D0 ρ σ.bl) w ρ (σ.tm t) (a.tmps.getD t undef)
def upd (f : Nat → V) (d : Nat) (v : V) (t : Nat) : V := if t = d then v else f t
def St.put (σ : St) (dst : Option Nat) (v : V) : St :=
  match dst with
  | some d => { σ with tm := upd σ.tm d v }
  | none => σ
@[simp] theorem St.put_bl (σ : St) (dst : Option Nat) (v : V) : (σ.put dst v).bl = σ.bl := by cases dst <;> rfl
def dstOK (N : Nat) (dst : Option Nat) : Prop := ∀ d : Nat, dst = some d → d < N
theorem frame_put {D : Nat → Prop} {w : World} {ρ : List Loc} {σ : St} {a : Act} {N : Nat} {dst : Option Nat} {v : V} {x : Value} (hN : N ≤ a.tmps.size) (hd : dstOK N dst) (h : ∀ t, VRel D w ρ (σ.tm t) (a.tmps.getD t undef)) (hv : VRel D w ρ v x) :
    N ≤ (a.put dst x).tmps.size ∧ (a.put dst x).defers = a.defers ∧ ∀ t, VRel D w ρ ((σ.put dst v).tm t) ((a.put dst x).tmps.getD t undef) := by
  cases dst with
  | none => exact ⟨hN, rfl, h⟩
  | some d =>
    have hlt : d < N := hd d rfl
    refine ⟨by simpa [Act.put] using hN, rfl, fun t => ?_⟩
    simp only [St.put, Act.put, upd]
    by_cases e : t = d
    · subst e
      rw [if_pos rfl]
      have h2 : t < a.tmps.size := by omega
      rw [show (a.tmps.setIfInBounds t x).getD t undef = x by simp [Array.getD, h2]]
      exact hv
    · rw [if_neg e]
      rw [show (a.tmps.setIfInBounds d x).getD t undef = a.tmps.getD t undef by
        simp [Array.getD_eq_getD_getElem?, Array.getElem?_setIfInBounds_ne (fun h => e h.symm)]]
      exact h t
theorem Rel.put {C : Ctx} {σ : St} {a : Act} {w : World} {ρ : List Loc} (hs : Sat C.D0 C.w0 C.r ρ σ.bl w) (hN : C.N ≤ a.tmps.size ∧ LocsLe C.ρ0 ρ) (hdf : a.defers = []) (h : ∀ t, VRel (Dof C.D0 ρ σ.bl) w ρ (σ.tm t) (a.tmps.getD t undef)) {dst : Option Nat} (hd : dstOK C.N dst) {v : V} {x : Value} (hv : VRel (Dof C.D0 ρ σ.bl) w ρ v x) : Rel C (σ.put dst v) (a.put dst x) w := by
  obtain ⟨h1, h2, h3⟩ := frame_put hN.1 hd h hv
  exact ⟨ρ, by rw [St.put_bl]; exact hs, ⟨h1, hN.2⟩, h2.trans hdf, by rw [St.put_bl]; exact h3⟩
/-- The frame in a later world, with other blocks. -/
theorem frame_step {D D' : Nat → Prop} {w w' : World} {ρ ρ' : List Loc} (he : Ext D w w') (hd : ∀ b, b < w.heap.size → D' b → D b) (hρ : LocsLe ρ ρ') {tm : Nat → V} {a : Act} (h : ∀ t, VRel D w ρ (tm t) (a.tmps.getD t undef)) : ∀ t, VRel D' w' ρ' (tm t) (a.tmps.getD t undef) :=
  fun t => (h t).step he hd hρ
def cellsV (bl : List Blk) (r : Bool) : V → Option (List Cell)
  | .c x => if St.one bl x && (!r || x.noU) then some [x] else none
  | .g l => if l.all (St.one bl) && (!r || l.all Cell.noU) then some l else none
  | _ => none
theorem noU_rel {D : Nat → Prop} {D0 : Nat → Prop} {w0 : Base} {w : World} {r : Bool} {ρ : List Loc} {bl : List Blk} (h : Sat D0 w0 r ρ bl w) {c : Cell} {v : Value} (h1 : St.one bl c = true) (hn : c.noU = true) (hc : CRel D w ρ c v) (d : Int) : v ≠ .int .u32 d := by
  cases c with
  | any => simp [St.one] at h1
  | bool b => cases hc; simp
  | int k n => cases hc; intro e; injection e with e1 e2; subst e1; simp [Cell.noU] at hn
  | nil => cases hc; simp
  | fn F => cases hc; simp
  | str s => cases hc; simp
  | cl F m f => obtain ⟨caps, rfl, _⟩ := hc; simp
  | row sz n f => obtain ⟨A, c, rfl, _⟩ := hc; simp
  | xp m f => obtain ⟨b, o, rfl, _⟩ := hc; simp
  | p k u sz i o =>
    obtain ⟨l, hl, hu, hv⟩ := hc
    simp only [St.one] at h1
    split at h1
    · rename_i B hB
      simp at h1
      obtain ⟨g0, _⟩ := h.at_ k l B hl hB h1.2
      obtain ⟨_, b, _, rfl⟩ := hv (by omega)
      simp
    · cases h1
  | gs k u =>
    obtain ⟨l, hl, hu, hv⟩ := hc
    simp only [St.one] at h1
    split at h1
    · rename_i B hB
      simp at h1
      obtain ⟨g0, _⟩ := h.at_ k l B hl hB h1.2
      rw [hv (by omega)]
      simp [Loc.v]
    · cases h1
  | sl k u sz o n =>
    obtain ⟨l, hl, hu, hv⟩ := hc
    simp only [St.one] at h1
    split at h1
    · rename_i B hB
      simp at h1
      obtain ⟨g0, _⟩ := h.at_ k l B hl hB h1.2
      obtain ⟨_, A, c, rfl, _⟩ := hv (by omega)
      simp
    · cases h1
theorem cellsV_rel {D0 : Nat → Prop} {w0 : Base} {w : World} {r : Bool} {ρ : List Loc} {bl : List Blk} (h : Sat D0 w0 r ρ bl w) {D : Nat → Prop} {x : V} {v : Value} {l : List Cell} (h1 : cellsV bl r x = some l) (hx : VRel D w ρ x v) :
    CRels D w ρ l v.cells.toList ∧ (∀ u ∈ v.cells.toList, u.oneCell' = true) ∧ (r = true → ∀ (i : Nat) (d : Int), v.cells[i]? ≠ some (.int .u32 d)) := by
  have hall : ∀ (l : List Cell) (vs : List Value), l.all (St.one bl) = true → CRels D w ρ l vs → ∀ u ∈ vs, u.oneCell' = true := by
    intro l
    induction l with
    | nil => intro vs _ hc u hu; cases vs with | nil => simp at hu | cons _ _ => exact hc.elim
    | cons c l ih =>
      intro vs ha hc u hu
      cases vs with
      | nil => exact hc.elim
      | cons v vs =>
        simp only [List.all_cons, Bool.and_eq_true] at ha
        rcases List.mem_cons.1 hu with e | e
        · subst e; exact (one_rel h ha.1 hc.1).1
        · exact ih vs ha.2 hc.2 u e
  have hU : ∀ (l : List Cell) (vs : List Value), l.all (St.one bl) = true → l.all Cell.noU = true → CRels D w ρ l vs → ∀ (i : Nat) (d : Int), vs[i]? ≠ some (.int .u32 d) := by
    intro l
    induction l with
    | nil => intro vs _ _ hc i d; cases vs with | nil => simp | cons _ _ => exact hc.elim
    | cons c l ih =>
      intro vs ha hb hc i d
      cases vs with
      | nil => exact hc.elim
      | cons v vs =>
        simp only [List.all_cons, Bool.and_eq_true] at ha hb
        cases i with
        | zero => intro e; simp at e; exact noU_rel h ha.1 hb.1 hc.1 d e
        | succ i => simpa using ih vs ha.2 hb.2 hc.2 i d
  cases x with
  | c x =>
    simp only [cellsV] at h1
    split at h1
    · rename_i hc
      simp only [Bool.and_eq_true, Bool.or_eq_true, Bool.not_eq_true'] at hc
      have hc : St.one bl x = true ∧ (r = true → x.noU = true) := ⟨hc.1, fun hr => hc.2.resolve_left (by rw [hr]; simp)⟩
      cases h1
      have h2 := (one_rel h hc.1 hx).2
      rw [h2]
      refine ⟨⟨hx, trivial⟩, fun u hu => ?_, fun hr i d => ?_⟩
      · simp at hu; subst hu; exact (one_rel h hc.1 hx).1
      · intro e
        cases i with
        | zero => simp at e; exact noU_rel h hc.1 (hc.2 hr) hx d e
        | succ i => simp at e
    · cases h1
  | g l' =>
    simp only [cellsV] at h1
    split at h1
    · rename_i hc
      simp only [Bool.and_eq_true, Bool.or_eq_true, Bool.not_eq_true'] at hc
      have hc : l'.all (St.one bl) = true ∧ (r = true → l'.all Cell.noU = true) := ⟨hc.1, fun hr => hc.2.resolve_left (by rw [hr]; simp)⟩
      cases h1
      obtain ⟨vs, rfl, e2⟩ := hx
      refine ⟨e2, hall _ _ hc.1 e2, fun hr i d => ?_⟩
      have := hU _ _ hc.1 (hc.2 hr) e2 i d
      simpa [Value.cells] using this
    · cases h1
  | t2 a b => simp [cellsV] at h1
  | t3 a b d => simp [cellsV] at h1
  | t4 a b d e => simp [cellsV] at h1
  | un => simp [cellsV] at h1
def St.push (σ : St) (B : Blk) : St := { σ with bl := σ.bl ++ [B] }
def boxF (l : List Cell) (_ j : Nat) : Cell := l.getD j .any
def rowF (sz : Nat) (l : List Cell) (i j : Nat) : Cell := l.getD (i * sz + j) .any
/-- A new block in the state. -/
theorem Rel.push {C : Ctx} {σ : St} {a : Act} {w : World} (h : Rel C σ a w) {cs : Array Value} {t sz n cap : Nat} {f : Nat → Nat → Cell} (hs : cs.size = cap * sz) (hn : n ≤ cap) (hc : cap ≤ maxLen)
    (hf : ∀ ρ, Sat C.D0 C.w0 C.r ρ σ.bl w → (∀ t, VRel (Dof C.D0 ρ σ.bl) w ρ (σ.tm t) (a.tmps.getD t undef)) → ∀ i j, i < n → j < sz → ∃ u, cs[i * sz + j]? = some u ∧ CRel (Dof C.D0 ρ σ.bl) w ρ (f i j) u) (hU : C.r = true → ∀ (i : Nat) (d : Int), cs[i]? ≠ some (.int .u32 d))
    {dst : Option Nat} (hd : dstOK C.N dst) (x : Cell) (v : Value) (hx : ∀ ρ, ρ.length = σ.bl.length → CRel (fun _ => False) w (ρ ++ [⟨0, some w.heap.size, n, cap⟩]) x v) (hcl : ∀ sz n f, x ≠ .row sz n f) (hcl2 : ∀ m f, x ≠ .xp m f) (hcl3 : ∀ F m f, x ≠ .cl F m f := by simp) :
    Rel C ((σ.push ⟨t, sz, n, 0, 0, f⟩).put dst (.c x)) (a.put dst v) (w.alloc (.cells cs t)) := by
  obtain ⟨ρ, hsat, hN, hdf, hfr⟩ := h
  obtain ⟨s1, s2⟩ := hsat.alloc hs hn hc (hf ρ hsat hfr) hU (t := t)
  have hE : Ext (Dof C.D0 ρ σ.bl) w (w.alloc (.cells cs t)) := ⟨by simp, fun b hb _ => Below.heap_alloc w _ b hb⟩
  refine Rel.put (σ := σ.push ⟨t, sz, n, 0, 0, f⟩) s1 ⟨hN.1, hN.2.trans (LocsLe.append _ _)⟩ hdf (frame_step hE s2 (LocsLe.append _ _) hfr) hd ?_
  have := hx ρ hsat.len
  show CRel _ _ _ x v
  cases x with
  | row sz n f => exact absurd rfl (hcl _ _ _)
  | xp m f => exact absurd rfl (hcl2 _ _)
  | cl F m f => exact absurd rfl (hcl3 _ _ _)
  | _ => exact this
end Go.Proofs.YtlhdliafjconmaaGreat
/- Calls that are handed one block to write, and calls that hand back blocks of their own. -/
namespace Go.Proofs.YtlhdliafjconmaaGreat
open Go.RowKit
/-- A block that has no place in memory yet. -/
def phB : Blk := ⟨0, 0, 0, 0, 2, fun _ _ => .any⟩
def phL : Loc := ⟨0, none, 0, 0⟩
theorem Sat.ph {D0 : Nat → Prop} {w0 : Base} {w : World} {r : Bool} {ρ : List Loc} {bl : List Blk} (h : Sat D0 w0 r ρ bl w) : Sat D0 w0 r (ρ ++ [phL]) (bl ++ [phB]) w ∧ (∀ b, Dof D0 (ρ ++ [phL]) (bl ++ [phB]) b ↔ Dof D0 ρ bl b) := by
  have get : ∀ (k : Nat) (l : Loc) (B : Blk), (ρ ++ [phL])[k]? = some l → (bl ++ [phB])[k]? = some B → (ρ[k]? = some l ∧ bl[k]? = some B) ∨ (l = phL ∧ B = phB) := by
    intro k l B h1 h2
    rcases Nat.lt_or_ge k ρ.length with hk | hk
    · rw [List.getElem?_append_left hk] at h1
      rw [List.getElem?_append_left (by rw [← h.len]; exact hk)] at h2
      exact .inl ⟨h1, h2⟩
    · rw [List.getElem?_append_right hk] at h1
      rw [List.getElem?_append_right (by rw [← h.len]; exact hk), ← h.len] at h2
      rcases Nat.eq_zero_or_pos (k - ρ.length) with e | e
      · rw [e] at h1 h2; simp at h1 h2; exact .inr ⟨h1.symm, h2.symm⟩
      · rw [List.getElem?_eq_none (by simp; omega)] at h1; cases h1
  have up : ∀ (k : Nat) (l : Loc) (B : Blk), ρ[k]? = some l → bl[k]? = some B → (ρ ++ [phL])[k]? = some l ∧ (bl ++ [phB])[k]? = some B := by
    intro k l B h1 h2
    exact ⟨by rw [List.getElem?_append_left (List.getElem?_eq_some_iff.1 h1).1]; exact h1, by rw [List.getElem?_append_left (List.getElem?_eq_some_iff.1 h2).1]; exact h2⟩
  have hD : ∀ b, Dof D0 (ρ ++ [phL]) (bl ++ [phB]) b ↔ Dof D0 ρ bl b := by
    intro b
    constructor
    · rintro (hx | ⟨k, l, B, h1, h2, h3, h4⟩)
      · exact .inl hx
      · rcases get k l B h1 h2 with ⟨g1, g2⟩ | ⟨rfl, rfl⟩
        · exact .inr ⟨k, l, B, g1, g2, h3, h4⟩
        · cases h3
    · rintro (hx | ⟨k, l, B, h1, h2, h3, h4⟩)
      · exact .inl hx
      · exact .inr ⟨k, l, B, (up k l B h1 h2).1, (up k l B h1 h2).2, h3, h4⟩
  refine ⟨⟨h.below, h.d0, by simp [h.len], fun k l B h1 h2 => ?_, fun i j li lj Bi Bj b h1 h2 h3 h4 h5 h6 h7 h8 => ?_, fun hr b o d hb => h.noU hr b o d ((hD b).1 hb)⟩, hD⟩
  · rcases get k l B h1 h2 with ⟨g1, g2⟩ | ⟨rfl, rfl⟩
    · exact (h.at_ k l B g1 g2).step (Ext.refl _ _) (fun b _ hb => (hD b).1 hb) (LocsLe.append _ _) (fun _ _ => rfl)
    · intro hst; simp [phB] at hst
  · rcases get i li Bi h1 h3 with ⟨g1, g2⟩ | ⟨rfl, rfl⟩
    · rcases get j lj Bj h2 h4 with ⟨g3, g4⟩ | ⟨rfl, rfl⟩
      · exact h.dist i j li lj Bi Bj b g1 g3 g2 g4 h5 h6 h7 h8
      · cases h8
    · cases h7
/-- The contract of a function that may write the block B, its first, and hands back blocks of its own. -/
def FnM (P : Program) (r : Bool) (f : FuncId) (B : Blk) (args : List V) (X : V) (B' : Blk) (fresh : List Blk) : Prop :=
  hasBody P f = true ∧ ∀ (D : Nat → Prop) (w0 : Base) (l : Loc) (w : World) (vs : List Value), Sat D w0 r [l] [B] w → VRels (Dof D [l] [B]) w [l] args vs →
    Calls P f vs.toArray w fun e w' => ∃ v l' ρ', e = .returned v ∧ Sat D w0 r (l' :: ρ') (B' :: fresh) w' ∧ LocsLe [l] [l'] ∧ VRel (Dof D (l' :: ρ') (B' :: fresh)) w' (l' :: ρ') X v
/-- The contract of a function that is handed all blocks of the caller's. -/
def FnS (P : Program) (r : Bool) (f : FuncId) (bl : List Blk) (args : List V) (X : V) (bl' : List Blk) : Prop :=
  hasBody P f = true ∧ ∀ (D0 : Nat → Prop) (w0 : Base) (ρ : List Loc) (w : World) (vs : List Value), Sat D0 w0 r ρ bl w → VRels (Dof D0 ρ bl) w ρ args vs →
    Calls P f vs.toArray w fun e w' => ∃ v ρ', e = .returned v ∧ Sat D0 w0 r ρ' bl' w' ∧ LocsLe ρ ρ' ∧ VRel (Dof D0 ρ' bl') w' ρ' X v
def ren (k n i : Nat) : Nat := match i with
  | 0 => k
  | i + 1 => n + i
def renC (k n : Nat) : Cell → Cell
  | .p i u sz a o => .p (ren k n i) u sz a o
  | .gs i u => .gs (ren k n i) u
  | .sl i u sz o m => .sl (ren k n i) u sz o m
  | .cl F m f => if (Cell.cl F m f).clos then .cl F m f else .any
  | c => c
def renV (k n : Nat) : V → V
  | .c x => .c (renC k n x)
  | .g l => .g (l.map (renC k n))
  | .t2 a b => .t2 (renV k n a) (renV k n b)
  | .t3 a b d => .t3 (renV k n a) (renV k n b) (renV k n d)
  | .t4 a b d e => .t4 (renV k n a) (renV k n b) (renV k n d) (renV k n e)
  | .un => .un
/-- Contents that name no block. -/
def Blk.plain (B : Blk) : Prop := B.st ≤ 1 → ∀ i j, i < B.n → j < B.sz → (B.f i j).clos = true
theorem ren_get {ρ ρf : List Loc} {k i : Nat} {l' l : Loc} (hk : k < ρ.length) (h : (l' :: ρf)[i]? = some l) : (ρ.set k l' ++ ρf)[ren k ρ.length i]? = some l := by
  cases i with
  | zero =>
    simp at h; subst h
    simp only [ren]
    rw [List.getElem?_append_left (by simpa using hk), List.getElem?_set_self hk]
  | succ i =>
    simp only [ren]
    rw [List.getElem?_append_right (by simp)]
    simpa using h
theorem CRel.ren {D : Nat → Prop} {w : World} {ρ ρf : List Loc} {k : Nat} {l' : Loc} (hk : k < ρ.length) {c : Cell} {v : Value} (h : CRel D w (l' :: ρf) c v) : CRel D w (ρ.set k l' ++ ρf) (renC k ρ.length c) v := by
  cases c with
  | p | gs | sl => obtain ⟨l, h1, h2⟩ := h; exact ⟨l, ren_get hk h1, h2⟩
  | cl F m f =>
    simp only [renC]
    split
    · rename_i hc; exact CRel.clos h hc
    · trivial
  | _ => exact h
theorem CRels.ren {D : Nat → Prop} {w : World} {ρ ρf : List Loc} {k : Nat} {l' : Loc} (hk : k < ρ.length) : ∀ {l : List Cell} {vs : List Value}, CRels D w (l' :: ρf) l vs → CRels D w (ρ.set k l' ++ ρf) (l.map (renC k ρ.length)) vs
  | [], [], _ => trivial
  | _ :: _, _ :: _, h => ⟨CRel.ren hk h.1, CRels.ren hk h.2⟩
  | [], _ :: _, h => h.elim
  | _ :: _, [], h => h.elim
theorem VRel.ren {D : Nat → Prop} {w : World} {ρ ρf : List Loc} {k : Nat} {l' : Loc} (hk : k < ρ.length) : ∀ {x : V} {v : Value}, VRel D w (l' :: ρf) x v → VRel D w (ρ.set k l' ++ ρf) (renV k ρ.length x) v
  | .c _, _, h => CRel.ren hk h
  | .g _, _, h => by obtain ⟨vs, h1, h2⟩ := h; exact ⟨vs, h1, CRels.ren hk h2⟩
  | .t2 _ _, _, h => by obtain ⟨x, y, h1, h2, h3⟩ := h; exact ⟨x, y, h1, VRel.ren hk h2, VRel.ren hk h3⟩
  | .t3 _ _ _, _, h => by obtain ⟨x, y, z, h1, h2, h3, h4⟩ := h; exact ⟨x, y, z, h1, VRel.ren hk h2, VRel.ren hk h3, VRel.ren hk h4⟩
  | .t4 _ _ _ _, _, h => by obtain ⟨x, y, z, u, h1, h2, h3, h4, h5⟩ := h; exact ⟨x, y, z, u, h1, VRel.ren hk h2, VRel.ren hk h3, VRel.ren hk h4, VRel.ren hk h5⟩
  | .un, _, h => h
theorem CRel.ren0 {D : Nat → Prop} {w : World} {ρ : List Loc} {k n : Nat} {l' : Loc} (hk : k < ρ.length) {c : Cell} {v : Value} (h : CRel D w [l'] c v) : CRel D w (ρ.set k l') (renC k n c) v := by
  have key : ∀ {i : Nat} {l : Loc}, [l'][i]? = some l → (ρ.set k l')[Go.Proofs.YtlhdliafjconmaaGreat.ren k n i]? = some l := by
    intro i l h
    cases i with
    | zero => simp at h; subst h; simp only [Go.Proofs.YtlhdliafjconmaaGreat.ren]; exact List.getElem?_set_self hk
    | succ i => simp at h
  cases c with
  | p | gs | sl => obtain ⟨l, h1, h2⟩ := h; exact ⟨l, key h1, h2⟩
  | cl F m f =>
    simp only [renC]
    split
    · rename_i hc; exact CRel.clos h hc
    · trivial
  | _ => exact h
theorem CRels.ren0 {D : Nat → Prop} {w : World} {ρ : List Loc} {k n : Nat} {l' : Loc} (hk : k < ρ.length) : ∀ {l : List Cell} {vs : List Value}, CRels D w [l'] l vs → CRels D w (ρ.set k l') (l.map (renC k n)) vs
  | [], [], _ => trivial
  | _ :: _, _ :: _, h => ⟨CRel.ren0 hk h.1, CRels.ren0 hk h.2⟩
  | [], _ :: _, h => h.elim
  | _ :: _, [], h => h.elim
theorem VRel.ren0 {D : Nat → Prop} {w : World} {ρ : List Loc} {k n : Nat} {l' : Loc} (hk : k < ρ.length) : ∀ {x : V} {v : Value}, VRel D w [l'] x v → VRel D w (ρ.set k l') (renV k n x) v
  | .c _, _, h => CRel.ren0 hk h
  | .g _, _, h => by obtain ⟨vs, h1, h2⟩ := h; exact ⟨vs, h1, CRels.ren0 hk h2⟩
  | .t2 _ _, _, h => by obtain ⟨x, y, h1, h2, h3⟩ := h; exact ⟨x, y, h1, VRel.ren0 hk h2, VRel.ren0 hk h3⟩
  | .t3 _ _ _, _, h => by obtain ⟨x, y, z, h1, h2, h3, h4⟩ := h; exact ⟨x, y, z, h1, VRel.ren0 hk h2, VRel.ren0 hk h3, VRel.ren0 hk h4⟩
  | .t4 _ _ _ _, _, h => by obtain ⟨x, y, z, u, h1, h2, h3, h4, h5⟩ := h; exact ⟨x, y, z, u, h1, VRel.ren0 hk h2, VRel.ren0 hk h3, VRel.ren0 hk h4, VRel.ren0 hk h5⟩
  | .un, _, h => h
/-- Only the first block is named. -/
def Cell.fst : Cell → Bool
  | .p i .. | .gs i _ | .sl i .. => i == 0
  | .cl F m f => (Cell.cl F m f).clos
  | _ => true
def V.fst : V → Bool
  | .c x => x.fst
  | .g l => l.all Cell.fst
  | _ => false
theorem CRel.unren {D : Nat → Prop} {w : World} {ρ : List Loc} {k n : Nat} {l : Loc} (hk : ρ[k]? = some l) {c : Cell} {v : Value} (hc : c.fst = true) (h : CRel D w ρ (renC k n c) v) : CRel D w [l] c v := by
  cases c with
  | p i u sz a o => simp only [Cell.fst, beq_iff_eq] at hc; subst hc; obtain ⟨l1, h1, h2⟩ := h; rw [show Go.Proofs.YtlhdliafjconmaaGreat.ren k n 0 = k from rfl, hk] at h1; cases h1; exact ⟨l, rfl, h2⟩
  | gs i u => simp only [Cell.fst, beq_iff_eq] at hc; subst hc; obtain ⟨l1, h1, h2⟩ := h; rw [show Go.Proofs.YtlhdliafjconmaaGreat.ren k n 0 = k from rfl, hk] at h1; cases h1; exact ⟨l, rfl, h2⟩
  | sl i u sz o m => simp only [Cell.fst, beq_iff_eq] at hc; subst hc; obtain ⟨l1, h1, h2⟩ := h; rw [show Go.Proofs.YtlhdliafjconmaaGreat.ren k n 0 = k from rfl, hk] at h1; cases h1; exact ⟨l, rfl, h2⟩
  | cl F m f =>
    have hc : (Cell.cl F m f).clos = true := hc
    simp only [renC, if_pos hc] at h
    exact CRel.clos h hc
  | _ => exact h
theorem CRels.unren {D : Nat → Prop} {w : World} {ρ : List Loc} {k n : Nat} {l : Loc} (hk : ρ[k]? = some l) : ∀ {cs : List Cell} {vs : List Value}, cs.all Cell.fst = true → CRels D w ρ (cs.map (renC k n)) vs → CRels D w [l] cs vs
  | [], [], _, _ => trivial
  | _ :: _, _ :: _, hc, h => by
    simp only [List.all_cons, Bool.and_eq_true] at hc
    exact ⟨CRel.unren hk hc.1 h.1, CRels.unren hk hc.2 h.2⟩
  | [], _ :: _, _, h => h.elim
  | _ :: _, [], _, h => h.elim
theorem VRels.unren {D : Nat → Prop} {w : World} {ρ : List Loc} {k n : Nat} {l : Loc} (hk : ρ[k]? = some l) : ∀ {xs : List V} {vs : List Value}, xs.all V.fst = true → VRels D w ρ (xs.map (renV k n)) vs → VRels D w [l] xs vs
  | [], [], _, _ => trivial
  | x :: _, _ :: _, hc, h => by
    simp only [List.all_cons, Bool.and_eq_true] at hc
    refine ⟨?_, VRels.unren hk hc.2 h.2⟩
    cases x with
    | c y => exact CRel.unren hk hc.1 h.1
    | g l => obtain ⟨vs, h1, h2⟩ := h.1; exact ⟨vs, h1, CRels.unren hk hc.1 h2⟩
    | t2 a b => cases hc.1
    | t3 a b d => cases hc.1
    | t4 a b d e => cases hc.1
    | un => cases hc.1
  | [], _ :: _, _, h => h.elim
  | _ :: _, [], _, h => h.elim
theorem VRels.step {D D' : Nat → Prop} {w : World} {ρ : List Loc} (hd : ∀ b, b < w.heap.size → D' b → D b) : ∀ {xs : List V} {vs : List Value}, VRels D w ρ xs vs → VRels D' w ρ xs vs
  | [], [], _ => trivial
  | _ :: _, _ :: _, h => ⟨h.1.step (Ext.refl _ _) hd (LocsLe.refl _), VRels.step hd h.2⟩
  | [], _ :: _, h => h.elim
  | _ :: _, [], h => h.elim
section
variable {D0 : Nat → Prop} {w0 : Base} {w : World} {r : Bool} {ρ : List Loc} {bl : List Blk}
/-- What the callee may write. -/
def handed (l : Loc) (B : Blk) (b : Nat) : Prop := B.st = 0 ∧ l.b = some b
theorem handed_dof {k : Nat} {l : Loc} {B : Blk} (h1 : ρ[k]? = some l) (h2 : bl[k]? = some B) {b : Nat} (h : handed l B b) : Dof D0 ρ bl b := .inr ⟨k, l, B, h1, h2, h.1, h.2⟩
theorem Sat.hand (h : Sat D0 w0 r ρ bl w) {k : Nat} {l : Loc} {B : Blk} (h1 : ρ[k]? = some l) (h2 : bl[k]? = some B) (h3 : B.st = 0 ∨ 2 ≤ B.st) (hp : B.plain) :
    Sat (fun b => Dof D0 ρ bl b ∧ ¬ handed l B b) ⟨w, handed l B⟩ r [l] [B] w ∧ ∀ b, Dof (fun b => Dof D0 ρ bl b ∧ ¬ handed l B b) [l] [B] b → Dof D0 ρ bl b := by
  have one : ∀ {α : Type} {x y : α} {i : Nat}, [x][i]? = some y → i = 0 ∧ y = x := by
    intro α x y i h
    cases i with
    | zero => simp at h; exact ⟨rfl, h.symm⟩
    | succ i => simp at h
  have hD : ∀ b, Dof (fun b => Dof D0 ρ bl b ∧ ¬ handed l B b) [l] [B] b → Dof D0 ρ bl b := by
    rintro b (hx | ⟨i, l1, B1, e1, e2, e3, e4⟩)
    · exact hx.1
    · obtain ⟨_, rfl⟩ := one e1
      obtain ⟨_, rfl⟩ := one e2
      exact .inr ⟨k, _, _, h1, h2, e3, e4⟩
  refine ⟨⟨⟨rfl, rfl, rfl, Nat.le_refl _, fun _ _ _ => rfl⟩, fun b hb => ⟨h.lt hb.1, hb.2⟩, rfl, ?_, ?_, fun hr b o d hb => h.noU hr b o d (hD b hb)⟩, hD⟩
  · intro i l1 B1 e1 e2 hst
    obtain ⟨_, rfl⟩ := one e1
    obtain ⟨_, rfl⟩ := one e2
    obtain ⟨g0, g1⟩ := (h.at_ k _ _ h1 h2).step (Ext.refl _ _) (fun b _ hb => hD b hb) (LocsLe.refl _) (fun _ _ => rfl) hst
    refine ⟨g0, ?_⟩
    rcases g1 with g1 | ⟨b, cap, cs, g2, g3, g4, g5, g6, g7, g8, g9⟩
    · exact .inl g1
    · refine .inr ⟨b, cap, cs, g2, .inr ⟨by omega, g2⟩, g4, g5, g6, g7, g8, fun i j hi hj => ?_⟩
      obtain ⟨u, hu, hr⟩ := g9 i j hi hj
      exact ⟨u, hu, CRel.clos hr (hp hst i j hi hj)⟩
  · intro i j li lj Bi Bj b e1 e2
    have a1 := (one e1).1
    have a2 := (one e2).1
    intros; omega
theorem Sat.old (h : Sat D0 w0 r ρ bl w) {k : Nat} {l : Loc} {B : Blk} {b : Nat} (e1 : ρ[k]? = some l) (e2 : bl[k]? = some B) (e3 : B.st ≤ 1) (e4 : l.b = some b) : b < w.heap.size := by
  rcases (h.at_ k l B e1 e2 e3).2 with ⟨_, h5, _⟩ | ⟨b', cap', cs', h5, _, _, h6, _⟩
  · rw [h5] at e4; cases e4
  · rw [h5] at e4; cases e4; exact heap_lt h6
theorem Sat.back (h : Sat D0 w0 r ρ bl w) {k : Nat} {l l' : Loc} {B B' : Blk} {ρf : List Loc} {fresh : List Blk} {w' : World} (h1 : ρ[k]? = some l) (h2 : bl[k]? = some B) (hle : LocsLe [l] [l']) (hp' : B'.plain) (hpf : ∀ F ∈ fresh, F.plain)
    (hs : Sat (fun b => Dof D0 ρ bl b ∧ ¬ handed l B b) ⟨w, handed l B⟩ r (l' :: ρf) (B' :: fresh) w') :
    Sat D0 w0 r (ρ.set k l' ++ ρf) (bl.set k B' ++ fresh) w' ∧ Ext (Dof D0 ρ bl) w w' ∧ (∀ b, b < w.heap.size → Dof D0 (ρ.set k l' ++ ρf) (bl.set k B' ++ fresh) b → Dof D0 ρ bl b) ∧ LocsLe ρ (ρ.set k l' ++ ρf) ∧ ∀ b, Dof D0 (ρ.set k l' ++ ρf) (bl.set k B' ++ fresh) b → Dof (fun b => Dof D0 ρ bl b ∧ ¬ handed l B b) (l' :: ρf) (B' :: fresh) b := by
  have hk : k < ρ.length := (List.getElem?_eq_some_iff.1 h1).1
  have hkb : k < bl.length := (List.getElem?_eq_some_iff.1 h2).1
  have hlen := h.len
  have hlf : ρf.length = fresh.length := by have := hs.len; simpa using this
  have get : ∀ (j : Nat) (lj : Loc) (Bj : Blk), (ρ.set k l' ++ ρf)[j]? = some lj → (bl.set k B' ++ fresh)[j]? = some Bj → (j < ρ.length ∧ j ≠ k ∧ ρ[j]? = some lj ∧ bl[j]? = some Bj) ∨ ∃ i, j = ren k ρ.length i ∧ (l' :: ρf)[i]? = some lj ∧ (B' :: fresh)[i]? = some Bj := by
    intro j lj Bj e1 e2
    rcases Nat.lt_or_ge j ρ.length with hj | hj
    · rw [List.getElem?_append_left (by simpa using hj)] at e1
      rw [List.getElem?_append_left (by simp; omega)] at e2
      by_cases e : j = k
      · subst e
        rw [List.getElem?_set_self hk] at e1
        rw [List.getElem?_set_self hkb] at e2
        exact .inr ⟨0, rfl, by simpa using e1, by simpa using e2⟩
      · rw [List.getElem?_set_ne (fun h => e h.symm)] at e1 e2
        exact .inl ⟨hj, e, e1, e2⟩
    · rw [List.getElem?_append_right (by simpa using hj)] at e1
      rw [List.getElem?_append_right (by simp; omega)] at e2
      refine .inr ⟨j - ρ.length + 1, by simp only [ren]; omega, by simpa using e1, ?_⟩
      simp only [List.length_set] at e2
      rw [← hlen] at e2
      simpa using e2
  have notH : ∀ (j : Nat) (lj : Loc) (Bj : Blk) (b : Nat), j ≠ k → ρ[j]? = some lj → bl[j]? = some Bj → Bj.st ≤ 1 → lj.b = some b → ¬ handed l B b := by
    intro j lj Bj b hj e1 e2 e3 e4 hh
    exact hj (h.dist j k lj l Bj B b e1 h1 e2 h2 e3 (by have := hh.1; omega) e4 hh.2)
  have notD0 : ∀ b, D0 b → ¬ handed l B b := by
    intro b hb hh
    have e1 := h.d0 b hb
    rcases h.own h1 h2 (by have := hh.1; omega) hh.2 with e2 | e2
    · omega
    · exact e1.2 e2
  have hE : Ext (Dof D0 ρ bl) w w' := ⟨hs.below.size, fun b hb hd => hs.below.block b hb fun hh => hd (handed_dof h1 h2 hh)⟩
  have hD' : ∀ b, Dof D0 (ρ.set k l' ++ ρf) (bl.set k B' ++ fresh) b → Dof (fun b => Dof D0 ρ bl b ∧ ¬ handed l B b) (l' :: ρf) (B' :: fresh) b := by
    rintro b (hx | ⟨j, lj, Bj, e1, e2, e3, e4⟩)
    · exact .inl ⟨.inl hx, notD0 b hx⟩
    · rcases get j lj Bj e1 e2 with ⟨_, hjk, g1, g2⟩ | ⟨i, _, g1, g2⟩
      · exact .inl ⟨.inr ⟨j, lj, Bj, g1, g2, e3, e4⟩, notH j lj Bj b hjk g1 g2 (by omega) e4⟩
      · exact .inr ⟨i, lj, Bj, g1, g2, e3, e4⟩
  have hD : ∀ b, b < w.heap.size → Dof D0 (ρ.set k l' ++ ρf) (bl.set k B' ++ fresh) b → Dof D0 ρ bl b := by
    intro b hb hx
    rcases hD' b hx with h5 | ⟨i, li, Bi, e1, e2, e3, e4⟩
    · exact h5.1
    · rcases hs.own e1 e2 (by omega) e4 with e5 | e5
      · have e5 : w.heap.size ≤ b := e5
        omega
      · exact handed_dof h1 h2 e5
  have hlo : LocsLe ρ (ρ.set k l' ++ ρf) := by
    intro j lj e1
    by_cases e : j = k
    · subst e
      rw [h1] at e1; cases e1
      obtain ⟨l2, q1, q2, q3⟩ := hle 0 l rfl
      have q1 : l2 = l' := by simpa using q1.symm
      subst q1
      exact ⟨l2, by rw [List.getElem?_append_left (by simpa using hk), List.getElem?_set_self hk], q2, q3⟩
    · exact ⟨lj, by rw [List.getElem?_append_left (by simpa using (List.getElem?_eq_some_iff.1 e1).1), List.getElem?_set_ne (fun h => e h.symm)]; exact e1, fun _ => rfl, Nat.le_refl _⟩
  have mine : ∀ b, Base.mine ⟨w, handed l B⟩ b → w0.mine b := by
    intro b hb
    rcases hb with hb | hb
    · exact .inl (Nat.le_trans h.below.size hb)
    · exact h.own h1 h2 (by have := hb.1; omega) hb.2
  refine ⟨⟨⟨hs.below.os.trans h.below.os, hs.below.tape.trans h.below.tape, hs.below.output.trans h.below.output, Nat.le_trans h.below.size hs.below.size, fun b hb hm => ?_⟩, h.d0, by simp [hlen, hlf], ?_, ?_, fun hr b o d hb => hs.noU hr b o d (hD' b hb)⟩, hE, hD, hlo, hD'⟩
  · refine (hs.below.block b (Nat.lt_of_lt_of_le hb h.below.size) fun hh => ?_).trans (h.below.block b hb hm)
    rcases h.own h1 h2 (by have := hh.1; omega) hh.2 with e5 | e5
    · omega
    · exact hm e5
  · intro j lj Bj e1 e2 hst
    rcases get j lj Bj e1 e2 with ⟨_, hjk, g1, g2⟩ | ⟨i, _, g1, g2⟩
    · exact (h.at_ j lj Bj g1 g2).step hE hD hlo (fun b e => hs.below.block b (h.old g1 g2 hst e) (notH j lj Bj b hjk g1 g2 hst e)) hst
    · obtain ⟨q0, q1⟩ := hs.at_ i lj Bj g1 g2 hst
      refine ⟨q0, ?_⟩
      rcases q1 with q1 | ⟨b, cap, cs, q2, q3, q4, q5, q6, q7, q8, q9⟩
      · exact .inl q1
      · refine .inr ⟨b, cap, cs, q2, mine b q3, q4, q5, q6, q7, q8, fun x y hx hy => ?_⟩
        obtain ⟨u, hu, hur⟩ := q9 x y hx hy
        have hpl : Bj.plain := by
          cases i with
          | zero => simp at g2; subst g2; exact hp'
          | succ i => exact hpf Bj (List.mem_of_getElem? (by simpa using g2))
        exact ⟨u, hu, (CRel.clos hur (hpl hst x y hx hy)).step (Ext.refl _ _) (fun b _ hb => hD' b hb) (LocsLe.refl _)⟩
  · intro i j li lj Bi Bj b e1 e2 e3 e4 e5 e6 e7 e8
    rcases get i li Bi e1 e3 with ⟨_, hik, g1, g2⟩ | ⟨i', rfl, g1, g2⟩ <;> rcases get j lj Bj e2 e4 with ⟨_, hjk, g3, g4⟩ | ⟨j', rfl, g3, g4⟩
    · exact h.dist i j li lj Bi Bj b g1 g3 g2 g4 e5 e6 e7 e8
    · exfalso
      rcases hs.own g3 g4 e6 e8 with q | q
      · have q : w.heap.size ≤ b := q
        have := h.old g1 g2 e5 e7; omega
      · exact notH i li Bi b hik g1 g2 e5 e7 q
    · exfalso
      rcases hs.own g1 g2 e5 e7 with q | q
      · have q : w.heap.size ≤ b := q
        have := h.old g3 g4 e6 e8; omega
      · exact notH j lj Bj b hjk g3 g4 e6 e8 q
    · rw [hs.dist i' j' li lj Bi Bj b g1 g3 g2 g4 e5 e6 e7 e8]
theorem Sat.backS (h : Sat D0 w0 r ρ bl w) {fr : Nat} {l0 lf : Loc} {Bd F : Blk} {w' : World} (h1 : ρ[fr]? = some l0) (hu0 : l0.u = 0) (h2 : bl[fr]? = some Bd) (hF : F.st = 0) (hp : F.plain)
    (hs : Sat (Dof D0 ρ bl) ⟨w, fun _ => False⟩ r [lf] [F] w') :
    Sat D0 w0 r (ρ.set fr { lf with u := 1 }) (bl.set fr { F with u := 1 }) w' ∧ Ext (Dof D0 ρ bl) w w' ∧ (∀ b, b < w.heap.size → Dof D0 (ρ.set fr { lf with u := 1 }) (bl.set fr { F with u := 1 }) b → Dof D0 ρ bl b) ∧ LocsLe ρ (ρ.set fr { lf with u := 1 }) ∧ ∀ b, Dof D0 (ρ.set fr { lf with u := 1 }) (bl.set fr { F with u := 1 }) b → Dof (Dof D0 ρ bl) [lf] [F] b := by
  have hk : fr < ρ.length := (List.getElem?_eq_some_iff.1 h1).1
  have hkb : fr < bl.length := (List.getElem?_eq_some_iff.1 h2).1
  have get : ∀ (j : Nat) (lj : Loc) (Bj : Blk), (ρ.set fr { lf with u := 1 })[j]? = some lj → (bl.set fr { F with u := 1 })[j]? = some Bj → (j ≠ fr ∧ ρ[j]? = some lj ∧ bl[j]? = some Bj) ∨ (j = fr ∧ lj = { lf with u := 1 } ∧ Bj = { F with u := 1 }) := by
    intro j lj Bj e1 e2
    by_cases e : j = fr
    · subst e
      rw [List.getElem?_set_self hk] at e1
      rw [List.getElem?_set_self hkb] at e2
      cases e1; cases e2
      exact .inr ⟨rfl, rfl, rfl⟩
    · rw [List.getElem?_set_ne (fun h => e h.symm)] at e1 e2
      exact .inl ⟨e, e1, e2⟩
  have hE : Ext (Dof D0 ρ bl) w w' := ⟨hs.below.size, fun b hb _ => hs.below.block b hb id⟩
  have newb : ∀ b, lf.b = some b → w.heap.size ≤ b := by
    intro b hb
    rcases hs.own (k := 0) (l := lf) (B := F) rfl rfl (by omega) hb with e | e
    · exact e
    · exact e.elim
  have hD' : ∀ b, Dof D0 (ρ.set fr { lf with u := 1 }) (bl.set fr { F with u := 1 }) b → Dof (Dof D0 ρ bl) [lf] [F] b := by
    rintro b (hx | ⟨j, lj, Bj, e1, e2, e3, e4⟩)
    · exact .inl (.inl hx)
    · rcases get j lj Bj e1 e2 with ⟨_, g1, g2⟩ | ⟨_, rfl, rfl⟩
      · exact .inl (.inr ⟨j, lj, Bj, g1, g2, e3, e4⟩)
      · exact .inr ⟨0, lf, F, rfl, rfl, hF, e4⟩
  have hD : ∀ b, b < w.heap.size → Dof D0 (ρ.set fr { lf with u := 1 }) (bl.set fr { F with u := 1 }) b → Dof D0 ρ bl b := by
    rintro b hb (hx | ⟨j, lj, Bj, e1, e2, e3, e4⟩)
    · exact .inl hx
    · rcases get j lj Bj e1 e2 with ⟨_, g1, g2⟩ | ⟨_, rfl, rfl⟩
      · exact .inr ⟨j, lj, Bj, g1, g2, e3, e4⟩
      · have := newb b e4; omega
  have hlo : LocsLe ρ (ρ.set fr { lf with u := 1 }) := by
    intro j lj e1
    by_cases e : j = fr
    · subst e
      rw [h1] at e1; cases e1
      exact ⟨_, List.getElem?_set_self hk, fun e => by simp at e; omega, by simp; omega⟩
    · exact ⟨lj, by rw [List.getElem?_set_ne (fun h => e h.symm)]; exact e1, fun _ => rfl, Nat.le_refl _⟩
  refine ⟨⟨⟨hs.below.os.trans h.below.os, hs.below.tape.trans h.below.tape, hs.below.output.trans h.below.output, Nat.le_trans h.below.size hs.below.size, fun b hb hm => (hs.below.block b (Nat.lt_of_lt_of_le hb h.below.size) id).trans (h.below.block b hb hm)⟩, h.d0, by simp [h.len], ?_, ?_, fun hr b o d hb => hs.noU hr b o d (hD' b hb)⟩, hE, hD, hlo, hD'⟩
  · intro j lj Bj e1 e2 hst
    rcases get j lj Bj e1 e2 with ⟨_, g1, g2⟩ | ⟨_, rfl, rfl⟩
    · exact (h.at_ j lj Bj g1 g2).step hE hD hlo (fun b e => hs.below.block b (h.old g1 g2 hst e) id) hst
    · obtain ⟨q0, q1⟩ := hs.at_ 0 lf F rfl rfl (by omega)
      refine ⟨rfl, ?_⟩
      rcases q1 with q1 | ⟨b, cap, cs, q2, q3, q4, q5, q6, q7, q8, q9⟩
      · exact .inl q1
      · refine .inr ⟨b, cap, cs, q2, .inl (Nat.le_trans h.below.size (newb b q2)), q4, q5, q6, q7, q8, fun x y hx hy => ?_⟩
        obtain ⟨u, hu, hur⟩ := q9 x y hx hy
        exact ⟨u, hu, (CRel.clos hur (hp (by omega) x y hx hy)).step (Ext.refl _ _) (fun b _ hb => hD' b hb) (LocsLe.refl _)⟩
  · intro i j li lj Bi Bj b e1 e2 e3 e4 e5 e6 e7 e8
    rcases get i li Bi e1 e3 with ⟨_, g1, g2⟩ | ⟨hi, rfl, rfl⟩ <;> rcases get j lj Bj e2 e4 with ⟨_, g3, g4⟩ | ⟨hj, rfl, rfl⟩
    · exact h.dist i j li lj Bi Bj b g1 g3 g2 g4 e5 e6 e7 e8
    · have q := newb b e8; have := h.old g1 g2 e5 e7; omega
    · have q := newb b e7; have := h.old g3 g4 e6 e8; omega
    · rw [hi, hj]
/-- What a call hands back, where its one block has the place fr. -/
def renG (fr : Nat) : Cell → Cell
  | .p i u sz a o => match i, u with
    | 0, 0 => .p fr 1 sz a o
    | _, _ => .any
  | .gs i u => match i, u with
    | 0, 0 => .gs fr 1
    | _, _ => .any
  | .sl i u sz o m => match i, u with
    | 0, 0 => .sl fr 1 sz o m
    | _, _ => .any
  | .cl F m f => if (Cell.cl F m f).clos then .cl F m f else .any
  | c => c
def renGV (fr : Nat) : V → V
  | .c x => .c (renG fr x)
  | .g l => .g (l.map (renG fr))
  | .t2 a b => .t2 (renGV fr a) (renGV fr b)
  | .t3 a b d => .t3 (renGV fr a) (renGV fr b) (renGV fr d)
  | .t4 a b d e => .t4 (renGV fr a) (renGV fr b) (renGV fr d) (renGV fr e)
  | .un => .un
theorem renG_rel {D : Nat → Prop} {ρ1 : List Loc} {fr : Nat} {lf : Loc} (hk : fr < ρ1.length) (hu : lf.u = 0) {c : Cell} {v : Value} (h : CRel D w [lf] c v) : CRel D w (ρ1.set fr { lf with u := 1 }) (renG fr c) v := by
  cases c with
  | p i u sz a o =>
    simp only [renG]
    split
    · obtain ⟨l, h1, h2, h3⟩ := h
      have h1 : lf = l := by simpa using h1
      subst h1
      exact ⟨_, List.getElem?_set_self hk, Nat.le_refl _, fun _ => h3 hu⟩
    · trivial
  | gs i u =>
    simp only [renG]
    split
    · obtain ⟨l, h1, h2, h3⟩ := h
      have h1 : lf = l := by simpa using h1
      subst h1
      exact ⟨_, List.getElem?_set_self hk, Nat.le_refl _, fun _ => h3 hu⟩
    · trivial
  | sl i u sz o m =>
    simp only [renG]
    split
    · obtain ⟨l, h1, h2, h3⟩ := h
      have h1 : lf = l := by simpa using h1
      subst h1
      exact ⟨_, List.getElem?_set_self hk, Nat.le_refl _, fun _ => h3 hu⟩
    · trivial
  | cl F m f =>
    simp only [renG]
    split
    · rename_i hc; exact CRel.clos h hc
    · trivial
  | _ => exact h
theorem renGs_rel {D : Nat → Prop} {ρ1 : List Loc} {fr : Nat} {lf : Loc} (hk : fr < ρ1.length) (hu : lf.u = 0) : ∀ {cs : List Cell} {vs : List Value}, CRels D w [lf] cs vs → CRels D w (ρ1.set fr { lf with u := 1 }) (cs.map (renG fr)) vs
  | [], [], _ => trivial
  | _ :: _, _ :: _, h => ⟨renG_rel hk hu h.1, renGs_rel hk hu h.2⟩
  | [], _ :: _, h => h.elim
  | _ :: _, [], h => h.elim
theorem renGV_rel {D : Nat → Prop} {ρ1 : List Loc} {fr : Nat} {lf : Loc} (hk : fr < ρ1.length) (hu : lf.u = 0) : ∀ {x : V} {v : Value}, VRel D w [lf] x v → VRel D w (ρ1.set fr { lf with u := 1 }) (renGV fr x) v
  | .c _, _, h => renG_rel hk hu h
  | .g _, _, h => by obtain ⟨vs, h1, h2⟩ := h; exact ⟨vs, h1, renGs_rel hk hu h2⟩
  | .t2 _ _, _, h => by obtain ⟨x, y, h1, h2, h3⟩ := h; exact ⟨x, y, h1, renGV_rel hk hu h2, renGV_rel hk hu h3⟩
  | .t3 _ _ _, _, h => by obtain ⟨x, y, z, h1, h2, h3, h4⟩ := h; exact ⟨x, y, z, h1, renGV_rel hk hu h2, renGV_rel hk hu h3, renGV_rel hk hu h4⟩
  | .t4 _ _ _ _, _, h => by obtain ⟨x, y, z, u, h1, h2, h3, h4, h5⟩ := h; exact ⟨x, y, z, u, h1, renGV_rel hk hu h2, renGV_rel hk hu h3, renGV_rel hk hu h4, renGV_rel hk hu h5⟩
  | .un, _, h => h
end
theorem callM_core {E : Env} {C : Ctx} {σ : St} {a : Act} {w : World} {o : Oper} {g : Operand} {args : Array Operand} {ts : Array TypeId} {f : FuncId} (hx : o.op = .call { callee := .value g, args, argTypes := ts }) (hg : calleeA σ g = some f) (hr : Rel C σ a w)
    {k : Nat} {B B' : Blk} {as : List V} {X : V} {fresh : List Blk} (hM : FnM E.P C.r f B as X B' fresh) (h2 : σ.bl[k]? = some B) (h3 : B.st = 0 ∨ 2 ≤ B.st) (hp : B.plain) (hp' : B'.plain) (hpf : ∀ F ∈ fresh, F.plain) (hfst : as.all V.fst = true)
    (hvs : (args.toList.map fun x => St.close σ.bl (σ.ev x)) = as.map (renV k σ.bl.length)) (hd : dstOK C.N o.dst) {next : Act → World → Prop} {Q : Exit → Act → World → Prop}
    (hn : ∀ a' w', Rel C (St.put ⟨σ.tm, σ.bl.set k B' ++ fresh⟩ o.dst (renV k σ.bl.length X)) a' w' → next a' w') : o.wp E.P a w next Q := by
  obtain ⟨ρ, hs, hN, hdf, hf⟩ := hr
  have hlen := hs.len
  obtain ⟨l, h1⟩ : ∃ l, ρ[k]? = some l := ⟨_, List.getElem?_eq_getElem (by rw [hlen]; exact (List.getElem?_eq_some_iff.1 h2).1)⟩
  have hk : k < ρ.length := (List.getElem?_eq_some_iff.1 h1).1
  obtain ⟨s1, s2⟩ := hs.hand h1 h2 h3 hp
  have hg' := callee_eval hg (ev_rel hf g)
  unfold Oper.wp
  rw [exec_call hx hg' hM.1, Oper.upon_enter]
  have hv : VRels (Dof C.D0 ρ σ.bl) w ρ (args.toList.map fun x => St.close σ.bl (σ.ev x)) (args.toList.map a.eval) :=
    VRels.map args.toList fun x _ => close_rel hs (ev_rel hf x)
  rw [hvs] at hv
  have hv2 := VRels.step (D' := Dof (fun b => Dof C.D0 ρ σ.bl b ∧ ¬ handed l B b) [l] [B]) (fun b _ hb => s2 b hb) (VRels.unren h1 hfst hv)
  have := hM.2 _ _ l w _ s1 hv2
  rw [show (args.toList.map a.eval).toArray = args.map a.eval by rw [← Array.toList_map, Array.toArray_toList]] at this
  refine this.mono ?_
  rintro e w' ⟨v, l', ρf, rfl, q1, q2, q3⟩
  obtain ⟨b1, b2, b3, b4, b5⟩ := hs.back h1 h2 q2 hp' hpf q1
  refine hn _ w' (Rel.put (σ := ⟨σ.tm, σ.bl.set k B' ++ fresh⟩) b1 ⟨hN.1, hN.2.trans b4⟩ hdf (frame_step b2 b3 b4 hf) hd ?_)
  rw [← hlen]
  exact (VRel.ren hk q3).step (Ext.refl _ _) (fun b _ hb => b5 b hb) (LocsLe.refl _)
end Go.Proofs.YtlhdliafjconmaaGreat
