/- The abstract operations that leave the call's own blocks alone are sound. -/
import Derived.Test.YtigciplaoikcfaaGreatAbsD
namespace Go.Proofs.YtigciplaoikcfaaGreat
open Go.RowKit
theorem VRels.map {D : Nat → Prop} {w : World} {ρ : List Loc} {g : Operand → V} {e : Operand → Value} : ∀ (l : List Operand), (∀ x ∈ l, VRel D w ρ (g x) (e x)) → VRels D w ρ (l.map g) (l.map e)
  | [], _ => trivial
  | x :: l, h => ⟨h x (by simp), VRels.map l fun y hy => h y (by simp [hy])⟩
theorem VRels.clos {D : Nat → Prop} {w : World} {ρ ρ' : List Loc} : ∀ {l : List V} {vs : List Value}, VRels D w ρ l vs → l.all V.clos = true → VRels D w ρ' l vs
  | [], [], _, _ => trivial
  | _ :: _, _ :: _, h, hc => by
    simp only [List.all_cons, Bool.and_eq_true] at hc
    exact ⟨h.1.clos hc.1, VRels.clos h.2 hc.2⟩
  | [], _ :: _, h, _ => h.elim
  | _ :: _, [], h, _ => h.elim
theorem VRels.append {D : Nat → Prop} {w : World} {ρ : List Loc} : ∀ {l l' : List V} {vs vs' : List Value}, VRels D w ρ l vs → VRels D w ρ l' vs' → VRels D w ρ (l ++ l') (vs ++ vs')
  | [], _, [], _, _, h => h
  | _ :: _, _, _ :: _, _, h, h' => ⟨h.1, VRels.append h.2 h'⟩
  | [], _, _ :: _, _, h, _ => h.elim
  | _ :: _, _, [], _, h, _ => h.elim
theorem VRels.cells {D : Nat → Prop} {w : World} {ρ : List Loc} {g : Cell → Cell} : ∀ {l : List Cell} {vs : List Value}, CRels D w ρ (l.map g) vs → VRels D w ρ (l.map fun c => V.c (g c)) vs
  | [], [], _ => trivial
  | _ :: _, _ :: _, h => ⟨h.1, VRels.cells h.2⟩
  | [], _ :: _, h => h.elim
  | _ :: _, [], h => h.elim
theorem callee_eval {D : Nat → Prop} {w : World} {ρ : List Loc} {σ : St} {a : Act} {g : Operand} {f : FuncId} (h : calleeA σ g = some f) (hx : VRel D w ρ (σ.ev g) (a.eval g)) : a.eval g = .func (.func f) #[] #[] := by
  cases g with
  | func x => simp [calleeA] at h; subst h; rfl
  | tmp t =>
    simp only [calleeA] at h
    split at h
    · rename_i f' hf
      cases h
      simp only [St.ev, hf] at hx
      exact hx
    · cases h
  | const v => simp [calleeA] at h
  | global x => simp [calleeA] at h
theorem exec_callc {P : Program} {a : Act} {w : World} {o : Oper} {g : Operand} {args : Array Operand} {ts : Array TypeId} {f : FuncId} {caps : Array Value} (ho : o.op = .call { callee := .value g, args := args, argTypes := ts }) (hg : a.eval g = .func (.func f) #[] caps) (hb : hasBody P f = true) :
    (execOp a.eval o).run P w = .ok (.enter f (args.map a.eval ++ caps)) w := by
  simp only [hasBody] at hb
  split at hb
  · rename_i fn hf
    simp only [Bool.and_eq_true, Bool.not_eq_true', Option.isSome_iff_exists] at hb
    obtain ⟨⟨c, hc⟩, hn⟩ := hb
    have : (execOp a.eval o) = (do let d ← resolve a.eval { callee := .value g, args := args, argTypes := ts } o.type; invoke d.target d.args) := by
      unfold execOp; rw [ho]
    rw [this]
    have hn' : ¬ fn.name = "runtime.NumGoroutine" := by simpa using hn
    simp [resolve, hg, Deferred.ofValue, invoke, callFunc, hf, hn', hc]
  · cases hb
theorem caps_eval {D : Nat → Prop} {w : World} {ρ : List Loc} {σ : St} {a : Act} {g : Operand} {f : FuncId} {cs : List Cell} (h : capsA σ g = some (f, cs)) (hx : VRel D w ρ (σ.ev g) (a.eval g)) : (∃ n c, σ.ev g = .c (.cl f n c) ∧ cs = (List.range n).map c) ∧ ∃ caps : Array Value, a.eval g = .func (.func f) #[] caps ∧ CRels D w ρ cs caps.toList := by
  cases g with
  | tmp t =>
    simp only [capsA] at h
    split at h
    · rename_i f' n c hf
      cases h
      simp only [St.ev, hf] at hx
      obtain ⟨caps, h1, h2, h3⟩ := hx
      refine ⟨⟨n, c, hf, rfl⟩, caps, h1, CRels.of _ _ (by simp [h2]) fun j x v hx hv => ?_⟩
      rw [List.getElem?_map] at hx
      rcases Nat.lt_or_ge j n with hj | hj
      · rw [List.getElem?_range hj] at hx
        simp at hx; subst hx
        obtain ⟨u, hu, hr⟩ := h3 j hj
        rw [Array.getElem?_toList, hu] at hv
        cases hv; exact hr
      · rw [List.getElem?_eq_none (by simp; omega)] at hx; cases hx
    · cases h
  | func x => simp [capsA] at h
  | const v => simp [capsA] at h
  | global x => simp [capsA] at h
theorem exec_call {P : Program} {a : Act} {w : World} {o : Oper} {g : Operand} {args : Array Operand} {ts : Array TypeId} {f : FuncId} (ho : o.op = .call { callee := .value g, args := args, argTypes := ts }) (hg : a.eval g = .func (.func f) #[] #[]) (hb : hasBody P f = true) :
    (execOp a.eval o).run P w = .ok (.enter f (args.map a.eval)) w := by
  simp only [hasBody] at hb
  split at hb
  · rename_i fn hf
    simp only [Bool.and_eq_true, Bool.not_eq_true', Option.isSome_iff_exists] at hb
    obtain ⟨⟨c, hc⟩, hn⟩ := hb
    have : (execOp a.eval o) = (do let d ← resolve a.eval { callee := .value g, args := args, argTypes := ts } o.type; invoke d.target d.args) := by
      unfold execOp; rw [ho]
    rw [this]
    have hn' : ¬ fn.name = "runtime.NumGoroutine" := by simpa using hn
    simp [resolve, hg, Deferred.ofValue, invoke, callFunc, hf, hn', hc]
  · cases hb
theorem len_rel {D0 : Nat → Prop} {w0 : Base} {w : World} {r : Bool} {ρ : List Loc} {bl : List Blk} (hs : Sat D0 w0 r ρ bl w) {x : V} {v : Value} {n : Nat} (h : lenA bl x = some n) (hx : VRel (Dof D0 ρ bl) w ρ x v) : ∃ A c, v = .slice A n c ∧ n ≤ c := by
  cases x with
  | c x =>
    cases x <;> simp only [lenA] at h <;> first | (cases h; done) | skip
    case row sz m f => cases h; obtain ⟨A, c, h1, h2, _⟩ := hx; exact ⟨A, c, h1, h2⟩
    case nil => cases h; exact ⟨none, 0, hx, Nat.le_refl _⟩
    case sl k u sz o m =>
      obtain ⟨l, hl, hu, hv⟩ := hx
      split at h
      · rename_i B hB
        split at h
        · rename_i hst
          simp only [Bool.and_eq_true, beq_iff_eq, Nat.ble_eq] at hst
          cases h
          obtain ⟨g0, g1⟩ := hs.at_ k l B hl hB hst.2
          obtain ⟨_, A, c, e1, e2, _⟩ := hv (by omega)
          exact ⟨A, c, e1, e2⟩
        · cases h
      · cases h
    case gs k u =>
      obtain ⟨l, hl, hu, hv⟩ := hx
      split at h
      · rename_i B hB
        split at h
        · rename_i hst
          simp only [Bool.and_eq_true, beq_iff_eq, Nat.ble_eq] at hst
          cases h
          obtain ⟨g0, g1⟩ := hs.at_ k l B hl hB hst.2
          have hv' := hv (by omega)
          rcases g1 with ⟨g1, g2, g3⟩ | ⟨b, cap, cs, g1, g2, g3, g4, g5, g6, g7, g8⟩
          · exact ⟨none, 0, by rw [hv', g3, g1], by omega⟩
          · exact ⟨_, cap, hv'.trans g3, g6⟩
        · cases h
      · cases h
  | g l => simp [lenA] at h
  | t2 a b => simp [lenA] at h
  | t3 a b d => simp [lenA] at h
  | t4 a b d e => simp [lenA] at h
theorem loc_u {D0 : Nat → Prop} {w0 : Base} {w : World} {r : Bool} {ρ : List Loc} {bl : List Blk} (hs : Sat D0 w0 r ρ bl w) {k : Nat} {l : Loc} {B : Blk} (h1 : ρ[k]? = some l) (h2 : bl[k]? = some B) (h3 : B.st ≤ 1) : l.u = B.u := (hs.at_ k l B h1 h2 h3).1
theorem CRels.append {D : Nat → Prop} {w : World} {ρ : List Loc} : ∀ {l : List Cell} {vs : List Value} {l' : List Cell} {vs' : List Value}, CRels D w ρ l vs → CRels D w ρ l' vs' → CRels D w ρ (l ++ l') (vs ++ vs')
  | [], [], _, _, _, h => h
  | _ :: _, _ :: _, _, _, h, k => ⟨h.1, CRels.append h.2 k⟩
  | [], _ :: _, _, _, h, _ => h.elim
  | _ :: _, [], _, _, h, _ => h.elim
theorem CRels.take {D : Nat → Prop} {w : World} {ρ : List Loc} : ∀ {l : List Cell} {vs : List Value} (n : Nat), CRels D w ρ l vs → CRels D w ρ (l.take n) (vs.take n)
  | [], [], _, _ => by simp [CRels]
  | _ :: _, _ :: _, 0, _ => trivial
  | _ :: _, _ :: _, n + 1, h => ⟨h.1, CRels.take n h.2⟩
  | [], _ :: _, _, h => h.elim
  | _ :: _, [], _, h => h.elim
theorem CRels.drop {D : Nat → Prop} {w : World} {ρ : List Loc} : ∀ {l : List Cell} {vs : List Value} (n : Nat), CRels D w ρ l vs → CRels D w ρ (l.drop n) (vs.drop n)
  | [], [], _, _ => by simp [CRels]
  | _ :: _, _ :: _, 0, h => h
  | _ :: _, _ :: _, n + 1, h => CRels.drop n h.2
  | [], _ :: _, _, h => h.elim
  | _ :: _, [], _, h => h.elim
theorem fold_seg (off : Nat) : ∀ (vs : List Value) (k : Nat) (cells : Array Value), off + k + vs.length ≤ cells.size →
    ((vs.zipIdx k).foldl (fun cs p => cs.setIfInBounds (off + p.2) p.1) cells).toList = cells.toList.take (off + k) ++ vs ++ cells.toList.drop (off + k + vs.length)
  | [], k, cells, _ => by simp
  | v :: vs, k, cells, h => by
    simp only [List.zipIdx_cons, List.foldl_cons]
    rw [fold_seg off vs (k + 1) _ (by simp at h ⊢; omega)]
    have e := list_seg_step cells.toList (off + k) v vs (by simp at h ⊢; omega)
    simpa [Array.toList_setIfInBounds, Nat.add_assoc] using e
theorem run_places {P : Program} (fs : Array Field) (h : ∀ f ∈ fs.toList, P.cellsOf f.type ≠ 0) (w : World) :
    (fs.mapM fun f => do pure (f.offset, ← sizeOf f.type) : Sem (Array (Nat × Nat))).run P w = .ok (fs.toList.map fun f => (f.offset, P.cellsOf f.type)).toArray w := by
  have key : ∀ l : List Field, (∀ f ∈ l, P.cellsOf f.type ≠ 0) → (l.mapM fun f => Functor.map (Prod.mk f.offset) (sizeOf f.type) : Sem (List (Nat × Nat))).run P w = .ok (l.map fun f => (f.offset, P.cellsOf f.type)) w := by
    intro l
    induction l with
    | nil => intro _; rfl
    | cons f l ih =>
      intro hl
      have hs : (sizeOf f.type).run P w = .ok (P.cellsOf f.type) w := by
        have h1 := hl f (by simp)
        cases hI : P.info? f.type with
        | none => simp [Program.cellsOf, hI] at h1
        | some i' => simp [sizeOf, typeInfo, Program.cellsOf, hI]
      have ih' := ih fun g hg => hl g (by simp [hg])
      simp [List.mapM_cons, hs, ih', Result.andThen]
  rw [Array.mapM_eq_mapM_toList]
  simp [key fs.toList h, Result.andThen]
theorem fill_rel {D0 : Nat → Prop} {w0 : Base} {w : World} {r : Bool} {ρ : List Loc} {bl : List Blk} (hs : Sat D0 w0 r ρ bl w) {D : Nat → Prop} {offs : List (Option (Nat × Nat))} {place : Nat → Option (Nat × Nat)} (hp : ∀ (i off fsz : Nat), offs[i]? = some (some (off, fsz)) → place i = some (off, fsz)) {g : Operand → V} {e : Operand → Value} :
    ∀ (parts : List (Nat × Operand)) (cs cs' : List Cell) (cells : Array Value), fillA bl offs cs (parts.map fun q => (q.1, g q.2)) = some cs' → (∀ q ∈ parts, VRel D w ρ (g q.2) (e q.2)) → CRels D w ρ cs cells.toList →
      ∃ cells', Instr.fill place cells (parts.map fun q => (q.1, e q.2)) = some cells' ∧ CRels D w ρ cs' cells'.toList
  | [], cs, cs', cells, h, _, hc => by simp [fillA] at h; subst h; exact ⟨cells, rfl, hc⟩
  | (i, x) :: parts, cs, cs', cells, h, hg, hc => by
    simp only [List.map_cons, fillA] at h
    split at h
    · rename_i off fsz ho
      have hx := hg (i, x) (by simp)
      have step : ∀ (l : List Cell) (v : Value), e x = v → v.cells.size = fsz → fsz = l.length → off + l.length ≤ cs.length → CRels D w ρ l v.cells.toList → fillA bl offs (cs.take off ++ l ++ cs.drop (off + l.length)) (parts.map fun q => (q.1, g q.2)) = some cs' →
          ∃ cells', Instr.fill place cells (((i, x) :: parts).map fun q => (q.1, e q.2)) = some cells' ∧ CRels D w ρ cs' cells'.toList := by
        intro l v ev e1 e2 e3 e4 e5
        have hlen := hc.length
        simp only [Array.length_toList] at hlen
        have hseg := fold_seg off v.cells.toList 0 cells (by simp only [Array.length_toList]; omega)
        obtain ⟨cells', h1, h2⟩ := fill_rel hs hp parts _ cs' (v.cells.zipIdx.foldl (fun cs (p : Value × Nat) => cs.setIfInBounds (off + p.2) p.1) cells) e5 (fun q hq => hg q (by simp [hq])) (by
          rw [← Array.foldl_toList, Array.toList_zipIdx, hseg]
          have el : v.cells.toList.length = l.length := e4.length.symm
          simp only [Nat.add_zero, el]
          exact ((hc.take off).append e4).append (hc.drop _))
        refine ⟨cells', ?_, h2⟩
        simp only [List.map_cons, Instr.fill, hp i off fsz ho, ev]
        rw [if_neg (by simp; omega)]
        exact h1
      split at h
      · rename_i y hy
        split at h
        · rename_i hcond
          simp only [Bool.and_eq_true, beq_iff_eq, Nat.ble_eq] at hcond
          rw [hy] at hx
          obtain ⟨h1, h2, h3⟩ := hcond
          have hcell : (e x).cells = #[e x] := by
            exact (one_rel hs h1 hx).2
          refine step [y] (e x) rfl (by rw [hcell]; simp [h2]) (by simp [h2]) (by simpa using h3) (by rw [hcell]; exact ⟨hx, trivial⟩) (by simpa using h)
        · cases h
      · rename_i l hl
        split at h
        · rename_i hcond
          simp only [Bool.and_eq_true, beq_iff_eq, Nat.ble_eq] at hcond
          rw [hl] at hx
          obtain ⟨vs, e1, e2⟩ := hx
          have hlen := e2.length
          simp only [Array.length_toList] at hlen
          exact step l (e x) rfl (by rw [e1]; simp only [Value.cells]; omega) hcond.1 hcond.2 (by rw [e1]; exact e2) h
        · cases h
      · cases h
    · cases h
theorem toNat_lt {n : Int} {m : Nat} (h0 : 0 ≤ n) (h : n < (m : Int)) : n.toNat < m := by omega
theorem run_index {P : Program} {T e : TypeId} {ti te : TI} (ht : tyOf P T = some ti) (he : ti.elem = some e) (hte : tyOf P e = some te) {k : IntKind} {n : Int} {b o len c : Nat} (h0 : 0 ≤ n) (h1 : n < (len : Int)) (w : World) :
    (Instr.indexAt T (.slice (some ⟨b, o, none⟩) len c) (.int k n)).run P w = .ok (.pointer (some ⟨b, o + n.toNat * te.size, none⟩)) w := by
  have hs := fun w => run_size hte w
  simp [Instr.indexAt, asIntOf, run_underlying (under_elem ht he), h0, h1, hs, add_plain]
theorem run_slice {P : Program} {T e : TypeId} {te : TI} (hu : P.underlying T = some (.slice e)) (hte : tyOf P e = some te) {A : Option Addr} {n c l h : Nat} {lo hi : Option Value} (hlo : lo = none ∧ l = 0 ∨ lo = some (.int .i64 l)) (hhi : hi = none ∧ h = n ∨ hi = some (.int .i64 h)) (h1 : l ≤ h) (h2 : h ≤ c) (w : World) :
    (Instr.sliceAt T (.slice A n c) lo hi none).run P w = .ok (.slice (if c = l then A else A.map (·.add (l * te.size))) (h - l) (c - l)) w := by
  have hs := fun w => run_size hte w
  have e1 : ((l : Int) ≤ (h : Int)) := by omega
  have e2 : ((h : Int) ≤ (c : Int)) := by omega
  rcases hlo with ⟨rfl, rfl⟩ | rfl <;> rcases hhi with ⟨rfl, rfl⟩ | rfl <;>
    simp [Instr.sliceAt, Instr.slice, Instr.sliceBounds, Instr.sliceBound, asIntOf, run_underlying hu, hs, h1, h2]
theorem slice_val {A : Option Addr} {b o l h n c sz : Nat} (hA : 0 < n → A = some ⟨b, o, none⟩) (h1 : l ≤ h) (h2 : h ≤ n) (h3 : n ≤ c) (hn : 0 < h - l) : (if c = l then A else A.map (·.add (l * sz))) = some ⟨b, o + l * sz, none⟩ := by
  rw [if_neg (by omega), hA (by omega)]
  simp [add_plain]
theorem slice_map {A : Option Addr} {l c sz : Nat} : (if c = l then A else A.map (·.add (l * sz))) = (if c = l then A else A.map (·.add (l * sz))) := rfl
/-- The bounds of a slice expression. -/
theorem slice_bounds {D : Nat → Prop} {w : World} {ρ : List Loc} {σ : St} {a : Act} {lo : Option Operand} {m : Int} (h : (match lo.map σ.ev with | none => some (0 : Int) | some (V.c (.int .i64 n)) => some n | _ => none) = some m) (hm : 0 ≤ m) (hr : ∀ x, lo = some x → VRel D w ρ (σ.ev x) (a.eval x)) :
    lo.map a.eval = none ∧ m.toNat = 0 ∨ lo.map a.eval = some (.int .i64 (m.toNat : Int)) := by
  cases lo with
  | none => simp at h; subst h; exact .inl ⟨rfl, rfl⟩
  | some x =>
    right
    simp only [Option.map_some] at h ⊢
    split at h
    · rename_i h0; cases h0
    · rename_i n hn
      cases h
      have := hr x rfl
      rw [Option.some.inj hn] at this
      rw [show a.eval x = .int .i64 m from this, Int.toNat_of_nonneg hm]
    · cases h
theorem slice_boundh {D : Nat → Prop} {w : World} {ρ : List Loc} {σ : St} {a : Act} {hi : Option Operand} {m : Int} {n0 : Nat} {q : Option Int} (hq : ∀ z, q = some z → z = n0) (h : (match hi.map σ.ev with | none => q | some (V.c (.int .i64 n)) => some n | _ => none) = some m) (hm : 0 ≤ m) (hr : ∀ x, hi = some x → VRel D w ρ (σ.ev x) (a.eval x)) :
    hi.map a.eval = none ∧ m.toNat = n0 ∨ hi.map a.eval = some (.int .i64 (m.toNat : Int)) := by
  cases hi with
  | none => simp at h; exact .inl ⟨rfl, by rw [hq m h]; rfl⟩
  | some x =>
    right
    simp only [Option.map_some] at h ⊢
    split at h
    · rename_i h0; cases h0
    · rename_i n hn
      cases h
      have := hr x rfl
      rw [Option.some.inj hn] at this
      rw [show a.eval x = .int .i64 m from this, Int.toNat_of_nonneg hm]
    · cases h
theorem arg_mem {o : Oper} {c : Call} (hx : o.op = .call c) {x : Operand} (h : x ∈ c.args.toList) : x ∈ o.op.operands := by
  rw [hx]
  simp only [Op.operands, Call.operands]
  exact Array.mem_append.2 (.inr (Array.mem_toList_iff.1 h))
set_option maxHeartbeats 1000000 in
theorem dop_sound {E : Env} (hE : EnvOK E) {o : Oper} {σ : St} {K : V → Prop} (h : dop E o σ K) : ∃ X, K X ∧ ∀ D0 w0, Steps1 E.P D0 w0 E.r o σ X := by
  unfold dop at h
  split at h
  case h_1 x hx | h_2 x hx =>
    refine ⟨_, h, fun D0 w0 => steps1_value fun ρ bl a w hs hag hr => ⟨a.eval x, ?_, hr x (by rw [hx]; simp [Op.operands])⟩⟩
    simp [execOp, hx]
  case h_3 c x y hx =>
    split at h
    · rename_i t ht
      have hb : ∀ (D0 : Nat → Prop) (w0 : Base) (ρ : List Loc) (bl : List Blk) (a : Act) (w : World), (∀ x ∈ o.op.operands, VRel (Dof D0 ρ bl) w ρ (σ.ev x) (a.eval x)) → a.eval c = .bool t := by
        intro D0 w0 ρ bl a w hr
        have := hr c (by rw [hx]; simp [Op.operands])
        rw [ht] at this
        exact this
      have h := cs_iff.1 h
      cases t with
      | true =>
        refine ⟨_, h.1 rfl, fun D0 w0 => steps1_value fun ρ bl a w hs hag hr => ⟨a.eval x, ?_, hr x (by rw [hx]; simp [Op.operands])⟩⟩
        simp [execOp, hx, hb D0 w0 ρ bl a w hr, asBool]
      | false =>
        refine ⟨_, h.2 rfl, fun D0 w0 => steps1_value fun ρ bl a w hs hag hr => ⟨a.eval y, ?_, hr y (by rw [hx]; simp [Op.operands])⟩⟩
        simp [execOp, hx, hb D0 w0 ρ bl a w hr, asBool]
    · exact h.elim
  case h_4 T x hx =>
    split at h
    · rename_i ti ht
      have ht := hE.ty _ _ ht
      obtain ⟨h1, h⟩ := chk_iff.1 h
      simp only [Bool.or_eq_true, beq_iff_eq] at h1
      split at h
      · rename_i k u sz i o' hv
        split at h
        · rename_i B hB
          obtain ⟨g0, g6⟩ := chk_iff.1 h
          simp only [Bool.and_eq_true, beq_iff_eq, Nat.ble_eq] at g0
          obtain ⟨g1, g2, g3, g5⟩ := g0
          refine ⟨_, g6, fun D0 w0 => steps1_value fun ρ bl a w hs hag hr => ?_⟩
          have hB := hag (by rw [hx]; rfl) x (by rw [hx]; simp [Op.operands]) k u (by rw [hv]; exact ⟨rfl, rfl⟩) B hB (by omega) (by omega)
          have hr' := hr x (by rw [hx]; simp [Op.operands])
          rw [hv] at hr'
          obtain ⟨y, hy, hyr⟩ := load_p hs ht h1 hB g1 g2 g3 g5 hr'
          exact ⟨y, by simp [execOp, hx, hy], hyr⟩
        · exact h.elim
      · rename_i m f hv
        obtain ⟨g0, h⟩ := chk_iff.1 h
        refine ⟨_, h, fun D0 w0 => steps1_value fun ρ bl a w hs hag hr => ?_⟩
        have hr' := hr x (by rw [hx]; simp [Op.operands])
        rw [hv] at hr'
        obtain ⟨y, hy, hyr⟩ := load_x ht h1 (Nat.le_of_ble_eq_true g0) hr'
        exact ⟨y, by simp [execOp, hx, hy], hyr.nil_rho⟩
      · exact h.elim
    · exact h.elim
  case h_5 T x fld hx =>
    split at h
    · rename_i ti ht
      have ht := hE.ty _ _ ht
      split at h
      · rename_i off fsz ho
        split at h
        · rename_i k u sz i o' hv
          split at h
          · rename_i B hB
            obtain ⟨g0, g3⟩ := chk_iff.1 h
            simp only [Bool.and_eq_true, beq_iff_eq, Nat.ble_eq] at g0
            obtain ⟨g1, g2⟩ := g0
            refine ⟨_, g3, fun D0 w0 => steps1_value fun ρ bl a w hs hag hr => ?_⟩
            have hB := hag (by rw [hx]; rfl) x (by rw [hx]; simp [Op.operands]) k u (by rw [hv]; exact ⟨rfl, rfl⟩) B hB (by omega) (by omega)
            have hr' := hr x (by rw [hx]; simp [Op.operands])
            rw [hv] at hr'
            obtain ⟨l, hl, hu, hp⟩ := hr'
            have hlu := loc_u hs hl hB g2
            obtain ⟨hil, b, e1, e2⟩ := hp (by omega)
            refine ⟨.pointer (some ⟨b, i * sz + o' + off, none⟩), ?_, ⟨l, hl, hu, fun _ => ⟨hil, b, e1, by rw [Nat.add_assoc]⟩⟩⟩
            simp [execOp, hx, e2, run_field ht ho]
          · exact h.elim
        · rename_i m f hv
          obtain ⟨g0, h⟩ := chk_iff.1 h
          have g0 := Nat.le_of_ble_eq_true g0
          refine ⟨_, h, fun D0 w0 => steps1_value fun ρ bl a w hs hag hr => ?_⟩
          have hr' := hr x (by rw [hx]; simp [Op.operands])
          rw [hv] at hr'
          obtain ⟨b, o', e1, e2, e3, e4⟩ := hr'
          refine ⟨.pointer (some ⟨b, o' + off, none⟩), by simp [execOp, hx, e1, run_field ht ho], ⟨b, o' + off, rfl, e2, e3, fun j hj => ?_⟩⟩
          rw [Nat.add_assoc]
          exact e4 (off + j) (by omega)
        · exact h.elim
      · exact h.elim
    · exact h.elim
  case h_6 T x ix hx =>
    split at h
    · rename_i ti ht
      split at h
      · rename_i e he
        split at h
        · rename_i te kk n hte hn
          have ht := hE.ty _ _ ht
          have hte := hE.ty _ _ hte
          obtain ⟨h0, h⟩ := h
          have hix : ∀ (D0 : Nat → Prop) (w0 : Base) (ρ : List Loc) (bl : List Blk) (a : Act) (w : World), (∀ x ∈ o.op.operands, VRel (Dof D0 ρ bl) w ρ (σ.ev x) (a.eval x)) → a.eval ix = .int kk n := by
            intro D0 w0 ρ bl a w hr
            have := hr ix (by rw [hx]; simp [Op.operands])
            rw [hn] at this
            exact this
          split at h
          · rename_i sz m f hv
            obtain ⟨g1, h⟩ := h
            obtain ⟨g2, g3⟩ := chk_iff.1 h
            have g2 : te.size = sz := by simpa using g2
            refine ⟨_, g3, fun D0 w0 => steps1_value fun ρ bl a w hs hag hr => ?_⟩
            have hr' := hr x (by rw [hx]; simp [Op.operands])
            rw [hv] at hr'
            obtain ⟨A, c, e1, e2, e4⟩ := hr'
            obtain ⟨b, o', rfl, e5, e6, e7⟩ := e4 (by omega)
            refine ⟨.pointer (some ⟨b, o' + n.toNat * te.size, none⟩), by simp [execOp, hx, e1, hix D0 w0 ρ bl a w hr, run_index ht he hte h0 g1], ⟨b, _, rfl, e5, e6, fun j hj => ?_⟩⟩
            obtain ⟨y, hy, hyr⟩ := e7 n.toNat j (toNat_lt h0 g1) hj
            exact ⟨y, by rw [g2, Nat.add_assoc]; exact hy, hyr⟩
          · rename_i k u hv
            split at h
            · rename_i B hB
              obtain ⟨g4, h⟩ := h
              obtain ⟨g0, g5⟩ := chk_iff.1 h
              simp only [Bool.and_eq_true, beq_iff_eq, Nat.ble_eq] at g0
              obtain ⟨g1, g2, g3⟩ := g0
              refine ⟨_, g5, fun D0 w0 => steps1_value fun ρ bl a w hs hag hr => ?_⟩
              have hB := hag (by rw [hx]; rfl) x (by rw [hx]; simp [Op.operands]) k u (by rw [hv]; exact ⟨rfl, rfl⟩) B hB (by omega) (by omega)
              have hr' := hr x (by rw [hx]; simp [Op.operands])
              rw [hv] at hr'
              obtain ⟨l, hl, hu, hp⟩ := hr'
              have hln := loc_n hs hl hB g2
              obtain ⟨q0, q1⟩ := hs.at_ k l B hl hB g2
              have hp' := hp (by omega)
              rcases q1 with ⟨q1, _, _⟩ | ⟨b, cap, cs, q1, q2, q3, _⟩
              · omega
              · refine ⟨.pointer (some ⟨b, n.toNat * te.size, none⟩), ?_, ⟨l, hl, hu, fun _ => ⟨by omega, b, q1, by rw [g3]; rfl⟩⟩⟩
                have := run_index (P := E.P) ht he hte (k := kk) (b := b) (o := 0) (c := cap) h0 g4 w
                rw [Nat.zero_add] at this
                simp [execOp, hx, hp', q3, hix D0 w0 ρ bl a w hr, this]
            · exact h.elim
          · rename_i k u sz o' m hv
            split at h
            · rename_i B hB
              obtain ⟨g4, h⟩ := h
              obtain ⟨g0, g5⟩ := chk_iff.1 h
              simp only [Bool.and_eq_true, beq_iff_eq, Nat.ble_eq] at g0
              obtain ⟨g1, g2, g3⟩ := g0
              refine ⟨_, g5, fun D0 w0 => steps1_value fun ρ bl a w hs hag hr => ?_⟩
              have hB := hag (by rw [hx]; rfl) x (by rw [hx]; simp [Op.operands]) k u (by rw [hv]; exact ⟨rfl, rfl⟩) B hB (by omega) (by omega)
              have hr' := hr x (by rw [hx]; simp [Op.operands])
              rw [hv] at hr'
              obtain ⟨l, hl, hu, hp⟩ := hr'
              have hlu := loc_u hs hl hB g2
              obtain ⟨hon, A, c, e1, e2, e4⟩ := hp (by omega)
              obtain ⟨b, e5, rfl⟩ := e4 (by omega)
              refine ⟨.pointer (some ⟨b, o' * sz + n.toNat * te.size, none⟩), by simp [execOp, hx, e1, hix D0 w0 ρ bl a w hr, run_index ht he hte h0 g4], ⟨l, hl, hu, fun _ => ⟨by omega, b, e5, by rw [g3, Nat.add_mul]; rfl⟩⟩⟩
            · exact h.elim
          · exact h.elim
        · exact h.elim
      · exact h.elim
    · exact h.elim
  case h_7 T parts hx =>
    split at h
    · rename_i ti ht
      split at h
      · rename_i l hl
        have ht := hE.ty _ _ ht
        obtain ⟨h0, h3⟩ := chk_iff.1 h
        simp only [Bool.and_eq_true, Bool.not_eq_true', List.isEmpty_eq_false_iff] at h0
        obtain ⟨h1, h2⟩ := h0
        refine ⟨_, h3, fun D0 w0 => steps1_value fun ρ bl a w hs hag hr => ?_⟩
        have hpm : ∀ q ∈ parts.toList, q.2 ∈ o.op.operands := fun q hq => by rw [hx]; simp only [Op.operands]; simp; exact ⟨q.1, by simpa using hq⟩
        have hl := fillA_congr (bl' := bl) _ _ (fun q hq => by
          obtain ⟨q', hq', rfl⟩ := List.mem_map.1 hq
          exact hag (by rw [hx]; rfl) q'.2 (hpm q' hq')) hl
        obtain ⟨d, i, zv, hd, hi, hz, hti⟩ := tyOf_spec ht
        have hfs : ∃ fs, d = .struct fs := by
          rw [hti] at h1
          simp only [tiOf] at h1
          cases d <;> first | exact ⟨_, rfl⟩ | exact absurd rfl h1
        obtain ⟨fs, rfl⟩ := hfs
        have hoffs : ti.offs = fs.toList.map fun f => if E.P.cellsOf f.type = 0 then none else some (f.offset, E.P.cellsOf f.type) := by rw [hti]; rfl
        have hne : ∀ f ∈ fs.toList, E.P.cellsOf f.type ≠ 0 := by
          intro f hf he
          rw [hoffs, List.all_map, List.all_eq_true] at h2
          have := h2 f hf
          simp [he] at this
        have hzero : ti.zero = zv.cells.toList.map cellOf := by rw [hti]; rfl
        have hp : ∀ (i off fsz : Nat), ti.offs[i]? = some (some (off, fsz)) → ((fs.toList.map fun f => (f.offset, E.P.cellsOf f.type)).toArray)[i]? = some (off, fsz) := by
          intro i off fsz hj
          rw [hoffs, List.getElem?_map] at hj
          simp only [List.getElem?_toArray, List.getElem?_map]
          cases hf : fs.toList[i]? with
          | none => rw [hf] at hj; simp at hj
          | some f =>
            rw [hf] at hj
            have := hne f (List.mem_of_getElem? hf)
            simp [this] at hj
            simp [hj.1, hj.2]
        have hz0 : CRels (Dof D0 ρ bl) w ρ ti.zero zv.cells.toList := by
          rw [hzero]
          exact CRels.of _ _ (by simp) fun j x v h1 h2 => by
            rw [List.getElem?_map, h2] at h1
            simp at h1; subst h1
            exact cellOf_rel _ _ _ v
        obtain ⟨cells', e1, e2⟩ := fill_rel hs hp (g := σ.ev) (e := a.eval) parts.toList ti.zero l zv.cells hl (fun q hq => hr q.2 (by rw [hx]; simp only [Op.operands]; simp; exact ⟨q.1, by simpa using hq⟩)) hz0
        refine ⟨.agg cells', ?_, ⟨cells', rfl, e2⟩⟩
        have hpl := run_places (P := E.P) fs hne w
        have hzv : (zeroValue T).run E.P w = .ok zv w := by simp [zeroValue, typeInfo, hi, hz]
        have hex : execOp a.eval o = (do let y ← Instr.build T (parts.map fun (i, x) => (i, a.eval x)); pure (.value y)) := by unfold execOp; rw [hx]
        rw [hex]
        have hb : (Instr.build T (parts.map fun (i, x) => (i, a.eval x))).run E.P w = .ok (.agg cells') w := by
          unfold Instr.build
          simp only [Sem.run_bind, hzv, Result.andThen, run_underlying hd, hpl]
          have : (parts.map fun (i, x) => (i, a.eval x)).toList = parts.toList.map fun q => (q.1, a.eval q.2) := by simp
          rw [this]
          simp only [e1]
          rfl
        simp [hb]
      · exact h.elim
    · exact h.elim
  case h_8 op T x y T2 hx =>
    split at h
    · rename_i k a' k' b' h1 h2
      obtain ⟨hk, hbin⟩ := chk_iff.1 h
      obtain ⟨c, hc, v, _, hv, hrun⟩ := intBin_sound hk hbin T x y (default : World) (P := E.P)
      refine ⟨_, hc, fun D0 w0 => steps1_value fun ρ bl a w hs hag hr => ?_⟩
      have e1 := hr x (by rw [hx]; simp [Op.operands])
      have e2 := hr y (by rw [hx]; simp [Op.operands])
      rw [h1] at e1
      rw [h2] at e2
      refine ⟨v, ?_, hv _ _ _⟩
      have hex : execOp a.eval o = (do let z ← (do eqGuard op T x y (a.eval x) (a.eval y); binOp op T (a.eval x) (a.eval y) : Sem Value); pure (.value z)) := by unfold execOp; rw [hx]
      rw [hex, show a.eval x = .int k a' from e1, show a.eval y = .int k' b' from e2]
      have := hrun w
      rw [Sem.run_bind, this]
      rfl
    · rename_i a' b' h1 h2
      split at h
      · rename_i ti ht
        have ht := hE.ty _ _ ht
        obtain ⟨hk, h⟩ := chk_iff.1 h
        have hu := under_kd1 ht (by simpa using hk)
        have run0 : ∀ (d : Nat) (w : World), (Op.equalIn (d + 1) T (.bool a') (.bool b')).run E.P w = .ok (a' == b') w := fun d w => by simp [Op.equalIn, run_underlying hu]
        have run : ∀ w : World, (Op.equal T (.bool a') (.bool b')).run E.P w = .ok (a' == b') w := run0 9999
        have hev : ∀ (ρ : List Loc) (D : Nat → Prop) (a : Act) (w : World), (∀ x ∈ o.op.operands, VRel D w ρ (σ.ev x) (a.eval x)) → a.eval x = .bool a' ∧ a.eval y = .bool b' := by
          intro ρ D a w hr
          have e1 := hr x (by rw [hx]; simp [Op.operands])
          have e2 := hr y (by rw [hx]; simp [Op.operands])
          rw [h1] at e1
          rw [h2] at e2
          exact ⟨e1, e2⟩
        unfold boolBin at h
        split at h
        · refine ⟨_, h, fun D0 w0 => steps1_value fun ρ bl a w hs hag hr => ?_⟩
          obtain ⟨e1, e2⟩ := hev _ _ _ _ hr
          exact ⟨.bool (a' == b'), by simp [execOp, hx, e1, e2, eqGuard, binOp, run], rfl⟩
        · refine ⟨_, h, fun D0 w0 => steps1_value fun ρ bl a w hs hag hr => ?_⟩
          obtain ⟨e1, e2⟩ := hev _ _ _ _ hr
          exact ⟨.bool (!(a' == b')), by simp [execOp, hx, e1, e2, eqGuard, binOp, run], rfl⟩
        · exact h.elim
      · exact h.elim
    · rename_i sz n f h1 h2
      split at h
      · rename_i ti ht
        have ht := hE.ty _ _ ht
        obtain ⟨hk, h0, h⟩ := chk_iff.1 h
        obtain ⟨e, he⟩ := Option.isSome_iff_exists.1 hk
        have hu := under_elem ht he
        have run0 : ∀ (d : Nat) (w : World) (b : Addr) (c : Nat), (Op.equalIn (d + 1) T (.slice (some b) n c) (.slice none 0 0)).run E.P w = .ok false w := fun d w b c => by simp [Op.equalIn, run_underlying hu]
        have run : ∀ (w : World) (b : Addr) (c : Nat), (Op.equal T (.slice (some b) n c) (.slice none 0 0)).run E.P w = .ok false w := run0 9999
        have hev : ∀ (ρ : List Loc) (D : Nat → Prop) (a : Act) (w : World), (∀ x ∈ o.op.operands, VRel D w ρ (σ.ev x) (a.eval x)) → ∃ b c, a.eval x = .slice (some b) n c ∧ a.eval y = .slice none 0 0 := by
          intro ρ D a w hr
          have e1 := hr x (by rw [hx]; simp [Op.operands])
          have e2 := hr y (by rw [hx]; simp [Op.operands])
          rw [h1] at e1
          rw [h2] at e2
          obtain ⟨A, c, q1, _, q2⟩ := e1
          obtain ⟨b, o', rfl, _⟩ := q2 h0
          exact ⟨_, c, q1, e2⟩
        unfold nilBin at h
        split at h
        · refine ⟨_, h, fun D0 w0 => steps1_value fun ρ bl a w hs hag hr => ?_⟩
          obtain ⟨b, c, e1, e2⟩ := hev _ _ _ _ hr
          exact ⟨.bool false, by simp [execOp, hx, e1, e2, eqGuard, binOp, run], rfl⟩
        · refine ⟨_, h, fun D0 w0 => steps1_value fun ρ bl a w hs hag hr => ?_⟩
          obtain ⟨b, c, e1, e2⟩ := hev _ _ _ _ hr
          exact ⟨.bool true, by simp [execOp, hx, e1, e2, eqGuard, binOp, run], rfl⟩
        · exact h.elim
      · exact h.elim
    · exact h.elim
  case h_9 op T x hx =>
    split at h
    · rename_i b h1
      refine ⟨_, h, fun D0 w0 => steps1_value fun ρ bl a w hs hag hr => ?_⟩
      have e1 := hr x (by rw [hx]; simp [Op.operands])
      rw [h1] at e1
      exact ⟨.bool (!b), by simp [execOp, hx, show a.eval x = .bool b from e1, Op.unary], rfl⟩
    · rename_i k n h1
      refine ⟨_, h, fun D0 w0 => steps1_value fun ρ bl a w hs hag hr => ?_⟩
      have e1 := hr x (by rw [hx]; simp [Op.operands])
      rw [h1] at e1
      exact ⟨.int k (k.wrap (-n)), by simp [execOp, hx, show a.eval x = .int k n from e1, Op.unary, Op.intArith], rfl⟩
    · rename_i k n h1
      refine ⟨_, h, fun D0 w0 => steps1_value fun ρ bl a w hs hag hr => ?_⟩
      have e1 := hr x (by rw [hx]; simp [Op.operands])
      rw [h1] at e1
      exact ⟨.int k (k.wrap (BitVec.ofInt k.bits (if k.signed then -1 else k.max) ^^^ BitVec.ofInt k.bits n).toNat), by simp [execOp, hx, show a.eval x = .int k n from e1, Op.unary, Op.intBits], rfl⟩
    · exact h.elim
  case h_10 S T x hx =>
    split at h
    · rename_i ts ti kk n hts hti h1
      split at h
      · rename_i k1 k h2 h3
        have hts := hE.ty _ _ hts
        have hti := hE.ty _ _ hti
        refine ⟨_, h, fun D0 w0 => steps1_value fun ρ bl a w hs hag hr => ?_⟩
        have e1 := hr x (by rw [hx]; simp [Op.operands])
        rw [h1] at e1
        exact ⟨.int k (k.wrap n), by simp [execOp, hx, show a.eval x = .int kk n from e1, convert, run_underlying (under_ik hts h2), run_underlying (under_ik hti h3), Conv.intToInt], rfl⟩
      · exact h.elim
    · exact h.elim
  case h_11 x i hx =>
    split at h
    · rename_i v hv
      refine ⟨_, h, fun D0 w0 => steps1_value fun ρ bl a w hs hag hr => ?_⟩
      have e1 := hr x (by rw [hx]; simp [Op.operands])
      cases hq : σ.ev x with
      | c y => rw [hq] at hv; simp [extractA] at hv
      | g l => rw [hq] at hv; simp [extractA] at hv
      | t2 p q =>
        rw [hq] at hv e1
        obtain ⟨y, z, e2, e3, e4⟩ := e1
        match i, hv with
        | 0, hv => simp [extractA] at hv; subst hv; exact ⟨y, by simp [execOp, hx, e2, Instr.extract], e3⟩
        | 1, hv => simp [extractA] at hv; subst hv; exact ⟨z, by simp [execOp, hx, e2, Instr.extract], e4⟩
        | _ + 2, hv => simp [extractA] at hv
      | t3 p q s =>
        rw [hq] at hv e1
        obtain ⟨y, z, u, e2, e3, e4, e5⟩ := e1
        match i, hv with
        | 0, hv => simp [extractA] at hv; subst hv; exact ⟨y, by simp [execOp, hx, e2, Instr.extract], e3⟩
        | 1, hv => simp [extractA] at hv; subst hv; exact ⟨z, by simp [execOp, hx, e2, Instr.extract], e4⟩
        | 2, hv => simp [extractA] at hv; subst hv; exact ⟨u, by simp [execOp, hx, e2, Instr.extract], e5⟩
        | _ + 3, hv => simp [extractA] at hv
      | t4 p q s t =>
        rw [hq] at hv e1
        obtain ⟨y, z, u, t', e2, e3, e4, e5, e6⟩ := e1
        match i, hv with
        | 0, hv => simp [extractA] at hv; subst hv; exact ⟨y, by simp [execOp, hx, e2, Instr.extract], e3⟩
        | 1, hv => simp [extractA] at hv; subst hv; exact ⟨z, by simp [execOp, hx, e2, Instr.extract], e4⟩
        | 2, hv => simp [extractA] at hv; subst hv; exact ⟨u, by simp [execOp, hx, e2, Instr.extract], e5⟩
        | 3, hv => simp [extractA] at hv; subst hv; exact ⟨t', by simp [execOp, hx, e2, Instr.extract], e6⟩
        | _ + 4, hv => simp [extractA] at hv
    · exact h.elim
  case h_13 args argTypes hx =>
    split at h
    · rename_i x T h1 h2
      split at h
      · rename_i ti n ht hn
        have ht := hE.ty _ _ ht
        obtain ⟨g0, h⟩ := chk_iff.1 h
        refine ⟨_, h, fun D0 w0 => steps1_value fun ρ bl a w hs hag hr => ?_⟩
        have e1 := hr x (arg_mem hx (by simp [h1]))
        have hn := lenA_congr (hag (by rw [hx]; rfl) x (arg_mem hx (by simp [h1]))) hn
        obtain ⟨A, c, e2, e3⟩ := len_rel hs hn e1
        obtain ⟨e, he⟩ := Option.isSome_iff_exists.1 g0
        refine ⟨.int .i64 n, ?_, rfl⟩
        have ha : args = #[x] := by rw [← Array.toList_inj]; simpa using h1
        have hT : argTypes = #[T] := by rw [← Array.toList_inj]; simpa using h2
        simp [execOp, hx, resolve, invoke, builtin, Builtin.len_, ha, hT, e2, run_underlying (under_elem ht he), goInt]
      · rename_i ti ht hn
        have ht := hE.ty _ _ ht
        split at h
        · rename_i n hs
          obtain ⟨g0, h⟩ := chk_iff.1 h
          refine ⟨_, h, fun D0 w0 => steps1_value fun ρ bl a w _ hag hr => ?_⟩
          have e1 := hr x (arg_mem hx (by simp [h1]))
          unfold strA at hs
          split at hs
          · rename_i s hv
            cases hs
            rw [hv] at e1
            have e2 : a.eval x = .string s := e1
            refine ⟨.int .i64 s.size, ?_, rfl⟩
            have ha : args = #[x] := by rw [← Array.toList_inj]; simpa using h1
            have hT : argTypes = #[T] := by rw [← Array.toList_inj]; simpa using h2
            simp [execOp, hx, resolve, invoke, builtin, Builtin.len_, ha, hT, e2, run_underlying (under_kd2 ht (by simpa using g0)), goInt]
          · cases hs
        · exact h.elim
      · exact h.elim
    · exact h.elim
  case h_14 args ts hx =>
    split at h
    · rename_i k a' k' b' h1
      refine ⟨_, h, fun D0 w0 => steps1_value fun ρ bl a w hs hag hr => ?_⟩
      obtain ⟨x, y, ha, hx1, hy1⟩ : ∃ x y, args.toList = [x, y] ∧ σ.ev x = .c (.int k a') ∧ σ.ev y = .c (.int k' b') := by
        match hh : args.toList, h1 with
        | [x, y], h1 => simp at h1; exact ⟨x, y, rfl, h1.1, h1.2⟩
        | [], h1 => simp at h1
        | [_], h1 => simp at h1
        | _ :: _ :: _ :: _, h1 => simp at h1
      have e1 := hr x (arg_mem hx (by simp [ha]))
      have e2 := hr y (arg_mem hx (by simp [ha]))
      rw [hx1] at e1
      rw [hy1] at e2
      refine ⟨.int k (if b' > a' then b' else a'), ?_, rfl⟩
      have ha' : args = #[x, y] := by rw [← Array.toList_inj]; simpa using ha
      simp [execOp, hx, resolve, invoke, builtin, Builtin.max_, Builtin.max2, ha', show a.eval x = .int k a' from e1, show a.eval y = .int k' b' from e2]
    · exact h.elim
  case h_15 args ts hx =>
    split at h
    · rename_i k a' k' b' h1
      refine ⟨_, h, fun D0 w0 => steps1_value fun ρ bl a w hs hag hr => ?_⟩
      obtain ⟨x, y, ha, hx1, hy1⟩ : ∃ x y, args.toList = [x, y] ∧ σ.ev x = .c (.int k a') ∧ σ.ev y = .c (.int k' b') := by
        match hh : args.toList, h1 with
        | [x, y], h1 => simp at h1; exact ⟨x, y, rfl, h1.1, h1.2⟩
        | [], h1 => simp at h1
        | [_], h1 => simp at h1
        | _ :: _ :: _ :: _, h1 => simp at h1
      have e1 := hr x (arg_mem hx (by simp [ha]))
      have e2 := hr y (arg_mem hx (by simp [ha]))
      rw [hx1] at e1
      rw [hy1] at e2
      refine ⟨.int k (if b' < a' then b' else a'), ?_, rfl⟩
      have ha' : args = #[x, y] := by rw [← Array.toList_inj]; simpa using ha
      simp [execOp, hx, resolve, invoke, builtin, Builtin.min_, Builtin.min2, ha', show a.eval x = .int k a' from e1, show a.eval y = .int k' b' from e2]
    · exact h.elim
  case h_16 g args ts hx =>
    split at h
    · rename_i f hf
      obtain ⟨hcl, X, ⟨hb, hok⟩, hK⟩ := chk_iff.1 h
      refine ⟨X, hK, fun D0 w0 ρ bl a w hs hag hr next Q hn => ?_⟩
      have hg := callee_eval hf (hr g (by rw [hx]; simp [Op.operands, Call.operands]))
      unfold Oper.wp
      rw [exec_call hx hg hb, Oper.upon_enter]
      have hcl2 : (args.toList.map fun x => St.close bl (σ.ev x)) = args.toList.map fun x => St.close σ.bl (σ.ev x) := List.map_congr_left fun x hxm => close_congr (hag (by rw [hx]; rfl) x (arg_mem hx hxm)) (List.all_eq_true.1 hcl _ (List.mem_map_of_mem hxm))
      have hvs : VRels (Dof D0 ρ bl) w [] (args.toList.map fun x => St.close σ.bl (σ.ev x)) (args.toList.map a.eval) := by
        rw [← hcl2] at hcl ⊢
        exact
        (VRels.map args.toList fun x hxm => close_rel hs (hr x (arg_mem hx hxm))).clos hcl
      have := hok (Dof D0 ρ bl) w _ (fun b hb => hs.lt hb) (fun hr b o d hD => hs.noU hr b o d hD) hvs
      rw [show (args.toList.map a.eval).toArray = args.map a.eval by rw [← Array.toList_map, Array.toArray_toList]] at this
      refine this.mono ?_
      rintro e w' ⟨v, rfl, hv, hb⟩
      exact hn v w' hb hv.nil_rho
    · split at h
      · rename_i f cs hf
        obtain ⟨hcl, X, ⟨hb, hok⟩, hK⟩ := chk_iff.1 h
        refine ⟨X, hK, fun D0 w0 ρ bl a w hs hag hr next Q hn => ?_⟩
        have hgm : g ∈ o.op.operands := by rw [hx]; simp [Op.operands, Call.operands]
        obtain ⟨⟨n, c, hev, hcs⟩, caps, hg, hcaps⟩ := caps_eval hf (hr g hgm)
        unfold Oper.wp
        rw [exec_callc hx hg hb, Oper.upon_enter]
        rw [List.all_append, Bool.and_eq_true] at hcl
        obtain ⟨hcla, hclc⟩ := hcl
        have hcl2 : (args.toList.map fun x => St.close bl (σ.ev x)) = args.toList.map fun x => St.close σ.bl (σ.ev x) := List.map_congr_left fun x hxm => close_congr (hag (by rw [hx]; rfl) x (arg_mem hx hxm)) (List.all_eq_true.1 hcla _ (List.mem_map_of_mem hxm))
        have hcc : cs.map (St.closeC bl) = cs.map (St.closeC σ.bl) := List.map_congr_left fun y hy => closeC_congr (fun k u hm => hag (by rw [hx]; rfl) g hgm k u (by
          rw [hev]
          rw [hcs] at hy
          obtain ⟨j, hj, rfl⟩ := List.mem_map.1 hy
          exact ⟨j, List.mem_range.1 hj, hm⟩)) (List.all_eq_true.1 hclc _ (List.mem_map_of_mem hy))
        have hvs : VRels (Dof D0 ρ bl) w [] (args.toList.map fun x => St.close σ.bl (σ.ev x)) (args.toList.map a.eval) := by
          rw [← hcl2] at hcla ⊢
          exact (VRels.map args.toList fun x hxm => close_rel hs (hr x (arg_mem hx hxm))).clos hcla
        have hvc : VRels (Dof D0 ρ bl) w [] (cs.map fun c => V.c (St.closeC σ.bl c)) caps.toList := by
          have h1 := closeCs_rel hs hcaps
          rw [hcc] at h1
          have h2 : (cs.map (St.closeC σ.bl)).all Cell.clos = true := by
            rw [List.all_eq_true] at hclc ⊢
            intro y hy
            obtain ⟨z, hz, rfl⟩ := List.mem_map.1 hy
            exact hclc _ (List.mem_map_of_mem hz)
          exact VRels.cells (h1.clos h2)
        have hvv := hvs.append hvc
        have := hok (Dof D0 ρ bl) w _ (fun b hb => hs.lt hb) (fun hr b o d hD => hs.noU hr b o d hD) hvv
        rw [show (args.toList.map a.eval ++ caps.toList).toArray = args.map a.eval ++ caps by
          rw [← Array.toList_map, ← Array.toList_append, Array.toArray_toList]] at this
        refine this.mono ?_
        rintro e w' ⟨v, rfl, hv, hb⟩
        exact hn v w' hb hv.nil_rho
      · exact h.elim
  case h_12 T x lo hi hx =>
    split at h
    · rename_i ti ht
      split at h
      · rename_i e he
        split at h
        · rename_i te hte
          have ht := hE.ty _ _ ht
          have hte := hE.ty _ _ hte
          obtain ⟨hsz, h⟩ := chk_iff.1 h
          have hsz : szA σ.bl (σ.ev x) = some te.size := by
            split at hsz
            · rename_i z hz
              rw [hz]; simpa using hsz
            · cases hsz
          have hu := under_elem ht he
          unfold sliceA at h
          split at h
          · rename_i l' h' hl hh
            obtain ⟨h0, h1, h⟩ := h
            have mlo : ∀ y, lo = some y → y ∈ o.op.operands := fun y hy => by rw [hx]; simp [Op.operands, hy]
            have mhi : ∀ y, hi = some y → y ∈ o.op.operands := fun y hy => by rw [hx]; simp [Op.operands, hy]
            have mx : x ∈ o.op.operands := by rw [hx]; simp [Op.operands]
            have hex : ∀ a : Act, execOp a.eval o = (do let z ← Instr.sliceAt T (a.eval x) (lo.map a.eval) (hi.map a.eval) none; pure (.value z)) := by
              intro a; unfold execOp; rw [hx]; rfl
            have key : ∀ (D0 : Nat → Prop) (w0 : Base) (ρ : List Loc) (bl : List Blk) (a : Act) (w : World) (A : Option Addr) (n c : Nat), (∀ x ∈ o.op.operands, VRel (Dof D0 ρ bl) w ρ (σ.ev x) (a.eval x)) → a.eval x = .slice A n c → lenA σ.bl (σ.ev x) = some n → h'.toNat ≤ n → n ≤ c →
                (execOp a.eval o).run E.P w = .ok (.value (.slice (if c = l'.toNat then A else A.map (·.add (l'.toNat * te.size))) (h'.toNat - l'.toNat) (c - l'.toNat))) w := by
              intro D0 w0 ρ bl a w A n c hr hev hn hle hnc
              have b1 := slice_bounds (a := a) hl h0 (fun y hy => hr y (mlo y hy))
              have b2 := slice_boundh (a := a) (n0 := n) (fun z hz => by rw [hn] at hz; simp at hz; omega) hh (by omega) (fun y hy => hr y (mhi y hy))
              rw [hex, hev]
              have := run_slice (P := E.P) hu hte (A := A) (n := n) (c := c) b1 b2 (by omega) (by omega) w
              rw [Sem.run_bind, this]
              rfl
            split at h
            · rename_i sz n f hv
              obtain ⟨g1, g2⟩ := h
              have hte' : sz = te.size := by rw [hv] at hsz; simpa [szA] using hsz
              refine ⟨_, g2, fun D0 w0 => steps1_value fun ρ bl a w hs hag hr => ?_⟩
              have hr' := hr x mx
              rw [hv] at hr'
              obtain ⟨A, c, e1, e2, e4⟩ := hr'
              refine ⟨_, key D0 w0 ρ bl a w A n c hr e1 (by rw [hv]; rfl) (by omega) e2, ⟨_, _, by rw [show (h' - l').toNat = h'.toNat - l'.toNat by omega], by omega, fun hn => ?_⟩⟩
              obtain ⟨b, o', hA, e5, e6, e7⟩ := e4 (by omega)
              refine ⟨b, o' + l'.toNat * te.size, slice_val (n := n) (h := h'.toNat) (fun _ => hA) (by omega) (by omega) e2 (by omega), e5, e6, fun i j hi hj => ?_⟩
              obtain ⟨y, hy, hyr⟩ := e7 (l'.toNat + i) j (by omega) hj
              exact ⟨y, by rw [← hy, hte', Nat.add_mul]; congr 2; omega, hyr⟩
            · rename_i k u hv
              split at h
              · rename_i B hB
                obtain ⟨g0, h⟩ := chk_iff.1 h
                simp only [Bool.and_eq_true, beq_iff_eq, Nat.ble_eq] at g0
                obtain ⟨g1, g2⟩ := g0
                obtain ⟨g3, g4⟩ := h
                have hte' : B.sz = te.size := by rw [hv] at hsz; simpa [szA, hB] using hsz
                refine ⟨_, g4, fun D0 w0 => steps1_value fun ρ bl a w hs hag hr => ?_⟩
                have hln0 : lenA σ.bl (σ.ev x) = some B.n := by rw [hv]; simp [lenA, hB, g1, g2]
                have hB := hag (by rw [hx]; rfl) x mx k u (by rw [hv]; exact ⟨rfl, rfl⟩) B hB (by omega) (by omega)
                have hr' := hr x mx
                rw [hv] at hr'
                have hln : lenA bl (σ.ev x) = some B.n := by rw [hv]; simp [lenA, hB, g1, g2]
                obtain ⟨A, c, e1, e2⟩ := len_rel hs (hv ▸ hln) hr'
                obtain ⟨l, hlk, hlu, hp⟩ := hr'
                have hln2 := loc_n hs hlk hB g2
                obtain ⟨q0, q1⟩ := hs.at_ k l B hlk hB g2
                refine ⟨_, key D0 w0 ρ bl a w A B.n c hr e1 hln0 (by omega) e2, ⟨l, hlk, hlu, fun _ => ⟨by omega, _, _, by rw [show (h' - l').toNat = h'.toNat - l'.toNat by omega], by omega, fun hn => ?_⟩⟩⟩
                have hp' := hp (by omega)
                rcases q1 with ⟨q1, _, _⟩ | ⟨b, cap, cs, q1, q2, q3, _⟩
                · omega
                · rw [q3, e1] at hp'
                  injection hp' with z1 z2 z3
                  refine ⟨b, q1, ?_⟩
                  have := slice_val (n := B.n) (h := h'.toNat) (c := c) (sz := te.size) (l := l'.toNat) (fun _ => z1) (by omega) (by omega) e2 (by omega)
                  rw [Nat.zero_add] at this
                  rw [hte']; exact this
              · exact h.elim
            · rename_i k u sz o' n hv
              split at h
              · rename_i B hB
                obtain ⟨g0, h⟩ := chk_iff.1 h
                simp only [Bool.and_eq_true, beq_iff_eq, Nat.ble_eq] at g0
                obtain ⟨g1, g2⟩ := g0
                obtain ⟨g3, g4⟩ := h
                have hte' : sz = te.size := by rw [hv] at hsz; simpa [szA] using hsz
                refine ⟨_, g4, fun D0 w0 => steps1_value fun ρ bl a w hs hag hr => ?_⟩
                have hln0 : lenA σ.bl (σ.ev x) = some n := by rw [hv]; simp [lenA, hB, g1, g2]
                have hB := hag (by rw [hx]; rfl) x mx k u (by rw [hv]; exact ⟨rfl, rfl⟩) B hB (by omega) (by omega)
                have hr' := hr x mx
                rw [hv] at hr'
                obtain ⟨l, hlk, hlu, hp⟩ := hr'
                have hlu' := loc_u hs hlk hB g2
                obtain ⟨hon, A, c, e1, e2, e4⟩ := hp (by omega)
                refine ⟨_, key D0 w0 ρ bl a w A n c hr e1 hln0 (by omega) e2, ⟨l, hlk, hlu, fun _ => ⟨by omega, _, _, by rw [show (h' - l').toNat = h'.toNat - l'.toNat by omega], by omega, fun hn => ?_⟩⟩⟩
                obtain ⟨b, q1, q2⟩ := e4 (by omega)
                refine ⟨b, q1, ?_⟩
                have := slice_val (n := n) (h := h'.toNat) (c := c) (sz := te.size) (l := l'.toNat) (fun _ => q2) (by omega) (by omega) e2 (by omega)
                rw [this, hte', Nat.add_mul]
              · exact h.elim
            · exact h.elim
          · exact h.elim
        · exact h.elim
      · exact h.elim
    · exact h.elim
  case h_17 T s ix hx =>
    split at h
    · rename_i ti kk n ht h1
      have ht := hE.ty _ _ ht
      obtain ⟨hk, h0, h⟩ := chk_iff.1 h
      have hu := under_kd2 ht (by simpa using hk)
      split at h
      · rename_i b hb
        refine ⟨_, h, fun D0 w0 => steps1_value fun ρ bl a w hs hag hr => ?_⟩
        have e1 := hr ix (by rw [hx]; simp [Op.operands])
        rw [h1] at e1
        have e1 : a.eval ix = .int kk n := e1
        have ec : a.eval (.const (.string s)) = .string s := rfl
        exact ⟨.int .u8 (b.toNat : Int), by simp [execOp, hx, e1, ec, Instr.index, asIntOf, run_underlying hu, h0, hb], rfl⟩
      · exact h.elim
    · exact h.elim
  case h_18 f first captured hx =>
    obtain ⟨hk, h⟩ := chk_iff.1 h
    refine ⟨_, h, fun D0 w0 => steps1_value fun ρ bl a w hs hag hr => ?_⟩
    have hf : first = #[] := by simpa using hk
    refine ⟨.func (.func f) #[] (captured.map a.eval), by simp [execOp, hx, Instr.makeFunc, hf], captured.map a.eval, rfl, by simp, fun j hj => ?_⟩
    refine ⟨a.eval captured[j], by simp [hj], ?_⟩
    have hc : captured.toList[j]? = some captured[j] := by simp [hj]
    unfold capC
    rw [hc]
    simp only
    have := hr captured[j] (by rw [hx]; simp [Op.operands, hf])
    split
    · rename_i c hcv
      rw [hcv] at this
      exact this
    · trivial
  case h_19 T x fld hx =>
    split at h
    · rename_i ti ht
      have ht := hE.ty _ _ ht
      split at h
      · rename_i off fsz l ho hv
        split at h
        · rename_i c hc
          obtain ⟨hk, h⟩ := chk_iff.1 h
          obtain ⟨fs, f, hu, hf, hof, hp⟩ := under_kd3 ht (by simpa using hk) ho
          refine ⟨_, h, fun D0 w0 => steps1_value fun ρ bl a w hs hag hr => ?_⟩
          have e1 := hr x (by rw [hx]; simp [Op.operands])
          rw [hv] at e1
          obtain ⟨vs, e2, e3⟩ := e1
          obtain ⟨y, hy, hyr⟩ := CRels.get e3 _ _ hc
          have hy' : vs[off]? = some y := by simpa using hy
          exact ⟨y, by simp [execOp, hx, e2, Instr.field, asAgg, part, run_underlying hu, hf, run_plain hp, hof, hy'], hyr⟩
        · exact h.elim
      · exact h.elim
    · exact h.elim
  case h_20 x hx =>
    split at h
    · rename_i k u sz i o' hv
      split at h
      · rename_i B hB
        obtain ⟨g0, g3⟩ := chk_iff.1 h
        simp only [Bool.and_eq_true, beq_iff_eq, Nat.ble_eq] at g0
        obtain ⟨g1, g2⟩ := g0
        refine ⟨_, g3, fun D0 w0 => steps1_value fun ρ bl a w hs hag hr => ?_⟩
        have hB := hag (by rw [hx]; rfl) x (by rw [hx]; simp [Op.operands]) k u (by rw [hv]; exact ⟨rfl, rfl⟩) B hB (by omega) (by omega)
        have hr' := hr x (by rw [hx]; simp [Op.operands])
        rw [hv] at hr'
        obtain ⟨l, hl, hu, hp⟩ := hr'
        have hlu := loc_u hs hl hB g2
        obtain ⟨hil, b, e1, e2⟩ := hp (by omega)
        exact ⟨.pointer (some ⟨b, i * sz + o', none⟩), by simp [execOp, hx, e2], ⟨l, hl, hu, fun _ => ⟨hil, b, e1, rfl⟩⟩⟩
      · exact h.elim
    · rename_i m f hv
      refine ⟨_, h, fun D0 w0 => steps1_value fun ρ bl a w hs hag hr => ?_⟩
      have hr' := hr x (by rw [hx]; simp [Op.operands])
      rw [hv] at hr'
      obtain ⟨b, o', e1, e2, e3, e4⟩ := hr'
      exact ⟨.pointer (some ⟨b, o', none⟩), by simp [execOp, hx, e1], ⟨b, o', rfl, e2, e3, e4⟩⟩
    · exact h.elim
  case h_21 => exact h.elim
end Go.Proofs.YtigciplaoikcfaaGreat
