/- A function's contract, off its code through abstract states. -/
import Derived.Test.YtigciplaoikcfaaGreatAbsI
namespace Go.Proofs.YtigciplaoikcfaaGreat
open Go.RowKit
def resOf (E : Env) (σ : St) : ResultVar → Option V
  | .tmp t => some (σ.tm t)
  | .cell a T => match E.ty T with
    | some ti => match σ.tm a with
      | .c (.p k u sz i o) => match σ.bl[k]? with
        | some B => if (ti.agg || ti.size == 1) && (B.u == u && (B.sz == sz && (B.st.ble 1 && (o + ti.size).ble sz))) then some (ofCells ti.agg ((List.range ti.size).map fun j => B.f i (o + j))) else none
        | none => none
      | _ => none
    | none => none
def retV (E : Env) (σ : St) : List ResultVar → Option V
  | [] => some (.c .any)
  | [a] => resOf E σ a
  | [a, b] => match resOf E σ a, resOf E σ b with
    | some x, some y => some (.t2 x y)
    | _, _ => none
  | [a, b, c] => match resOf E σ a, resOf E σ b, resOf E σ c with
    | some x, some y, some z => some (.t3 x y z)
    | _, _, _ => none
  | [a, b, c, d] => match resOf E σ a, resOf E σ b, resOf E σ c, resOf E σ d with
    | some x, some y, some z, some u => some (.t4 x y z u)
    | _, _, _, _ => none
  | _ => none
def closeT (bl : List Blk) : V → V
  | .t2 a b => .t2 (closeT bl a) (closeT bl b)
  | .t3 a b d => .t3 (closeT bl a) (closeT bl b) (closeT bl d)
  | .t4 a b d e => .t4 (closeT bl a) (closeT bl b) (closeT bl d) (closeT bl e)
  | x => St.close bl x
def closT : V → Bool
  | .t2 a b => closT a && closT b
  | .t3 a b d => closT a && (closT b && closT d)
  | .t4 a b d e => closT a && (closT b && (closT d && closT e))
  | x => x.clos
/-- What reads as the one reads as the other. -/
def Sub (x y : V) : Prop := ∀ D w v, VRel D w [] x v → VRel D w [] y v
theorem Sub.refl (x : V) : Sub x x := fun _ _ _ h => h
theorem closeT_rel {D0 : Nat → Prop} {w0 : Base} {w : World} {r : Bool} {ρ : List Loc} {bl : List Blk} (h : Sat D0 w0 r ρ bl w) : ∀ {x : V} {v : Value}, VRel (Dof D0 ρ bl) w ρ x v → VRel (Dof D0 ρ bl) w ρ (closeT bl x) v
  | .c _, _, hx => close_rel h hx
  | .g _, _, hx => close_rel h hx
  | .t2 _ _, _, hx => by obtain ⟨x, y, h1, h2, h3⟩ := hx; exact ⟨x, y, h1, closeT_rel h h2, closeT_rel h h3⟩
  | .t3 _ _ _, _, hx => by obtain ⟨x, y, z, h1, h2, h3, h4⟩ := hx; exact ⟨x, y, z, h1, closeT_rel h h2, closeT_rel h h3, closeT_rel h h4⟩
  | .t4 _ _ _ _, _, hx => by obtain ⟨x, y, z, u, h1, h2, h3, h4, h5⟩ := hx; exact ⟨x, y, z, u, h1, closeT_rel h h2, closeT_rel h h3, closeT_rel h h4, closeT_rel h h5⟩
theorem closT_rel {D : Nat → Prop} {w : World} {ρ ρ' : List Loc} : ∀ {x : V} {v : Value}, VRel D w ρ x v → closT x = true → VRel D w ρ' x v
  | .c _, _, hx, hc => VRel.clos hx hc
  | .g _, _, hx, hc => VRel.clos hx hc
  | .t2 _ _, _, hx, hc => by
    simp only [closT, Bool.and_eq_true] at hc
    obtain ⟨x, y, h1, h2, h3⟩ := hx; exact ⟨x, y, h1, closT_rel h2 hc.1, closT_rel h3 hc.2⟩
  | .t3 _ _ _, _, hx, hc => by
    simp only [closT, Bool.and_eq_true] at hc
    obtain ⟨x, y, z, h1, h2, h3, h4⟩ := hx; exact ⟨x, y, z, h1, closT_rel h2 hc.1, closT_rel h3 hc.2.1, closT_rel h4 hc.2.2⟩
  | .t4 _ _ _ _, _, hx, hc => by
    simp only [closT, Bool.and_eq_true] at hc
    obtain ⟨x, y, z, u, h1, h2, h3, h4, h5⟩ := hx; exact ⟨x, y, z, u, h1, closT_rel h2 hc.1, closT_rel h3 hc.2.1, closT_rel h4 hc.2.2.1, closT_rel h5 hc.2.2.2⟩
/-- The function's end: what it hands back reads as X. -/
def retOK (E : Env) (rs : List ResultVar) (X : V) (e : Exit) (σ : St) : Prop :=
  match e with
  | .normal | .ret => match retV E σ rs with
    | some v => frzA (partsV v) σ fun σ' => closT (closeT σ'.bl v) = true ∧ Sub (closeT σ'.bl v) X
    | none => False
  | _ => False
theorem frz1_tm {σ : St} {tm : Nat → V} {x : V} {K K' : St → Prop} (hK : ∀ bl, K ⟨σ.tm, bl⟩ → K' ⟨tm, bl⟩) (h : frz1 σ x K) : frz1 ⟨tm, σ.bl⟩ x K' := by
  have key : ∀ k, (match σ.bl[k]? with
    | some B => (B.st = 0 → (∀ i j, i < B.n → j < B.sz → (B.f i j).clos = true) ∧ K { σ with bl := σ.bl.set k { B with st := 1 } }) ∧ (B.st ≠ 0 → K σ)
    | none => K σ) → (match σ.bl[k]? with
    | some B => (B.st = 0 → (∀ i j, i < B.n → j < B.sz → (B.f i j).clos = true) ∧ K' { tm := tm, bl := σ.bl.set k { B with st := 1 } }) ∧ (B.st ≠ 0 → K' ⟨tm, σ.bl⟩)
    | none => K' ⟨tm, σ.bl⟩) := by
    intro k h
    split at h
    · exact ⟨fun hz => ⟨(h.1 hz).1, hK _ (h.1 hz).2⟩, fun hz => hK _ (h.2 hz)⟩
    · exact hK _ h
  unfold Go.Proofs.YtigciplaoikcfaaGreat.frz1 at h ⊢
  split at h
  · exact Eq.mpr (frz1_eq ⟨tm, σ.bl⟩ _ K') (key _ (Eq.mp (frz1_eq σ _ K) h))
  · exact Eq.mpr (frz1_eq ⟨tm, σ.bl⟩ _ K') (key _ (Eq.mp (frz1_eq σ _ K) h))
  · exact Eq.mpr (frz1_eq ⟨tm, σ.bl⟩ _ K') (key _ (Eq.mp (frz1_eq σ _ K) h))
  · exact hK _ h
theorem frzA_tm {tm : Nat → V} : ∀ (l : List V) {σ : St} {K K' : St → Prop}, (∀ bl, K ⟨σ.tm, bl⟩ → K' ⟨tm, bl⟩) → frzA l σ K → frzA l ⟨tm, σ.bl⟩ K'
  | [], _, _, _, hK, h => hK _ h
  | _ :: l, σ, _, _, hK, h => frz1_tm (fun bl h' => frzA_tm l (σ := ⟨σ.tm, bl⟩) hK h') h
def resRun (a : Act) : ResultVar → Sem Value
  | .tmp t => pure (a.tmps.getD t undef)
  | .cell b t => do loadVar t (← asAddr (a.tmps.getD b undef))
theorem results_eq (fn : Func) (a : Act) : results fn a.tmps = (do let vs ← fn.results.mapM (resRun a); pure (if h : vs.size = 1 then vs[0] else .tuple vs)) := rfl
theorem res_run {E : Env} (hE : EnvOK E) {D0 : Nat → Prop} {w0 : Base} {w : World} {r : Bool} {ρ : List Loc} {σ : St} {a : Act} (hs : Sat D0 w0 r ρ σ.bl w) (hf : ∀ t, VRel (Dof D0 ρ σ.bl) w ρ (σ.tm t) (a.tmps.getD t undef)) {rv : ResultVar} {v : V} (h : resOf E σ rv = some v) :
    ∃ x, (resRun a rv).run E.P w = .ok x w ∧ VRel (Dof D0 ρ σ.bl) w ρ v x := by
  cases rv with
  | tmp t => simp only [resOf] at h; cases h; exact ⟨_, rfl, hf t⟩
  | cell b T =>
    simp only [resOf] at h
    split at h
    · rename_i ti ht
      split at h
      · rename_i k u sz i o hv
        split at h
        · rename_i B hB
          split at h
          · rename_i hc
            simp only [Bool.and_eq_true, Bool.or_eq_true, beq_iff_eq, Nat.ble_eq] at hc
            cases h
            have ht := hE.ty _ _ ht
            obtain ⟨h1, h2, h3, h4, h6⟩ := hc
            have e1 := hf b
            rw [hv] at e1
            obtain ⟨x, hx, hxr⟩ := load_p hs ht h1 hB h2 h3 h4 h6 e1
            obtain ⟨l, hl, hu, hp⟩ := e1
            obtain ⟨_, b', e2, e3⟩ := hp (by have := loc_u hs hl hB (by omega); omega)
            refine ⟨x, ?_, hxr⟩
            rw [e3] at hx
            show (do loadVar T (← asAddr (a.tmps.getD b undef)) : Sem Value).run E.P w = .ok x w
            rw [e3]
            simpa [Instr.loadAt, Instr.sureAddr, asAddr] using hx
          · cases h
        · cases h
      · cases h
    · cases h
theorem ret_run {E : Env} (hE : EnvOK E) {fn : Func} {D0 : Nat → Prop} {w0 : Base} {w : World} {r : Bool} {ρ : List Loc} {σ : St} {a : Act} (hs : Sat D0 w0 r ρ σ.bl w) (hf : ∀ t, VRel (Dof D0 ρ σ.bl) w ρ (σ.tm t) (a.tmps.getD t undef)) {v : V} (h : retV E σ fn.results.toList = some v) :
    ∃ x, (results fn a.tmps).run E.P w = .ok x w ∧ VRel (Dof D0 ρ σ.bl) w ρ v x := by
  have key : ∀ rs : List ResultVar, fn.results.toList = rs → ∃ x, (results fn a.tmps).run E.P w = .ok x w ∧ VRel (Dof D0 ρ σ.bl) w ρ v x := by
    intro rs hrs
    rw [hrs] at h
    have hr : fn.results = rs.toArray := by rw [← hrs]
    have hm : results fn a.tmps = (do let vs ← Functor.map List.toArray (rs.mapM (resRun a)); pure (if h : vs.size = 1 then vs[0] else .tuple vs)) := by
      rw [results_eq, hr, Array.mapM_eq_mapM_toList]
    match rs, h, hm with
    | [], h, hm => simp only [retV] at h; cases h; exact ⟨.tuple #[], by rw [hm]; simp, trivial⟩
    | [p], h, hm =>
      simp only [retV] at h
      obtain ⟨x, h1, h2⟩ := res_run hE hs hf h
      exact ⟨x, by rw [hm]; simp [List.mapM_cons, h1], h2⟩
    | [p, q], h, hm =>
      simp only [retV] at h
      split at h
      · rename_i v1 v2 hv1 hv2
        cases h
        obtain ⟨x, h1, h2⟩ := res_run hE hs hf hv1
        obtain ⟨y, h3, h4⟩ := res_run hE hs hf hv2
        exact ⟨.tuple #[x, y], by rw [hm]; simp [List.mapM_cons, h1, h3, Result.andThen], x, y, rfl, h2, h4⟩
      · cases h
    | [p, q, s], h, hm =>
      simp only [retV] at h
      split at h
      · rename_i v1 v2 v3 hv1 hv2 hv3
        cases h
        obtain ⟨x, h1, h2⟩ := res_run hE hs hf hv1
        obtain ⟨y, h3, h4⟩ := res_run hE hs hf hv2
        obtain ⟨z, h5, h6⟩ := res_run hE hs hf hv3
        exact ⟨.tuple #[x, y, z], by rw [hm]; simp [List.mapM_cons, h1, h3, h5, Result.andThen], x, y, z, rfl, h2, h4, h6⟩
      · cases h
    | [p, q, s, t], h, hm =>
      simp only [retV] at h
      split at h
      · rename_i v1 v2 v3 v4 hv1 hv2 hv3 hv4
        cases h
        obtain ⟨x, h1, h2⟩ := res_run hE hs hf hv1
        obtain ⟨y, h3, h4⟩ := res_run hE hs hf hv2
        obtain ⟨z, h5, h6⟩ := res_run hE hs hf hv3
        obtain ⟨u, h7, h8⟩ := res_run hE hs hf hv4
        exact ⟨.tuple #[x, y, z, u], by rw [hm]; simp [List.mapM_cons, h1, h3, h5, h7, Result.andThen], x, y, z, u, rfl, h2, h4, h6, h8⟩
      · cases h
    | _ :: _ :: _ :: _ :: _ :: _, h, _ => simp [retV] at h
  exact key _ rfl
theorem VRels.get {D : Nat → Prop} {w : World} {ρ : List Loc} : ∀ {l : List V} {vs : List Value}, VRels D w ρ l vs → ∀ t : Nat, VRel D w ρ (l.getD t (.c .any)) (vs.getD t undef)
  | [], [], _, t => by simp [VRel, CRel]
  | _ :: _, _ :: _, h, 0 => h.1
  | _ :: _, _ :: _, h, t + 1 => by simpa using VRels.get h.2 t
  | [], _ :: _, h, _ => h.elim
  | _ :: _, [], h, _ => h.elim
theorem VRels.length {D : Nat → Prop} {w : World} {ρ : List Loc} : ∀ {l : List V} {vs : List Value}, VRels D w ρ l vs → l.length = vs.length
  | [], [], _ => rfl
  | _ :: _, _ :: _, h => by simp [VRels.length h.2]
  | [], _ :: _, h => h.elim
  | _ :: _, [], h => h.elim
def frame0 (args : List V) (t : Nat) : V := args.getD t (.c .any)
/-- **The contract of a function, off its code.** -/
theorem fn_ok {E : Env} (hE : EnvOK E) {f : FuncId} {fn : Func} {c : Code} {args : List V} {X : V} (hf : E.P.funcs[f]? = some fn) (hb : fn.body = some c) (hm : E.P.follows .mixedOrders = true) (hc : codeB fn.ntmps c = true) (hbd : hasBody E.P f = true)
    (h : awp E c ⟨frame0 args, []⟩ (retOK E fn.results.toList X)) : FnOK E.P E.r f args X := by
  refine ⟨hbd, ?_⟩
  intro D w vs hD hU hargs
  refine calls_of_wp hf hb ?_
  let C : Ctx := ⟨D, ⟨w, fun _ => False⟩, E.r, fn.ntmps, []⟩
  have hlen := hargs.length
  have hrel : Rel C ⟨frame0 args, []⟩ { tmps := vs.toArray ++ Array.replicate (fn.ntmps - vs.toArray.size) undef, defers := [] } w := by
    have hDof : ∀ b, Dof D [] [] b → D b := by
      rintro b (h | ⟨k, l, B, h1, _⟩)
      · exact h
      · simp at h1
    refine ⟨[], ⟨⟨rfl, rfl, rfl, Nat.le_refl _, fun _ _ _ => rfl⟩, fun b hb => ⟨hD b hb, id⟩, rfl, fun k l B h1 _ => by simp at h1, fun i j li lj Bi Bj b h1 => by simp at h1, fun hr b o d hb => hU hr b o d (hDof b hb)⟩, ⟨by simp [C]; omega, LocsLe.refl _⟩, rfl, fun t => ?_⟩
    have h1 := hargs.get t
    have h2 : VRel (Dof D [] []) w [] (args.getD t (.c .any)) (vs.getD t undef) := h1.step (Ext.refl _ _) (fun b _ hb => hDof b hb) (LocsLe.refl _)
    show VRel (Dof D [] []) w [] (args.getD t (.c .any)) _
    rcases Nat.lt_or_ge t vs.length with hlt | hge
    · have : (vs.toArray ++ Array.replicate (fn.ntmps - vs.toArray.size) undef).getD t undef = vs.getD t undef := by
        rw [Array.getD_eq_getD_getElem?, Array.getElem?_append_left (by simpa using hlt)]
        simp [List.getD]
      rw [this]; exact h2
    · rw [show args.getD t (V.c .any) = .c .any by rw [List.getD, List.getElem?_eq_none (by omega)]; rfl]
      trivial
  refine wp_mono (awp_sound (C := C) hE rfl (Nat.zero_le _) hm c hc h hrel) ?_
  rintro e a w' ⟨σ, hr, hk⟩
  have fin : retOK E fn.results.toList X .ret σ → a.defers = [] ∧ ∃ v, (results fn a.tmps).run E.P w' = .ok v w' ∧ ∃ u, Ending.returned v = .returned u ∧ VRel D w' [] X u ∧ Below w.heap.size w w' := by
    intro hk
    obtain ⟨ρ, hs, hN, hdf, hfr⟩ := hr
    refine ⟨hdf, ?_⟩
    simp only [retOK] at hk
    split at hk
    · rename_i v hv
      obtain ⟨x, hx, hxr⟩ := ret_run hE hs hfr hv
      -- the result in a slot of its own
      let tm' : Nat → V := fun t => if t = a.tmps.size then v else σ.tm t
      let a' : Act := { a with tmps := a.tmps.push x }
      have hrel' : Rel C ⟨tm', σ.bl⟩ a' w' := by
        refine ⟨ρ, hs, ⟨by show _ ≤ (a.tmps.push x).size; have := hN.1; simp; omega, hN.2⟩, hdf, fun t => ?_⟩
        show VRel _ _ _ (if t = a.tmps.size then v else σ.tm t) ((a.tmps.push x).getD t undef)
        by_cases e : t = a.tmps.size
        · rw [if_pos e, e]; simpa [Array.getD] using hxr
        · rw [if_neg e]
          have : (a.tmps.push x).getD t undef = a.tmps.getD t undef := by
            rw [Array.getD_eq_getD_getElem?, Array.getD_eq_getD_getElem?, Array.getElem?_push]
            rw [if_neg e]
          rw [this]; exact hfr t
      have hk' := frzA_tm (tm := tm') (K' := fun σ' => closT (closeT σ'.bl v) = true ∧ Sub (closeT σ'.bl v) X) (partsV v) (fun bl h => h) hk
      obtain ⟨σ', ⟨h1, h2⟩, ⟨ρ', hs', _, _, hfr'⟩, htm⟩ := Rel.frzA hk' hrel'
      have h3 := hfr' a.tmps.size
      rw [htm] at h3
      have h4 : VRel (Dof D ρ' σ'.bl) w' ρ' v x := by
        have e1 : tm' a.tmps.size = v := by show (if a.tmps.size = a.tmps.size then v else _) = v; rw [if_pos rfl]
        have e2 : a'.tmps.getD a.tmps.size undef = x := by show (a.tmps.push x).getD a.tmps.size undef = x; simp [Array.getD]
        rw [← e1, ← e2]
        exact h3
      have h5 := closT_rel (ρ' := []) (closeT_rel hs' h4) h1
      exact ⟨x, hx, x, rfl, h2 D w' x (h5.step (Ext.refl _ _) (fun b _ hb => .inl hb) (LocsLe.refl _)), ⟨hs'.below.os, hs'.below.tape, hs'.below.output, hs'.below.size, fun k hk => hs'.below.block k hk id⟩⟩
    · exact hk.elim
  cases e with
  | normal => exact fin hk
  | ret => exact fin hk
  | exit i => exact hk.elim
  | goto l => exact hk.elim
  | panic ch => exact hk.elim
  | outgrown => exact hk.elim
/-- The end of a function that may write a block. -/
def retM (E : Env) (rs : List ResultVar) (X : V) (post : List Blk) (e : Exit) (σ : St) : Prop :=
  match e with
  | .normal | .ret => match retV E σ rs with
    | some v => Weak 1 ⟨asg [(0, v)], σ.bl⟩ ⟨asg [(0, X)], post⟩
    | none => False
  | _ => False
/-- **The contract of a function that may write a block, off its code.** -/
theorem fnm_ok {E : Env} (hE : EnvOK E) {f : FuncId} {fn : Func} {c : Code} {args : List V} {X : V} {B B' : Blk} {fresh : List Blk} (hf : E.P.funcs[f]? = some fn) (hb : fn.body = some c) (hm : E.P.follows .mixedOrders = true) (hc : codeB fn.ntmps c = true) (hbd : hasBody E.P f = true) (hm0 : E.m0 = 1)
    (h : awp E c ⟨frame0 args, [B]⟩ (retM E fn.results.toList X (B' :: fresh))) : FnM E.P E.r f B args X B' fresh := by
  refine ⟨hbd, ?_⟩
  intro D w0 l w vs hs0 hargs
  refine calls_of_wp hf hb ?_
  let C : Ctx := ⟨D, w0, E.r, fn.ntmps, [l]⟩
  have hlen := hargs.length
  have hrel : Rel C ⟨frame0 args, [B]⟩ { tmps := vs.toArray ++ Array.replicate (fn.ntmps - vs.toArray.size) undef, defers := [] } w := by
    refine ⟨[l], hs0, ⟨by simp [C]; omega, LocsLe.refl _⟩, rfl, fun t => ?_⟩
    have h2 := hargs.get t
    show VRel (Dof D [l] [B]) w [l] (args.getD t (.c .any)) _
    rcases Nat.lt_or_ge t vs.length with hlt | hge
    · have : (vs.toArray ++ Array.replicate (fn.ntmps - vs.toArray.size) undef).getD t undef = vs.getD t undef := by
        rw [Array.getD_eq_getD_getElem?, Array.getElem?_append_left (by simpa using hlt)]
        simp [List.getD]
      rw [this]; exact h2
    · rw [show args.getD t (V.c .any) = .c .any by rw [List.getD, List.getElem?_eq_none (by omega)]; rfl]
      trivial
  refine wp_mono (awp_sound (C := C) hE rfl (by rw [hm0]; exact Nat.le_refl 1) hm c hc h hrel) ?_
  rintro e a w' ⟨σ, hr, hk⟩
  have fin : retM E fn.results.toList X (B' :: fresh) .ret σ → a.defers = [] ∧ ∃ v, (results fn a.tmps).run E.P w' = .ok v w' ∧ ∃ u l' ρ', Ending.returned v = .returned u ∧ Sat D w0 E.r (l' :: ρ') (B' :: fresh) w' ∧ LocsLe [l] [l'] ∧ VRel (Dof D (l' :: ρ') (B' :: fresh)) w' (l' :: ρ') X u := by
    intro hk
    obtain ⟨ρ, hs, hN, hdf, hfr⟩ := hr
    refine ⟨hdf, ?_⟩
    simp only [retM] at hk
    split at hk
    · rename_i v hv
      obtain ⟨x, hx, hxr⟩ := ret_run hE hs hfr hv
      have hrel' : Rel ⟨D, w0, E.r, 0, [l]⟩ ⟨asg [(0, v)], σ.bl⟩ ⟨#[x], []⟩ w' := by
        refine ⟨ρ, hs, ⟨Nat.zero_le _, hN.2⟩, rfl, fun t => ?_⟩
        show VRel _ _ _ (if t = 0 then v else .c .any) _
        split
        · rename_i e; subst e; exact hxr
        · trivial
      obtain ⟨ρ2, hs2, hN2, _, hf2⟩ := hk ⟨D, w0, E.r, 0, [l]⟩ _ _ (Nat.le_refl 1) hrel'
      have h3 : VRel (Dof D ρ2 (B' :: fresh)) w' ρ2 X x := hf2 0
      match ρ2, hs2, hN2, h3 with
      | [], hs2, _, _ => have := hs2.len; simp at this
      | l' :: ρ', hs2, hN2, h3 =>
        refine ⟨x, hx, x, l', ρ', rfl, hs2, fun i li hi => ?_, h3⟩
        cases i with
        | zero =>
          obtain ⟨l2, e1, e2⟩ := hN2.2 0 li hi
          exact ⟨l2, by simpa using e1, e2⟩
        | succ i => simp at hi
    · exact hk.elim
  cases e with
  | normal => exact fin hk
  | ret => exact fin hk
  | exit i => exact hk.elim
  | goto l => exact hk.elim
  | panic ch => exact hk.elim
  | outgrown => exact hk.elim
end Go.Proofs.YtigciplaoikcfaaGreat
