/- A walk in pieces: behind each piece the state is told anew. -/
import Derived.Test.YtigciplaoikcfaaGreatAbsJ
namespace Go.Proofs.YtigciplaoikcfaaGreat
open Go.RowKit
/-- What the code does from every memory that reads as the state. -/
structure Swp (E : Env) (N : Nat) (c : Code) (σ : St) (R : Exit → St → Prop) : Prop where
  run : ∀ (C : Ctx) (a : Act) (w : World), C.r = E.r → C.ρ0.length ≤ E.m0 → C.N = N → Rel C σ a w → c.wp E.P (QR C R) a w
theorem swp_of {E : Env} (hE : EnvOK E) (hm : E.P.follows .mixedOrders = true) {N : Nat} {c : Code} {σ : St} {R : Exit → St → Prop} (hc : codeB N c = true) (h : awp E c σ R) : Swp E N c σ R :=
  ⟨fun C a w h1 h2 h3 hr => awp_sound (C := C) hE h1 h2 hm c (by rw [h3]; exact hc) h hr⟩
/-- A piece, and behind it the rest from a state that says less. -/
theorem swp_seq {E : Env} (hE : EnvOK E) (hm : E.P.follows .mixedOrders = true) {N : Nat} {x y : Code} {σ : St} {R : Exit → St → Prop} (hc : codeB N x = true) (h : awp E x σ (seqR (fun σ' => ∃ σ2, Weak E.m0 σ' σ2 ∧ Swp E N y σ2 R) R)) : Swp E N (.seq x y) σ R := by
  refine ⟨fun C a w h1 h2 h3 hr => ?_⟩
  refine wp_seq (wp_mono (awp_sound (C := C) hE h1 h2 hm x (by rw [h3]; exact hc) h hr) ?_)
  rintro e a' w' ⟨σ', hrel, hk⟩
  cases e with
  | normal =>
    obtain ⟨σ2, hw, hs⟩ := hk
    exact hs.run C a' w' h1 h2 h3 (hw C a' w' h2 hrel)
  | _ => exact ⟨σ', hrel, hk⟩
/-- The same with nothing forgotten. -/
theorem swp_seq0 {E : Env} (hE : EnvOK E) (hm : E.P.follows .mixedOrders = true) {N : Nat} {x y : Code} {σ : St} {R : Exit → St → Prop} (hc : codeB N x = true) (h : awp E x σ (seqR (fun σ' => Swp E N y σ' R) R)) : Swp E N (.seq x y) σ R := by
  refine ⟨fun C a w h1 h2 h3 hr => ?_⟩
  refine wp_seq (wp_mono (awp_sound (C := C) hE h1 h2 hm x (by rw [h3]; exact hc) h hr) ?_)
  rintro e a' w' ⟨σ', hrel, hk⟩
  cases e with
  | normal => exact hk.run C a' w' h1 h2 h3 hrel
  | _ => exact ⟨σ', hrel, hk⟩
/-- Both pieces in pieces. -/
theorem swp_seqS {E : Env} {N : Nat} {x y : Code} {σ : St} {R : Exit → St → Prop} (h : Swp E N x σ (seqR (fun σ' => Swp E N y σ' R) R)) : Swp E N (.seq x y) σ R := by
  refine ⟨fun C a w h1 h2 h3 hr => ?_⟩
  refine wp_seq (wp_mono (h.run C a w h1 h2 h3 hr) ?_)
  rintro e a' w' ⟨σ', hrel, hk⟩
  cases e with
  | normal => exact hk.run C a' w' h1 h2 h3 hrel
  | _ => exact ⟨σ', hrel, hk⟩
theorem swp_block {E : Env} {N id : Nat} {c : Code} {σ : St} {R : Exit → St → Prop} (h : Swp E N c σ (blockR id R)) : Swp E N (.block id c) σ R := by
  refine ⟨fun C a w h1 h2 h3 hr => ?_⟩
  refine wp_block (wp_mono (h.run C a w h1 h2 h3 hr) ?_)
  rintro e a' w' ⟨σ', hrel, hk⟩
  cases e with
  | exit i =>
    simp only [blockR] at hk
    simp only [Exit.inBlock]
    split
    · rename_i e; rw [if_pos e] at hk; exact ⟨σ', hrel, hk⟩
    · rename_i e; rw [if_neg e] at hk; exact ⟨σ', hrel, hk⟩
  | _ => exact ⟨σ', hrel, hk⟩
/-- A loop whose rounds are walked in pieces. -/
theorem swp_loop {E : Env} {N : Nat} {c : Code} {σ : St} {R : Exit → St → Prop} {α : Type} (S : α → St) (m : α → Nat) (I : α → Prop) (x0 : α) (h0 : Weak E.m0 σ (S x0)) (hI : I x0) (hr : ∀ x, I x → Swp E N c (S x) (seqR (fun σ2 => ∃ x', m x' < m x ∧ Weak E.m0 σ2 (S x') ∧ I x') R)) : Swp E N (.loop c) σ R := by
  refine ⟨fun C a w h1 h2 h3 hrel => ?_⟩
  refine wp_loop_ghost (fun n a w => ∃ x, n = m x ∧ I x ∧ Rel C (S x) a w) (m x0) ⟨x0, rfl, hI, h0 _ _ _ h2 hrel⟩ ?_
  rintro n a w ⟨x, rfl, hx, hrel⟩
  refine wp_mono ((hr x hx).run C a w h1 h2 h3 hrel) ?_
  rintro e a' w' ⟨σ2, hrel2, hk⟩
  cases e with
  | normal =>
    obtain ⟨x', hlt, hw, hI'⟩ := hk
    exact ⟨m x', hlt, x', rfl, hI', hw _ _ _ h2 hrel2⟩
  | _ => exact ⟨σ2, hrel2, hk⟩
/-- **The contract of a function, off a walk in pieces.** -/
theorem fn_okS {E : Env} (hE : EnvOK E) {f : FuncId} {fn : Func} {c : Code} {args : List V} {X : V} (hf : E.P.funcs[f]? = some fn) (hb : fn.body = some c) (hbd : hasBody E.P f = true)
    (h : Swp E fn.ntmps c ⟨frame0 args, []⟩ (retOK E fn.results.toList X)) : FnOK E.P E.r f args X := by
  refine ⟨hbd, ?_⟩
  intro D w vs hD hU hargs
  refine calls_of_wp hf hb ?_
  let C : Ctx := ⟨D, ⟨w, fun _ => False⟩, E.r, fn.ntmps, []⟩
  have hlen := hargs.length
  have hrel : Rel C ⟨frame0 args, []⟩ { tmps := vs.toArray ++ Array.replicate (fn.ntmps - vs.toArray.size) undef, defers := [] } w := by
    have hDof : ∀ b, Dof D [] [] b → D b := by
      rintro b (h | ⟨k, l, B, h1, _⟩)
      · exact h
      · simp at h1
    refine ⟨[], ⟨⟨rfl, rfl, rfl, Nat.le_refl _, fun _ _ _ => rfl⟩, fun b hb => ⟨hD b hb, id⟩, rfl, fun k l B h1 _ => by simp at h1, fun i j li lj Bi Bj b h1 => by simp at h1, fun hr b o d hb => hU hr b o d (hDof b hb)⟩, ⟨by simp [C]; omega, LocsLe.refl _⟩, rfl, fun t => ?_⟩
    have h1 := hargs.get t
    have h2 : VRel (Dof D [] []) w [] (args.getD t (.c .any)) (vs.getD t undef) := h1.step (Ext.refl _ _) (fun b _ hb => hDof b hb) (LocsLe.refl _)
    show VRel (Dof D [] []) w [] (args.getD t (.c .any)) _
    rcases Nat.lt_or_ge t vs.length with hlt | hge
    · have : (vs.toArray ++ Array.replicate (fn.ntmps - vs.toArray.size) undef).getD t undef = vs.getD t undef := by
        rw [Array.getD_eq_getD_getElem?, Array.getElem?_append_left (by simpa using hlt)]
        simp [List.getD]
      rw [this]; exact h2
    · rw [show args.getD t (V.c .any) = .c .any by rw [List.getD, List.getElem?_eq_none (by omega)]; rfl]
      trivial
  refine wp_mono (h.run C _ _ rfl (Nat.zero_le _) rfl hrel) ?_
  rintro e a w' ⟨σ, hr, hk⟩
  have fin : retOK E fn.results.toList X .ret σ → a.defers = [] ∧ ∃ v, (results fn a.tmps).run E.P w' = .ok v w' ∧ ∃ u, Ending.returned v = .returned u ∧ VRel D w' [] X u ∧ Below w.heap.size w w' := by
    intro hk
    obtain ⟨ρ, hs, hN, hdf, hfr⟩ := hr
    refine ⟨hdf, ?_⟩
    simp only [retOK] at hk
    split at hk
    · rename_i v hv
      obtain ⟨x, hx, hxr⟩ := ret_run hE hs hfr hv
      -- the result in a slot of its own
      let tm' : Nat → V := fun t => if t = a.tmps.size then v else σ.tm t
      let a' : Act := { a with tmps := a.tmps.push x }
      have hrel' : Rel C ⟨tm', σ.bl⟩ a' w' := by
        refine ⟨ρ, hs, ⟨by show _ ≤ (a.tmps.push x).size; have := hN.1; simp; omega, hN.2⟩, hdf, fun t => ?_⟩
        show VRel _ _ _ (if t = a.tmps.size then v else σ.tm t) ((a.tmps.push x).getD t undef)
        by_cases e : t = a.tmps.size
        · rw [if_pos e, e]; simpa [Array.getD] using hxr
        · rw [if_neg e]
          have : (a.tmps.push x).getD t undef = a.tmps.getD t undef := by
            rw [Array.getD_eq_getD_getElem?, Array.getD_eq_getD_getElem?, Array.getElem?_push]
            rw [if_neg e]
          rw [this]; exact hfr t
      have hk' := frzA_tm (tm := tm') (K' := fun σ' => closT (closeT σ'.bl v) = true ∧ Sub (closeT σ'.bl v) X) (partsV v) (fun bl h => h) hk
      obtain ⟨σ', ⟨h1, h2⟩, ⟨ρ', hs', _, _, hfr'⟩, htm⟩ := Rel.frzA hk' hrel'
      have h3 := hfr' a.tmps.size
      rw [htm] at h3
      have h4 : VRel (Dof D ρ' σ'.bl) w' ρ' v x := by
        have e1 : tm' a.tmps.size = v := by show (if a.tmps.size = a.tmps.size then v else _) = v; rw [if_pos rfl]
        have e2 : a'.tmps.getD a.tmps.size undef = x := by show (a.tmps.push x).getD a.tmps.size undef = x; simp [Array.getD]
        rw [← e1, ← e2]
        exact h3
      have h5 := closT_rel (ρ' := []) (closeT_rel hs' h4) h1
      exact ⟨x, hx, x, rfl, h2 D w' x (h5.step (Ext.refl _ _) (fun b _ hb => .inl hb) (LocsLe.refl _)), ⟨hs'.below.os, hs'.below.tape, hs'.below.output, hs'.below.size, fun k hk => hs'.below.block k hk id⟩⟩
    · exact hk.elim
  cases e with
  | normal => exact fin hk
  | ret => exact fin hk
  | exit i => exact hk.elim
  | goto l => exact hk.elim
  | panic ch => exact hk.elim
  | outgrown => exact hk.elim
/-- The end of a function that is handed blocks of its caller's. -/
def retS (E : Env) (rs : List ResultVar) (X : V) (m : Nat) (post : List Blk) (e : Exit) (σ : St) : Prop :=
  match e with
  | .normal | .ret => match retV E σ rs with
    | some v => Weak m ⟨asg [(0, v)], σ.bl⟩ ⟨asg [(0, X)], post⟩
    | none => False
  | _ => False
/-- **The contract of a function that is handed blocks of its caller's, off a walk in pieces.** -/
theorem fns_okS {E : Env} (hE : EnvOK E) {f : FuncId} {fn : Func} {c : Code} {args : List V} {X : V} {bl post : List Blk} (hf : E.P.funcs[f]? = some fn) (hb : fn.body = some c) (hbd : hasBody E.P f = true) (hm0 : E.m0 = bl.length)
    (h : Swp E fn.ntmps c ⟨frame0 args, bl⟩ (retS E fn.results.toList X bl.length post)) : FnS E.P E.r f bl args X post := by
  refine ⟨hbd, ?_⟩
  intro D w0 ρ w vs hs0 hargs
  refine calls_of_wp hf hb ?_
  let C : Ctx := ⟨D, w0, E.r, fn.ntmps, ρ⟩
  have hlen := hargs.length
  have hrl : ρ.length = bl.length := hs0.len
  have hrel : Rel C ⟨frame0 args, bl⟩ { tmps := vs.toArray ++ Array.replicate (fn.ntmps - vs.toArray.size) undef, defers := [] } w := by
    refine ⟨ρ, hs0, ⟨by simp [C]; omega, LocsLe.refl _⟩, rfl, fun t => ?_⟩
    have h2 := hargs.get t
    show VRel (Dof D ρ bl) w ρ (args.getD t (.c .any)) _
    rcases Nat.lt_or_ge t vs.length with hlt | hge
    · have : (vs.toArray ++ Array.replicate (fn.ntmps - vs.toArray.size) undef).getD t undef = vs.getD t undef := by
        rw [Array.getD_eq_getD_getElem?, Array.getElem?_append_left (by simpa using hlt)]
        simp [List.getD]
      rw [this]; exact h2
    · rw [show args.getD t (V.c .any) = .c .any by rw [List.getD, List.getElem?_eq_none (by omega)]; rfl]
      trivial
  refine wp_mono (h.run C _ _ rfl (by show ρ.length ≤ E.m0; omega) rfl hrel) ?_
  rintro e a w' ⟨σ, hr, hk⟩
  have fin : retS E fn.results.toList X bl.length post .ret σ → a.defers = [] ∧ ∃ v, (results fn a.tmps).run E.P w' = .ok v w' ∧ ∃ u ρ', Ending.returned v = .returned u ∧ Sat D w0 E.r ρ' post w' ∧ LocsLe ρ ρ' ∧ VRel (Dof D ρ' post) w' ρ' X u := by
    intro hk
    obtain ⟨ρ1, hs, hN, hdf, hfr⟩ := hr
    refine ⟨hdf, ?_⟩
    simp only [retS] at hk
    split at hk
    · rename_i v hv
      obtain ⟨x, hx, hxr⟩ := ret_run hE hs hfr hv
      have hrel' : Rel ⟨D, w0, E.r, 0, ρ⟩ ⟨asg [(0, v)], σ.bl⟩ ⟨#[x], []⟩ w' := by
        refine ⟨ρ1, hs, ⟨Nat.zero_le _, hN.2⟩, rfl, fun t => ?_⟩
        show VRel _ _ _ (if t = 0 then v else .c .any) _
        split
        · rename_i e; subst e; exact hxr
        · trivial
      obtain ⟨ρ2, hs2, hN2, _, hf2⟩ := hk ⟨D, w0, E.r, 0, ρ⟩ _ _ (by show ρ.length ≤ bl.length; omega) hrel'
      exact ⟨x, hx, x, ρ2, rfl, hs2, hN2.2, hf2 0⟩
    · exact hk.elim
  cases e with
  | normal => exact fin hk
  | ret => exact fin hk
  | exit i => exact hk.elim
  | goto l => exact hk.elim
  | panic ch => exact hk.elim
  | outgrown => exact hk.elim
end Go.Proofs.YtigciplaoikcfaaGreat
