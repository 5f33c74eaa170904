/- A walk in pieces: behind each piece the state is told anew. -/
import Derived.Test.YtmbejakmeijcbaaGreatZt5
import Derived.Test.YtmbejakmeijcbaaGreatZt9
namespace Go.Proofs.YtmbejakmeijcbaaGreat
open Go.RowKit
structure Swp (E : Env) (N : Nat) (c : Code) (σ : St) (R : Exit → St → Prop) : Prop where
 run : ∀ (C : Ctx) (a : Act) (w : World), C.r = E.r → C.ρ0.length ≤ E.m0 → C.N = N → Rel C σ a w → c.wp E.P (QR C R) a w
theorem swp_of {E : Env} (hE : EnvOK E) (hm : E.P.follows .mixedOrders = true) {N : Nat} {c : Code} {σ : St} {R : Exit → St → Prop} (hc : codeB N c = true) (h : awp E c σ R) : Swp E N c σ R :=
 ⟨fun C a w h1 h2 h3 hr => awp_sound (C := C) hE h1 h2 hm c (by rw [h3]; exact hc) h hr⟩
theorem swp_seq {E : Env} (hE : EnvOK E) (hm : E.P.follows .mixedOrders = true) {N : Nat} {x y : Code} {σ : St} {R : Exit → St → Prop} (hc : codeB N x = true) (h : awp E x σ (seqR (fun σ' => ∃ σ2, Weak E.m0 σ' σ2 ∧ Swp E N y σ2 R) R)) : Swp E N (.seq x y) σ R := by
 refine ⟨fun C a w h1 h2 h3 hr => ?_⟩
 refine wp_seq (wp_mono (awp_sound (C := C) hE h1 h2 hm x (by rw [h3]; exact hc) h hr) ?_)
 rintro e a' w' ⟨σ', hrel, hk⟩
 cases e with
 | normal =>
  obtain ⟨σ2, hw, hs⟩ := hk
  exact hs.run C a' w' h1 h2 h3 (hw C a' w' h2 hrel)
 | _ => exact ⟨σ', hrel, hk⟩
theorem swp_seq0 {E : Env} (hE : EnvOK E) (hm : E.P.follows .mixedOrders = true) {N : Nat} {x y : Code} {σ : St} {R : Exit → St → Prop} (hc : codeB N x = true) (h : awp E x σ (seqR (fun σ' => Swp E N y σ' R) R)) : Swp E N (.seq x y) σ R := by
 refine ⟨fun C a w h1 h2 h3 hr => ?_⟩
 refine wp_seq (wp_mono (awp_sound (C := C) hE h1 h2 hm x (by rw [h3]; exact hc) h hr) ?_)
 rintro e a' w' ⟨σ', hrel, hk⟩
 cases e with
 | normal => exact hk.run C a' w' h1 h2 h3 hrel
 | _ => exact ⟨σ', hrel, hk⟩
theorem swp_seqS {E : Env} {N : Nat} {x y : Code} {σ : St} {R : Exit → St → Prop} (h : Swp E N x σ (seqR (fun σ' => Swp E N y σ' R) R)) : Swp E N (.seq x y) σ R := by
 refine ⟨fun C a w h1 h2 h3 hr => ?_⟩
 refine wp_seq (wp_mono (h.run C a w h1 h2 h3 hr) ?_)
 rintro e a' w' ⟨σ', hrel, hk⟩
 cases e with
 | normal => exact hk.run C a' w' h1 h2 h3 hrel
 | _ => exact ⟨σ', hrel, hk⟩
theorem swp_block {E : Env} {N id : Nat} {c : Code} {σ : St} {R : Exit → St → Prop} (h : Swp E N c σ (blockR id R)) : Swp E N (.block id c) σ R := by
 refine ⟨fun C a w h1 h2 h3 hr => ?_⟩
 refine wp_block (wp_mono (h.run C a w h1 h2 h3 hr) ?_)
 rintro e a' w' ⟨σ', hrel, hk⟩
 cases e with
 | exit i =>
  simp only [blockR] at hk
  simp only [Exit.inBlock]
  split
  ·rename_i e; rw [if_pos e] at hk; exact ⟨σ', hrel, hk⟩
  ·rename_i e; rw [if_neg e] at hk; exact ⟨σ', hrel, hk⟩
 | _ => exact ⟨σ', hrel, hk⟩
theorem swp_loop {E : Env} {N : Nat} {c : Code} {σ : St} {R : Exit → St → Prop} {α : Type} (S : α → St) (m : α → Nat) (I : α → Prop) (x0 : α) (h0 : Weak E.m0 σ (S x0)) (hI : I x0) (hr : ∀ x, I x → Swp E N c (S x) (seqR (fun σ2 => ∃ x', m x' < m x ∧ Weak E.m0 σ2 (S x') ∧ I x') R)) : Swp E N (.loop c) σ R := by
 refine ⟨fun C a w h1 h2 h3 hrel => ?_⟩
 refine wp_loop_ghost (fun n a w => ∃ x, n = m x ∧ I x ∧ Rel C (S x) a w) (m x0) ⟨x0, rfl, hI, h0 _ _ _ h2 hrel⟩ ?_
 rintro n a w ⟨x, rfl, hx, hrel⟩
 refine wp_mono ((hr x hx).run C a w h1 h2 h3 hrel) ?_
 rintro e a' w' ⟨σ2, hrel2, hk⟩
 cases e with
 | normal =>
  obtain ⟨x', hlt, hw, hI'⟩ := hk
  exact ⟨m x', hlt, x', rfl, hI', hw _ _ _ h2 hrel2⟩
 | _ => exact ⟨σ2, hrel2, hk⟩
theorem fn_okS {E : Env} (hE : EnvOK E) {f : FuncId} {fn : Func} {c : Code} {args : List V} {X : V} (hf : E.P.funcs[f]? = some fn) (hb : fn.body = some c) (hbd : hasBody E.P f = true)
  (h : Swp E fn.ntmps c ⟨frame0 args, []⟩ (retOK E fn.results.toList X)) : FnOK E.P E.r f args X := by
 refine ⟨hbd, ?_⟩
 intro D w vs hD hU hargs
 refine calls_of_wp hf hb ?_
 let C : Ctx := ⟨D, ⟨w, fun _ => False⟩, E.r, fn.ntmps, []⟩
 have hlen := hargs.length
 have hrel : Rel C ⟨frame0 args, []⟩ { tmps := vs.toArray ++ Array.replicate (fn.ntmps - vs.toArray.size) undef, defers := [] } w := by
  have hDof : ∀ b, Dof D [] [] b → D b := by
   rintro b (h | ⟨k, l, B, h1, _⟩)
   ·exact h
   ·simp at h1
  refine ⟨[], ⟨⟨rfl, rfl, rfl, Nat.le_refl _, fun _ _ _ => rfl⟩, fun b hb => ⟨hD b hb, id⟩, rfl, fun k l B h1 _ => by simp at h1, fun i j li lj Bi Bj b h1 => by simp at h1, fun hr b o d hb => hU hr b o d (hDof b hb)⟩, ⟨by simp [C]; omega, LocsLe.refl _⟩, rfl, fun t => ?_⟩
  have h1 := hargs.get t
  have h2 : VRel (Dof D [] []) w [] (args.getD t (.c .any)) (vs.getD t undef) := h1.step (Ext.refl _ _) (fun b _ hb => hDof b hb) (LocsLe.refl _)
  show VRel (Dof D [] []) w [] (args.getD t (.c .any)) _
  rcases Nat.lt_or_ge t vs.length with hlt | hge
  ·have : (vs.toArray ++ Array.replicate (fn.ntmps - vs.toArray.size) undef).getD t undef = vs.getD t undef := by
    rw [Array.getD_eq_getD_getElem?, Array.getElem?_append_left (by simpa using hlt)]
    simp [List.getD]
   rw [this]; exact h2
  ·rw [show args.getD t (V.c .any) = .c .any by rw [List.getD, List.getElem?_eq_none (by omega)]; rfl]
   trivial
 refine wp_mono (h.run C _ _ rfl (Nat.zero_le _) rfl hrel) ?_
 rintro e a w' ⟨σ, hr, hk⟩
 have fin : retOK E fn.results.toList X .ret σ → a.defers = [] ∧ ∃ v, (results fn a.tmps).run E.P w' = .ok v w' ∧ ∃ u, Ending.returned v = .returned u ∧ VRel D w' [] X u ∧ Below w.heap.size w w' := by
  intro hk
  obtain ⟨ρ, hs, hN, hdf, hfr⟩ := hr
  refine ⟨hdf, ?_⟩
  simp only [retOK] at hk
  split at hk
  ·rename_i v hv
   obtain ⟨x, hx, hxr⟩ := ret_run hE hs hfr hv
   -- the result in a slot of its own
   let tm' : Nat → V := fun t => if t = a.tmps.size then v else σ.tm t
   let a' : Act := { a with tmps := a.tmps.push x }
   have hrel' : Rel C ⟨tm', σ.bl⟩ a' w' := by
    refine ⟨ρ, hs, ⟨by show _ ≤ (a.tmps.push x).size; have := hN.1; simp; omega, hN.2⟩, hdf, fun t => ?_⟩
    show VRel _ _ _ (if t = a.tmps.size then v else σ.tm t) ((a.tmps.push x).getD t undef)
    by_cases e : t = a.tmps.size
    ·rw [if_pos e, e]; simpa [Array.getD] using hxr
    ·rw [if_neg e]
     have : (a.tmps.push x).getD t undef = a.tmps.getD t undef := by
      rw [Array.getD_eq_getD_getElem?, Array.getD_eq_getD_getElem?, Array.getElem?_push]
      rw [if_neg e]
     rw [this]; exact hfr t
   have hk' := frzA_tm (tm := tm') (K' := fun σ' => closT (closeT σ'.bl v) = true ∧ Sub (closeT σ'.bl v) X) (partsV v) (fun bl h => h) hk
   obtain ⟨σ', ⟨h1, h2⟩, ⟨ρ', hs', _, _, hfr'⟩, htm⟩ := Rel.frzA hk' hrel'
   have h3 := hfr' a.tmps.size
   rw [htm] at h3
   have h4 : VRel (Dof D ρ' σ'.bl) w' ρ' v x := by
    have e1 : tm' a.tmps.size = v := by show (if a.tmps.size = a.tmps.size then v else _) = v; rw [if_pos rfl]
    have e2 : a'.tmps.getD a.tmps.size undef = x := by show (a.tmps.push x).getD a.tmps.size undef = x; simp [Array.getD]
    rw [← e1, ← e2]
    exact h3
   have h5 := closT_rel (ρ' := []) (closeT_rel hs' h4) h1
   exact ⟨x, hx, x, rfl, h2 D w' x (h5.step (Ext.refl _ _) (fun b _ hb => .inl hb) (LocsLe.refl _)), ⟨hs'.below.os, hs'.below.tape, hs'.below.output, hs'.below.size, fun k hk => hs'.below.block k hk id⟩⟩
  ·exact hk.elim
 cases e with
 | normal => exact fin hk
 | ret => exact fin hk
 | exit i => exact hk.elim
 | goto l => exact hk.elim
 | panic ch => exact hk.elim
 | outgrown => exact hk.elim
def retS (E : Env) (rs : List ResultVar) (X : V) (m : Nat) (post : List Blk) (e : Exit) (σ : St) : Prop :=
 match e with
 | .normal | .ret => match retV E σ rs with
  | some v => Weak m ⟨asg [(0, v)], σ.bl⟩ ⟨asg [(0, X)], post⟩
  | none => False
 | _ => False
theorem fns_okS {E : Env} (hE : EnvOK E) {f : FuncId} {fn : Func} {c : Code} {args : List V} {X : V} {bl post : List Blk} (hf : E.P.funcs[f]? = some fn) (hb : fn.body = some c) (hbd : hasBody E.P f = true) (hm0 : E.m0 = bl.length)
  (h : Swp E fn.ntmps c ⟨frame0 args, bl⟩ (retS E fn.results.toList X bl.length post)) : FnS E.P E.r f bl args X post := by
 refine ⟨hbd, ?_⟩
 intro D w0 ρ w vs hs0 hargs
 refine calls_of_wp hf hb ?_
 let C : Ctx := ⟨D, w0, E.r, fn.ntmps, ρ⟩
 have hlen := hargs.length
 have hrl : ρ.length = bl.length := hs0.len
 have hrel : Rel C ⟨frame0 args, bl⟩ { tmps := vs.toArray ++ Array.replicate (fn.ntmps - vs.toArray.size) undef, defers := [] } w := by
  refine ⟨ρ, hs0, ⟨by simp [C]; omega, LocsLe.refl _⟩, rfl, fun t => ?_⟩
  have h2 := hargs.get t
  show VRel (Dof D ρ bl) w ρ (args.getD t (.c .any)) _
  rcases Nat.lt_or_ge t vs.length with hlt | hge
  ·have : (vs.toArray ++ Array.replicate (fn.ntmps - vs.toArray.size) undef).getD t undef = vs.getD t undef := by
    rw [Array.getD_eq_getD_getElem?, Array.getElem?_append_left (by simpa using hlt)]
    simp [List.getD]
   rw [this]; exact h2
  ·rw [show args.getD t (V.c .any) = .c .any by rw [List.getD, List.getElem?_eq_none (by omega)]; rfl]
   trivial
 refine wp_mono (h.run C _ _ rfl (by show ρ.length ≤ E.m0; omega) rfl hrel) ?_
 rintro e a w' ⟨σ, hr, hk⟩
 have fin : retS E fn.results.toList X bl.length post .ret σ → a.defers = [] ∧ ∃ v, (results fn a.tmps).run E.P w' = .ok v w' ∧ ∃ u ρ', Ending.returned v = .returned u ∧ Sat D w0 E.r ρ' post w' ∧ LocsLe ρ ρ' ∧ VRel (Dof D ρ' post) w' ρ' X u := by
  intro hk
  obtain ⟨ρ1, hs, hN, hdf, hfr⟩ := hr
  refine ⟨hdf, ?_⟩
  simp only [retS] at hk
  split at hk
  ·rename_i v hv
   obtain ⟨x, hx, hxr⟩ := ret_run hE hs hfr hv
   have hrel' : Rel ⟨D, w0, E.r, 0, ρ⟩ ⟨asg [(0, v)], σ.bl⟩ ⟨#[x], []⟩ w' := by
    refine ⟨ρ1, hs, ⟨Nat.zero_le _, hN.2⟩, rfl, fun t => ?_⟩
    show VRel _ _ _ (if t = 0 then v else .c .any) _
    split
    ·rename_i e; subst e; exact hxr
    ·trivial
   obtain ⟨ρ2, hs2, hN2, _, hf2⟩ := hk ⟨D, w0, E.r, 0, ρ⟩ _ _ (by show ρ.length ≤ bl.length; omega) hrel'
   exact ⟨x, hx, x, ρ2, rfl, hs2, hN2.2, hf2 0⟩
  ·exact hk.elim
 cases e with
 | normal => exact fin hk
 | ret => exact fin hk
 | exit i => exact hk.elim
 | goto l => exact hk.elim
 | panic ch => exact hk.elim
 | outgrown => exact hk.elim
end Go.Proofs.YtmbejakmeijcbaaGreat
/- Division of lists of fractions by a monic one, in the program. -/
namespace Go.Proofs.YtmbejakmeijcbaaGreat
open Go.RowKit
namespace Rf
def qm (u : Nat → Rat) (k x : Nat) : RawR := if k ≤ x then ofR (u x) else zraw
theorem qm_self (u : Nat → Rat) (k : Nat) : qm u k k = ofR (u k) := if_pos (Nat.le_refl k)
theorem qm_next (u : Nat → Rat) (i x : Nat) : (if x = i then nq (u i) else rr (qm u (i + 1) x)) = rr (qm u i x) := by
 unfold qm
 by_cases e : x = i
 ·rw [if_pos e, if_pos (by omega), e]
 ·rw [if_neg e]
  by_cases e2 : i + 1 ≤ x
  ·rw [if_pos e2, if_pos (by omega)]
  ·rw [if_neg e2, if_neg (by omega)]
theorem qm_zero (u : Nat → Rat) : qm u 0 = fun x => ofR (u x) := funext fun x => if_pos (Nat.zero_le x)
theorem qm_top {u : Nat → Rat} {N x : Nat} (h : x < N) : qm u N x = zraw := if_neg (by omega)
theorem div_one_ok (x : Rat) {L : Nat} (h : qlen x ≤ L) (hL : L + 8 ≤ LIM) : FnOK Tryz.prog true 204 [.g (nq x), .g (nq 1)] (.t2 (.g (nq x)) (.c (.int .i64 0))) := by
 have := qquo_ok (q := ofR x) (p := ofR 1) (ofR_fit h) (ofR_fit (L := 1) (by decide)) (by omega) (by rw [ofR_val]; decide)
 rw [ofR_val, ofR_val, show x / 1 = x by grind] at this
 exact this
set_option maxHeartbeats 16000000 in
theorem qpdiv_long {n d : Nat} {v f : Nat → Rat} {K : Nat} (hf : Q.Mon d f) (ht : Q.tq v n = n) (hnd : d < n) (hn : n ≤ 4096) (hs : ∀ t k, t ≤ n - d → qlen (Q.dvs d f (n - d) v t k) ≤ K) (hg : ∀ j, qlen (f j) ≤ K) (h1 : 1 ≤ K) (hL : K + K + K + 16 ≤ LIM) : FnOK Tryz.prog true 184 [.c (nql n v), .c (nql (d + 1) f)] (.t2 (.c (nql (Q.tq (Q.dvq d f (n - d) v) (n - d)) (Q.dvq d f (n - d) v))) (.c (nql (Q.tq (Q.dvs d f (n - d) v (n - d)) n) (Q.dvs d f (n - d) v (n - d))))) := by
 have hv0 : ∀ i, i < n → (ofR (v i)).Fit K := fun i _ => ofR_fit (hs 0 i (Nat.zero_le _))
 have hN0 := qnorm_m (q := fun i => ofR (v i)) (v := v) (n := n) (funext fun i => ofR_val _) (by omega) hv0 (by omega)
 rw [ht] at hN0
 obtain ⟨N, hN⟩ : ∃ N, N = n - d := ⟨_, rfl⟩
 rw [← hN] at hs ⊢
 have ft := hf.top
 have q1 : ∀ t k, t ≤ N → FnOK Tryz.prog true 204 [.g (nq (Q.dvs d f N v t k)), .g (nq (f d))] (.t2 (.g (nq (Q.dvs d f N v t k))) (.c (.int .i64 0))) := fun t k h => by
  rw [ft]
  exact div_one_ok _ (hs t k h) (by omega)
 have z1 : ∀ i, i < N → FnOK Tryz.prog true 191 [.g (nq (Q.dvq d f N v i))] (.c (.bool (decide (Q.dvq d f N v i = 0)))) := fun i hi => qzero_nq _ (hs (N - 1 - i) (i + d) (by omega)) (by omega)
 have p1 : ∀ i j, i < N → FnOK Tryz.prog true 192 [.g (rr (qm (Q.dvq d f N v) i i)), .g (nq (f j))] (.g (nq (Q.dvq d f N v i * f j))) := fun i j hi => by
  rw [qm_self]
  have := qmul_ok (q := ofR (Q.dvq d f N v i)) (p := ofR (f j)) (ofR_fit (hs (N - 1 - i) (i + d) (by omega))) (ofR_fit (hg j)) (by omega)
  rwa [ofR_val, ofR_val] at this
 have s1 : ∀ i j, i < N → FnOK Tryz.prog true 110 [.g (nq (Q.dpt (Q.dvq d f N v i) f (Q.dvs d f N v (N - (i + 1))) i j (i + j))), .g (nq (Q.dvq d f N v i * f j))] (.g (nq (Q.dvs d f N v (N - (i + 1)) (i + j) - Q.dvq d f N v i * f j))) := fun i j hi => by
  rw [Q.dpt_old]
  have k1 : qlen (Q.dvq d f N v i) ≤ K := hs (N - 1 - i) (i + d) (by omega)
  have := qsub_ok (q := ofR (Q.dvs d f N v (N - (i + 1)) (i + j))) (p := ofR (Q.dvq d f N v i * f j)) (ofR_fit (hs _ _ (by omega))) (ofR_fit (qlen_mul k1 (hg j) (by omega))) (by omega) (by omega)
  rwa [ofR_val, ofR_val] at this
 have w1 : ∀ i, i < N → ∀ k, Q.dpt (Q.dvq d f N v i) f (Q.dvs d f N v (N - (i + 1))) i (d + 1) k = Q.dvs d f N v (N - i) k := fun i hi k => by
  have := Q.dpt_all hf.fin (N := N) (p := v) (t := N - (i + 1)) k
  rw [show N - 1 - (N - (i + 1)) = i by omega, show N - (i + 1) + 1 = N - i by omega] at this
  rw [← this]
  unfold Q.dvq
  rw [show N - 1 - i = N - (i + 1) by omega]
 have w2 : ∀ i, i < N → Q.dvq d f N v i = 0 → ∀ k, Q.dvs d f N v (N - (i + 1)) k = Q.dvs d f N v (N - i) k := fun i hi e k => by
  rw [← w1 i hi k, Q.dpt_none e]
 have w3 := fun i j k => Q.dpt_next (Q.dvq d f N v i) f (Q.dvs d f N v (N - (i + 1))) i j k
 have w4 := fun i k => Q.dpt_zero (Q.dvq d f N v i) f (Q.dvs d f N v (N - (i + 1))) i k
 have e1 : ∀ i, i < N → Q.dvs d f N v (N - (i + 1)) (i + d) = Q.dvq d f N v i := fun i hi => by
  unfold Q.dvq
  rw [show N - 1 - i = N - (i + 1) by omega]
 have hT1 := qtrim_nql (n := N) (v := Q.dvq d f N v) (by omega)
 rw [show nql N (Q.dvq d f N v) = ql N (qm (Q.dvq d f N v) 0) by rw [qm_zero]] at hT1
 have hT2 := qtrim_nql (n := n) (v := Q.dvs d f N v N) (by omega)
 have hT2 : FnOK Tryz.prog true 160 [.c (.row 4 n fun x j => qlF (fun x => ofR (Q.dvs d f N v (N - 0) x)) (0 + x) j)] (.c (nql (Q.tq (Q.dvs d f N v N) n) (Q.dvs d f N v N))) := arg_ok hT2 fun D w vs h => by
  match vs, h with
  | [v1], ⟨h1, _⟩ => exact ⟨subRowG rfl (fun x j hx hj => by rw [Nat.zero_add]; rfl) D w v1 h1, trivial⟩
 clear hs hg ht hv0
 refine fn_okS (E := E1) E1_ok Tryz.func184 rfl (by kernel_rfl) ?_
 refine swp_seq0 E1_ok mixed (by kernel_rfl) ?_
 conv => whnf
 refine swp_seq0 E1_ok mixed (by kernel_rfl) ?_
 conv => whnf
 refine .inl ⟨[], true, ?_⟩
 conv => whnf
 refine ⟨0, phB, [.c (nql n v)], _, _, _, hN0, rfl, .inr (Nat.le_refl 2), fun h => absurd h (by decide), fun h => absurd h (by decide), fun F' hF' => ?_, rfl, rfl, ?_⟩
 ·simp at hF'; subst hF'; exact qB_plain _ _
 conv => whnf
 refine swp_seq0 E1_ok mixed (by kernel_rfl) ?_
 conv => whnf
 refine bneg (show decide ((n : Int) < ((d + 1 : Nat) : Int)) = false from decide_eq_false (by omega)) ?_
 conv => whnf
 refine swp_seq0 E1_ok mixed (by kernel_rfl) ?_
 conv => whnf
 refine ⟨i64 (by omega) (by omega), ?_⟩
 conv => whnf
 refine ⟨i64 (by omega) (by omega), ?_⟩
 conv => whnf
 refine ⟨by omega, Int.le_refl _, by omega, by show (64 : Int) * ((n : Int) - ((d + 1 : Nat) : Int) + 1) ≤ 281474976710656; omega, ?_⟩
 have eN : ((n : Int) - ((d + 1 : Nat) : Int) + 1).toNat = N := by omega
 conv => whnf
 refine swp_seqS ?_
 refine swp_seq0 E1_ok mixed (by kernel_rfl) ?_
 conv => whnf
 refine ⟨i64 (by show _ ≤ (((n : Int) - ((d + 1 : Nat) : Int) + 1).toNat : Int) - 1; omega) (by show (((n : Int) - ((d + 1 : Nat) : Int) + 1).toNat : Int) - 1 < _; omega), ?_⟩
 conv => whnf
 refine swp_block ?_
 refine swp_loop (fun k : Nat => gst [(1, .c (nql (d + 1) f)), (4, .c (.gs 1 0)), (5, .c (.sl 0 0 4 0 n)), (6, .c (.int .i64 ((k : Int) - 1)))] [gqr n fun x => ofR (Q.dvs d f N v (N - k) x), gqr N (qm (Q.dvq d f N v) k)]) (fun k => k) (fun k => k ≤ N) N ?_ (Nat.le_refl _) fun k hk => ?_
 ·refine Weak.gen [some 1, some 2] rfl ⟨⟨_, rfl, rfl, rfl, rfl, rfl, fun x j hx hj => regE (qlF_eq (c := fun x => ofR (v x)) (e := fun x => ofR (Q.dvs d f N v (N - N) x)) (i := x) (k := x) (congrArg ofR (by rw [Nat.sub_self]; rfl))) (ql_clos (c := fun x => ofR (Q.dvs d f N v (N - N) x)) x j)⟩, ⟨_, rfl, rfl, rfl, eN, rfl, fun x j hx hj => ?_⟩, trivial⟩ ⟨.inl ⟨_, _, rfl, rfl, fun _ _ _ _ => rfl⟩, ⟨_, rfl, rfl, rfl⟩, ⟨_, _, rfl, rfl, rfl, rfl⟩, ⟨_, rfl, by show (((n : Int) - ((d + 1 : Nat) : Int) + 1).toNat : Int) - 1 = (N : Int) - 1; rw [eN]⟩, trivial⟩
  show regC 0 _ _ (qlF (qm (Q.dvq d f N v) N) x j) _
  have hx : x < N := hx
  unfold qlF
  rw [qm_top hx]
  match j, hj with
  | 0, _ => exact ⟨_, rfl, rfl⟩
  | 1, _ => exact .inr (.inl ⟨rfl, rfl⟩)
  | 2, _ => exact ⟨_, rfl, rfl⟩
  | 3, _ => exact .inr (.inl ⟨rfl, rfl⟩)
 refine swp_seq0 E1_ok mixed (by kernel_rfl) ?_
 conv => whnf
 refine bcase (fun (h : decide ((0 : Int) ≤ (k : Int) - 1) = true) => ?_) fun (h : decide ((0 : Int) ≤ (k : Int) - 1) = false) => ?_
 ·have h := of_decide_eq_true h
  obtain ⟨i, hi0⟩ : ∃ i, i = ((k : Int) - 1).toNat := ⟨_, rfl⟩
  have hk1 : k = i + 1 := by omega
  subst hk1
  have hiN : i < N := by omega
  have ei : (((i + 1 : Nat) : Int) - 1).toNat = i := by omega
  have g1 : FnOK Tryz.prog true 204 [.g (nq (Q.dvs d f N v (N - (i + 1)) (0 + (((i + 1 : Nat) : Int) - 1 + ((d + 1 : Nat) : Int) - 1).toNat))), .g (nq (f (((d + 1 : Nat) : Int) - 1).toNat))] (.t2 (.g (nq (Q.dvq d f N v i))) (.c (.int .i64 0))) := by
   have := q1 (N - (i + 1)) (i + d) (by omega)
   rw [e1 i hiN] at this
   rw [show 0 + (((i + 1 : Nat) : Int) - 1 + ((d + 1 : Nat) : Int) - 1).toNat = i + d by omega, show (((d + 1 : Nat) : Int) - 1).toNat = d by omega, e1 i hiN]
   exact this
  have g2 : FnOK Tryz.prog true 191 [.g (rr (qm (Q.dvq d f N v) i (((i + 1 : Nat) : Int) - 1).toNat))] (.c (.bool (decide (Q.dvq d f N v i = 0)))) := by
   rw [ei, qm_self]
   exact z1 i hiN
  conv => whnf
  refine swp_seqS (swp_block ?_)
  refine swp_seq E1_ok mixed (by kernel_rfl) ?_
  conv => whnf
  refine ⟨i64 (by omega) (by omega), ?_⟩
  conv => whnf
  refine ⟨i64 (by omega) (by omega), ?_⟩
  conv => whnf
  refine ⟨by omega, ?_⟩
  conv => whnf
  refine ⟨by show ((i + 1 : Nat) : Int) - 1 + ((d + 1 : Nat) : Int) - 1 < (n : Int); omega, ?_⟩
  conv => whnf
  refine ⟨i64 (by omega) (by omega), ?_⟩
  conv => whnf
  refine ⟨by omega, by omega, ?_⟩
  conv => whnf
  refine ⟨_, g1, ?_⟩
  conv => whnf
  refine ⟨by omega, by show ((i + 1 : Nat) : Int) - 1 < (N : Int); omega, ?_⟩
  conv => whnf
  refine ⟨gst [(1, .c (nql (d + 1) f)), (4, .c (.gs 1 0)), (5, .c (.sl 0 0 4 0 n)), (6, .c (.int .i64 (((i + 1 : Nat) : Int) - 1)))] [gqr n fun x => ofR (Q.dvs d f N v (N - (i + 1)) x), gqr N (qm (Q.dvq d f N v) i)], Weak.gen [some 0, some 1] rfl ⟨⟨_, rfl, rfl, rfl, rfl, rfl, fun x j hx hj => regE rfl (ql_clos (c := fun x => ofR (Q.dvs d f N v (N - (i + 1)) x)) x j)⟩, ⟨_, rfl, rfl, rfl, rfl, rfl, fun x j hx hj => regE ?_ (ql_clos (c := qm (Q.dvq d f N v) i) x j)⟩, trivial⟩ ⟨.inl ⟨_, _, rfl, rfl, fun _ _ _ _ => rfl⟩, ⟨_, rfl, rfl, rfl⟩, ⟨_, _, rfl, rfl, rfl, rfl⟩, ⟨_, rfl, rfl⟩, trivial⟩, ?_⟩
  ·exact updG (sz := 4) (g := fun x => rr (qm (Q.dvq d f N v) (i + 1) x)) (g' := fun x => rr (qm (Q.dvq d f N v) i x)) (l := nq (Q.dvq d f N v i)) rfl hj (by rw [ei]; exact qm_next _ i x)
  refine swp_seq0 E1_ok mixed (by kernel_rfl) ?_
  conv => whnf
  refine ⟨by omega, by show ((i + 1 : Nat) : Int) - 1 < (N : Int); omega, ?_⟩
  conv => whnf
  refine ⟨_, g2, ?_⟩
  conv => whnf
  refine bcase (fun (h3 : decide (Q.dvq d f N v i = 0) = true) => ?_) fun (h3 : decide (Q.dvq d f N v i = 0) = false) => ?_
  ·have y3 := w2 i hiN (of_decide_eq_true h3)
   conv => whnf
   refine swp_of E1_ok mixed (by kernel_rfl) ?_
   conv => whnf
   refine ⟨i64 (by omega) (by omega), ?_⟩
   conv => whnf
   exact ⟨i, by omega, Weak.gen [some 0, some 1] rfl ⟨⟨_, rfl, rfl, rfl, rfl, rfl, fun x j hx hj => regE (qlF_eq (c := fun x => ofR (Q.dvs d f N v (N - (i + 1)) x)) (e := fun x => ofR (Q.dvs d f N v (N - i) x)) (i := x) (k := x) (congrArg ofR (y3 x))) (ql_clos (c := fun x => ofR (Q.dvs d f N v (N - i) x)) x j)⟩, ⟨_, rfl, rfl, rfl, rfl, rfl, fun x j hx hj => regE rfl (ql_clos (c := qm (Q.dvq d f N v) i) x j)⟩, trivial⟩ ⟨.inl ⟨_, _, rfl, rfl, fun _ _ _ _ => rfl⟩, ⟨_, rfl, rfl, rfl⟩, ⟨_, _, rfl, rfl, rfl, rfl⟩, ⟨_, rfl, by omega⟩, trivial⟩, by omega⟩
  ·conv => whnf
   refine swp_of E1_ok mixed (by kernel_rfl) ?_
   conv => whnf
   refine loop_ints (fun j : Nat => gst [(1, .c (nql (d + 1) f)), (4, .c (.gs 1 0)), (5, .c (.sl 0 0 4 0 n)), (6, .c (.int .i64 (((i + 1 : Nat) : Int) - 1))), (57, .c (nql (d + 1) f)), (58, .c (.int .i64 ((d + 1 : Nat) : Int))), (59, .c (.int .i64 j))] [gqr n fun x => ofR (Q.dpt (Q.dvq d f N v i) f (Q.dvs d f N v (N - (i + 1))) i j x), gqr N (qm (Q.dvq d f N v) i)]) (fun j => d + 1 - j) (fun j => j ≤ d + 1) 0 rfl (Weak.gen [some 0, some 1] rfl ⟨⟨_, rfl, rfl, rfl, rfl, rfl, fun x j hx hj => regE (qlF_eq (c := fun x => ofR (Q.dvs d f N v (N - (i + 1)) x)) (e := fun x => ofR (Q.dpt (Q.dvq d f N v i) f (Q.dvs d f N v (N - (i + 1))) i 0 x)) (i := x) (k := x) (congrArg ofR (w4 i x).symm)) (ql_clos (c := fun x => ofR (Q.dpt (Q.dvq d f N v i) f (Q.dvs d f N v (N - (i + 1))) i 0 x)) x j)⟩, ⟨_, rfl, rfl, rfl, rfl, rfl, fun x j hx hj => regE rfl (ql_clos (c := qm (Q.dvq d f N v) i) x j)⟩, trivial⟩ ⟨.inl ⟨_, _, rfl, rfl, fun _ _ _ _ => rfl⟩, ⟨_, rfl, rfl, rfl⟩, ⟨_, _, rfl, rfl, rfl, rfl⟩, ⟨_, rfl, rfl⟩, .inl ⟨_, _, rfl, rfl, fun _ _ _ _ => rfl⟩, ⟨_, rfl, rfl⟩, ⟨_, rfl, rfl⟩, trivial⟩) (Nat.zero_le _) fun j hj => ?_
   have u1 : FnOK Tryz.prog true 192 [.g (rr (qm (Q.dvq d f N v) i (((i + 1 : Nat) : Int) - 1).toNat)), .g (nq (f j))] (.g (nq (Q.dvq d f N v i * f j))) := by
    rw [ei]
    exact p1 i j hiN
   have ej : 0 + (((i + 1 : Nat) : Int) - 1 + (j : Int)).toNat = i + j := by omega
   have u2 : FnOK Tryz.prog true 110 [.g (nq (Q.dpt (Q.dvq d f N v i) f (Q.dvs d f N v (N - (i + 1))) i j (0 + (((i + 1 : Nat) : Int) - 1 + (j : Int)).toNat))), .g (nq (Q.dvq d f N v i * f j))] (.g (nq (Q.dvs d f N v (N - (i + 1)) (i + j) - Q.dvq d f N v i * f j))) := by
    rw [ej]
    exact s1 i j hiN
   have u3 := w3 i j
   have u4 := w1 i hiN
   conv => whnf
   refine bcase (fun (h4 : decide ((j : Int) < ((d + 1 : Nat) : Int)) = true) => ?_) fun (h4 : decide ((j : Int) < ((d + 1 : Nat) : Int)) = false) => ?_
   ·have h4 := of_decide_eq_true h4
    conv => whnf
    refine ⟨by omega, by omega, ?_⟩
    conv => whnf
    refine ⟨i64 (by omega) (by omega), ?_⟩
    conv => whnf
    refine ⟨i64 (by omega) (by omega), ?_⟩
    conv => whnf
    refine ⟨by omega, ?_⟩
    conv => whnf
    refine ⟨by show ((i + 1 : Nat) : Int) - 1 + (j : Int) < (n : Int); omega, ?_⟩
    conv => whnf
    refine ⟨by omega, by show ((i + 1 : Nat) : Int) - 1 < (N : Int); omega, ?_⟩
    conv => whnf
    refine ⟨_, u1, ?_⟩
    conv => whnf
    refine ⟨_, u2, ?_⟩
    conv => whnf
    refine ⟨by omega, ?_⟩
    conv => whnf
    refine ⟨by show ((i + 1 : Nat) : Int) - 1 + (j : Int) < (n : Int); omega, ?_⟩
    conv => whnf
    refine ⟨i64 (by omega) (by omega), ?_⟩
    conv => whnf
    refine ⟨j + 1, by omega, Weak.gen [some 0, some 1] rfl ⟨⟨_, rfl, rfl, rfl, rfl, rfl, fun x y hx hy => regE ?_ (ql_clos (c := fun x => ofR (Q.dpt (Q.dvq d f N v i) f (Q.dvs d f N v (N - (i + 1))) i (j + 1) x)) x y)⟩, ⟨_, rfl, rfl, rfl, rfl, rfl, fun x j hx hj => regE rfl (ql_clos (c := qm (Q.dvq d f N v) i) x j)⟩, trivial⟩ ⟨.inl ⟨_, _, rfl, rfl, fun _ _ _ _ => rfl⟩, ⟨_, rfl, rfl, rfl⟩, ⟨_, _, rfl, rfl, rfl, rfl⟩, ⟨_, rfl, rfl⟩, .inl ⟨_, _, rfl, rfl, fun _ _ _ _ => rfl⟩, ⟨_, rfl, rfl⟩, ⟨_, rfl, rfl⟩, trivial⟩, by omega⟩
    exact updG (sz := 4) (g := fun x => nq (Q.dpt (Q.dvq d f N v i) f (Q.dvs d f N v (N - (i + 1))) i j x)) (g' := fun x => nq (Q.dpt (Q.dvq d f N v i) f (Q.dvs d f N v (N - (i + 1))) i (j + 1) x)) (l := nq (Q.dvs d f N v (N - (i + 1)) (i + j) - Q.dvq d f N v i * f j)) rfl hy (by
     show (if x = 0 + (((i + 1 : Nat) : Int) - 1 + (j : Int)).toNat then nq (Q.dvs d f N v (N - (i + 1)) (i + j) - Q.dvq d f N v i * f j) else nq (Q.dpt (Q.dvq d f N v i) f (Q.dvs d f N v (N - (i + 1))) i j x)) = nq (Q.dpt (Q.dvq d f N v i) f (Q.dvs d f N v (N - (i + 1))) i (j + 1) x)
     rw [ej, ← u3 x]
     split <;> rfl)
   ·have h4 := of_decide_eq_false h4
    have e : j = d + 1 := by omega
    conv => whnf
    refine swp_of E1_ok mixed (by kernel_rfl) ?_
    conv => whnf
    refine ⟨i64 (by omega) (by omega), ?_⟩
    conv => whnf
    exact ⟨i, by omega, Weak.gen [some 0, some 1] rfl ⟨⟨_, rfl, rfl, rfl, rfl, rfl, fun x y hx hy => regE (qlF_eq (c := fun x => ofR (Q.dpt (Q.dvq d f N v i) f (Q.dvs d f N v (N - (i + 1))) i j x)) (e := fun x => ofR (Q.dvs d f N v (N - i) x)) (i := x) (k := x) (congrArg ofR (by rw [e]; exact u4 x))) (ql_clos (c := fun x => ofR (Q.dvs d f N v (N - i) x)) x y)⟩, ⟨_, rfl, rfl, rfl, rfl, rfl, fun x j hx hj => regE rfl (ql_clos (c := qm (Q.dvq d f N v) i) x j)⟩, trivial⟩ ⟨.inl ⟨_, _, rfl, rfl, fun _ _ _ _ => rfl⟩, ⟨_, rfl, rfl, rfl⟩, ⟨_, _, rfl, rfl, rfl, rfl⟩, ⟨_, rfl, by omega⟩, trivial⟩, by omega⟩
 ·have h := of_decide_eq_false h
  have hk0 : k = 0 := by omega
  subst hk0
  conv => whnf
  refine swp_of E1_ok mixed (by kernel_rfl) ?_
  conv => whnf
  refine .inr ⟨fun x j _ _ => ql_clos (c := qm (Q.dvq d f N v) 0) x j, ?_⟩
  conv => whnf
  refine ⟨_, hT1, ?_⟩
  conv => whnf
  refine .inr ⟨fun x j _ _ => ql_clos (c := fun x => ofR (Q.dvs d f N v (N - 0) x)) x j, ?_⟩
  conv => whnf
  refine ⟨_, hT2, ?_⟩
  conv => whnf
  exact ⟨rfl, Sub.refl _⟩
end Rf
end Go.Proofs.YtmbejakmeijcbaaGreat
/- Quotient and remainder by a monic polynomial in the program. -/
namespace Go.Proofs.YtmbejakmeijcbaaGreat
open Go.RowKit
theorem FnOK.res {P : Program} {r : Bool} {f : FuncId} {args : List V} {X X' : V} (h : FnOK P r f args X) (s : Sub X X') : FnOK P r f args X' :=
 ⟨h.1, fun D w vs a b c => (h.2 D w vs a b c).mono fun _ _ ⟨v, e, hv, hb⟩ => ⟨v, e, s _ _ _ hv, hb⟩⟩
def Q.rst (d : Nat) (f p : Nat → Rat) (m : Nat) : Nat → Rat := Q.dvs d f (m - d) p (m - d)
theorem Q.rst_rm {d m : Nat} {f p : Nat → Rat} (hf : Q.Mon d f) (hp : Q.Fin m p) : Q.Rm d f p (Q.rst d f p m) :=
 Q.dvs_rm hf (hp.mono (by omega))
theorem Q.rst_len {d m : Nat} {f p : Nat → Rat} (hf : Q.Mon d f) (hp : Q.Fin m p) : Q.tq (Q.rst d f p m) m = Q.tq (Q.rst d f p m) d := by
 have h := (Q.rst_rm hf hp).1
 refine Q.tq_eq ?_ h
 rcases Nat.lt_or_ge m d with c | c
 ·have e : Q.rst d f p m = p := by
   unfold Q.rst
   rw [show m - d = 0 by omega]; rfl
  rw [e]; exact hp
 ·exact h.mono c
namespace Rf
set_option maxHeartbeats 4000000 in
theorem qpdiv_short {n d : Nat} {v f : Nat → Rat} {K : Nat} (ht : Q.tq v n = n) (hnd : n ≤ d) (hn : n ≤ 4096) (hs : ∀ k, qlen (v k) ≤ K) (hL : K + 3 ≤ LIM) : FnOK Tryz.prog true 184 [.c (nql n v), .c (nql (d + 1) f)] (.t2 (.c .nil) (.c (nql n v))) := by
 have h1 := qnorm_ok (q := fun i => ofR (v i)) (v := v) (n := n) (funext fun i => ofR_val _) (by omega) (fun i _ => ofR_fit (hs i)) hL
 rw [ht] at h1
 refine fn_ok (E := E1) E1_ok Tryz.func184 rfl mixed (by kernel_rfl) (by kernel_rfl) ?_
 conv => whnf
 refine .inr ?_
 conv => whnf
 refine ⟨_, h1, ?_⟩
 conv => whnf
 refine bpos (show decide ((n : Int) < ((d + 1 : Nat) : Int)) = true from decide_eq_true (by omega)) ?_
 conv => whnf
 exact ⟨rfl, Sub.refl _⟩
theorem qnorm_x {n : Nat} {q : Nat → RawR} {L : Nat} {p : Nat → Rat} (hp : Q.qx n (fun i => (q i).val) = p) (hn : n ≤ 1048576) (hq : ∀ i, i < n → (q i).Fit L) (hL : L + 3 ≤ LIM) : FnOK Tryz.prog true 183 [.c (ql n q)] (.c (nql (Q.tq p n) p)) := by
 have h := qnorm_ok (q := q) rfl hn hq hL
 have e : Q.tq (fun i => (q i).val) n = Q.tq p n := Q.tq_congr fun i hi => by rw [← hp, Q.qx_lt hi]
 rw [e] at h
 refine h.res (subRowG rfl fun i j hi hj => qlF_eq (c := fun i => ofR (q i).val) (e := fun i => ofR (p i)) (i := i) (k := i) (congrArg ofR ?_))
 have := Q.tq_le p n
 rw [← hp, Q.qx_lt (by omega)]
theorem qpdivide_ok {n d : Nat} {p f : Nat → Rat} {K : Nat} (hf : Q.Mon d f) (ht : Q.tq p n = n) (hn : n ≤ 4096) (hs : ∀ t k, t ≤ n - d → qlen (Q.dvs d f (n - d) p t k) ≤ K) (hg : ∀ j, qlen (f j) ≤ K) (h1 : 1 ≤ K) (hL : K + K + K + 16 ≤ LIM) : ∃ Y : Cell, (Y = .nil ∨ ∃ N u, Y = nql N u) ∧ FnOK Tryz.prog true 184 [.c (nql n p), .c (nql (d + 1) f)] (.t2 (.c Y) (.c (nql (Q.tq (Q.rst d f p n) n) (Q.rst d f p n)))) := by
 rcases Nat.lt_or_ge d n with c | c
 ·exact ⟨_, .inr ⟨_, _, rfl⟩, qpdiv_long hf ht c hn hs hg h1 hL⟩
 ·refine ⟨.nil, .inl rfl, ?_⟩
  have e : Q.rst d f p n = p := by
   unfold Q.rst
   rw [show n - d = 0 by omega]; rfl
  rw [e, ht]
  exact qpdiv_short ht c hn (fun k => hs 0 k (Nat.zero_le _)) (by omega)
set_option maxHeartbeats 4000000 in
theorem qpdivmod_ok {n d : Nat} {q : Nat → RawR} {p f : Nat → Rat} {L K : Nat} (hp : Q.qx n (fun i => (q i).val) = p) (hf : Q.Mon d f) (hn : n ≤ 4096) (hd : d ≤ 4096) (hq : ∀ i, i < n → (q i).Fit L) (hs : ∀ t k, t ≤ Q.tq p n - d → qlen (Q.dvs d f (Q.tq p n - d) p t k) ≤ K) (hg : ∀ j, qlen (f j) ≤ K) (h1 : 1 ≤ K) (hL : L + 3 ≤ LIM) (hL2 : K + K + K + 16 ≤ LIM) : ∃ Y : Cell, (Y = .nil ∨ ∃ N u, Y = nql N u) ∧ FnOK Tryz.prog true 144 [.c (ql n q), .c (nql (d + 1) f)] (.t3 (.c Y) (.c (nql (Q.tq (Q.rst d f p (Q.tq p n)) d) (Q.rst d f p (Q.tq p n)))) (.c (.int .i64 0))) := by
 have n1 := qnorm_x hp (by omega) hq hL
 have n2 := qnorm_ok (q := fun i => ofR (f i)) (v := f) (n := d + 1) (funext fun i => ofR_val _) (by omega) (fun i _ => ofR_fit (hg i)) (by omega)
 rw [Q.tq_self (n := d + 1) (v := f) fun k hk => by
  rw [show k = d by omega, hf.top]; decide] at n2
 have fp : Q.Fin n p := by rw [← hp]; exact Q.qx_fin _ _
 have hm := Q.tq_le p n
 have ht : Q.tq p (Q.tq p n) = Q.tq p n := Q.tq_self fun k hk => Q.tq_top hk
 obtain ⟨Y, hY, n3⟩ := qpdivide_ok hf ht (by omega) hs hg h1 hL2
 rw [Q.rst_len hf (Q.tq_fin fp)] at n3
 refine ⟨Y, hY, ?_⟩
 generalize Q.rst d f p (Q.tq p n) = r at *
 generalize Q.tq r d = T at *
 generalize Q.tq p n = m at *
 clear hs hg hq hp fp ht
 rcases hY with rfl | ⟨N', u, rfl⟩
 all_goals
  refine fn_ok (E := E1) E1_ok Tryz.func144 rfl mixed (by kernel_rfl) (by kernel_rfl) ?_
  conv => whnf
  refine .inr ?_
  conv => whnf
  refine ⟨_, n2, ?_⟩
  conv => whnf
  refine .inr ?_
  conv => whnf
  refine ⟨_, n1, ?_⟩
  conv => whnf
  refine ⟨_, n3, ?_⟩
  conv => whnf
  exact ⟨rfl, Sub.refl _⟩
end Rf
end Go.Proofs.YtmbejakmeijcbaaGreat
/- Fractions with a common denominator, and how long they are. -/
namespace Go.Proofs.YtmbejakmeijcbaaGreat
def Bd (D B : Nat) (x : Rat) : Prop := ∃ z : Int, x * ((D : Int) : Rat) = (z : Rat) ∧ z.natAbs ≤ B
theorem Bd.zero (D B : Nat) : Bd D B 0 := ⟨0, by rw [Rat.zero_mul]; rfl, Nat.zero_le _⟩
theorem Bd.mono {D B B' : Nat} {x : Rat} (h : Bd D B x) (hB : B ≤ B') : Bd D B' x := by
 obtain ⟨z, h1, h2⟩ := h
 exact ⟨z, h1, by omega⟩
theorem Bd.add {D B B' : Nat} {x y : Rat} (h : Bd D B x) (h' : Bd D B' y) : Bd D (B + B') (x + y) := by
 obtain ⟨z, h1, h2⟩ := h
 obtain ⟨w, g1, g2⟩ := h'
 refine ⟨z + w, by rw [Rat.add_mul, h1, g1, Rat.intCast_add], ?_⟩
 have := Int.natAbs_add_le z w
 omega
theorem Bd.neg {D B : Nat} {x : Rat} (h : Bd D B x) : Bd D B (-x) := by
 obtain ⟨z, h1, h2⟩ := h
 exact ⟨-z, by rw [Rat.neg_mul, h1, Rat.intCast_neg], by omega⟩
theorem Bd.sub {D B B' : Nat} {x y : Rat} (h : Bd D B x) (h' : Bd D B' y) : Bd D (B + B') (x - y) := by
 rw [Rat.sub_eq_add_neg]
 exact h.add h'.neg
theorem Bd.mul {D D' B B' : Nat} {x y : Rat} (h : Bd D B x) (h' : Bd D' B' y) : Bd (D * D') (B * B') (x * y) := by
 obtain ⟨z, h1, h2⟩ := h
 obtain ⟨w, g1, g2⟩ := h'
 refine ⟨z * w, ?_, ?_⟩
 ·rw [Rat.intCast_mul, ← h1, ← g1, Int.natCast_mul, Rat.intCast_mul]
  grind
 ·rw [Int.natAbs_mul]
  exact Nat.mul_le_mul h2 g2
theorem Bd.scale {D B : Nat} (e : Nat) {x : Rat} (h : Bd D B x) : Bd (D * e) (B * e) x := by
 obtain ⟨z, h1, h2⟩ := h
 refine ⟨z * (e : Int), ?_, ?_⟩
 ·rw [Rat.intCast_mul, ← h1, Int.natCast_mul, Rat.intCast_mul]
  grind
 ·rw [Int.natAbs_mul]
  exact Nat.mul_le_mul h2 (Nat.le_refl _)
theorem Bd.len {D B L : Nat} {x : Rat} (h : Bd D B x) (h0 : 0 < D) (hD : D < Dg.B ^ L) (hB : B < Dg.B ^ L) (h1 : 1 ≤ L) : qlen x ≤ L := by
 obtain ⟨z, e1, e2⟩ := h
 have hx : x = ratio z (D : Int) := by
  unfold ratio
  rw [← e1]
  have : ((D : Int) : Rat) ≠ 0 := fun e => by
   have e : ((D : Int) : Rat) = ((0 : Int) : Rat) := e
   have := Rat.intCast_inj.1 e
   omega
  grind
 rw [hx]
 exact qlen_ratio (zlen_le (by omega)) (zlen_le (by simpa using hD)) h1
theorem Bd.int (x : Int) : Bd 1 x.natAbs (x : Rat) := ⟨x, by rw [show (((1 : Nat) : Int) : Rat) = 1 from rfl, Rat.mul_one], Nat.le_refl _⟩
theorem Bd.self (x : Rat) : Bd x.den x.num.natAbs x := ⟨x.num, by
 have h : ((x.num : Int) : Rat) / ((x.den : Int) : Rat) = x := ratio_num_den x
 have hd : ((x.den : Int) : Rat) ≠ 0 := fun e => by
  have e : ((x.den : Int) : Rat) = ((0 : Int) : Rat) := e
  have := Rat.intCast_inj.1 e
  have := x.den_pos
  omega
 grind, Nat.le_refl _⟩
namespace Q
theorem dvs_bd {d N D B C : Nat} {f p : Nat → Rat} (hp : ∀ k, Bd D B (p k)) (hf : ∀ j, Bd 1 C (f j)) : ∀ t k, Bd D (B * (1 + C) ^ t) (dvs d f N p t k)
 | 0, k => by rw [Nat.pow_zero, Nat.mul_one]; exact hp k
 | t + 1, k => by
  have h := dvs_bd (d := d) (N := N) hp hf t
  show Bd D _ (dvs d f N p t k - _)
  rw [Nat.pow_succ, ← Nat.mul_assoc, Nat.mul_add, Nat.mul_one]
  refine (h k).sub ?_
  split
  ·have := (h (N - 1 - t + d)).mul (hf (k - (N - 1 - t)))
   rwa [Nat.mul_one] at this
  ·exact Bd.zero _ _
theorem mu_bd {D D' B B' : Nat} {F G : Nat → Rat} (hF : ∀ k, Bd D B (F k)) (hG : ∀ k, Bd D' B' (G k)) : ∀ i k, Bd (D * D') (i * (B * B')) (mu F G i k)
 | 0, _ => Bd.zero _ _
 | i + 1, k => by
  have h := mu_bd hF hG i k
  show Bd _ _ (mu F G i k + (if i ≤ k then F i * G (k - i) else 0))
  rw [Nat.add_mul, Nat.one_mul]
  refine h.add ?_
  split
  ·exact (hF i).mul (hG (k - i))
  ·exact Bd.zero _ _
theorem common (M : Nat) (hM : 0 < M) (v : Nat → Rat) : ∀ n, (∀ i, i < n → (v i).den ≤ M ∧ (v i).num.natAbs ≤ M) → ∃ D, 0 < D ∧ D ≤ M ^ n ∧ ∀ i, i < n → Bd D (M * M ^ n) (v i)
 | 0, _ => ⟨1, by decide, Nat.le_refl _, fun i hi => absurd hi (Nat.not_lt_zero i)⟩
 | n + 1, h => by
  obtain ⟨D, h1, h2, h3⟩ := common M hM v n fun i hi => h i (by omega)
  obtain ⟨g1, g2⟩ := h n (by omega)
  have g0 := (v n).den_pos
  refine ⟨D * (v n).den, Nat.mul_pos h1 g0, ?_, fun i hi => ?_⟩
  ·rw [Nat.pow_succ]; exact Nat.mul_le_mul h2 g1
  ·rcases Nat.lt_or_ge i n with c | c
   ·refine ((h3 i c).scale (v n).den).mono ?_
    rw [Nat.pow_succ, ← Nat.mul_assoc]
    exact Nat.mul_le_mul (Nat.le_refl _) g1
   ·rw [show i = n by omega]
    have := (Bd.self (v n)).scale D
    rw [Nat.mul_comm D]
    refine this.mono ?_
    refine Nat.mul_le_mul g2 (Nat.le_trans h2 ?_)
    exact Nat.pow_le_pow_right hM (by omega)
end Q
end Go.Proofs.YtmbejakmeijcbaaGreat
/- The ring of rests modulo a monic polynomial, and the matrices of its multiplications. No condition. -/
namespace Go.Proofs.YtmbejakmeijcbaaGreat
namespace Q
def xp (i k : Nat) : Rat := if k = i then 1 else 0
theorem xp_fin (i : Nat) : Fin (i + 1) (xp i) := fun k hk => if_neg (by omega)
theorem cf_xp (i : Nat) (f : Nat → Rat) (k : Nat) : cf (xp i) f k = if i ≤ k then f (k - i) else 0 := by
 have := cf_mono 1 i f k
 rw [show cf (xp i) f k = cf (fun j => if j = i then (1 : Rat) else 0) f k from rfl, this]
 split
 ·rw [Rat.one_mul]
 ·rfl
theorem xp_add (i j k : Nat) : cf (xp i) (xp j) k = xp (i + j) k := by
 rw [cf_xp]
 unfold xp
 by_cases h : i ≤ k
 ·rw [if_pos h]
  by_cases e : k = i + j
  ·rw [if_pos (by omega), if_pos e]
  ·rw [if_neg (by omega), if_neg e]
 ·rw [if_neg h, if_neg (by omega)]
theorem cf_one (A : Nat → Rat) (k : Nat) : cf A (xp 0) k = A k := by
 rw [cf_comm, cf_xp, if_pos (Nat.zero_le _), Nat.sub_zero]
theorem cf_xp_next (A : Nat → Rat) (i k : Nat) : cf (cf A (xp i)) (xp 1) k = cf A (xp (i + 1)) k := by
 have := cf_assoc A (xp i) (xp 1) k
 rw [show cf (cf A (xp i)) (xp 1) k = cf (fun j => cf A (xp i) j) (xp 1) k from rfl, this]
 exact cf_congr (fun _ => rfl) (xp_add i 1) k
theorem Rm.mul' {n m : Nat} {f p r g s : Nat → Rat} (h : Rm n f p r) (hg : Fin m g) (h' : Rm n f (cf g r) s) : Rm n f (cf g p) s := by
 have := h.mul hg (h'.congr fun k => cf_comm g r k)
 exact this.congr fun k => cf_comm p g k
theorem Rm.trans_eq {n : Nat} {f p r s : Nat → Rat} (h : Rm n f p r) (e : ∀ k, r k = s k) : Rm n f p s := by
 have : r = s := funext e
 rwa [← this]
theorem Rm.su {n : Nat} {f : Nat → Rat} {P R : Nat → Nat → Rat} (c : Nat → Rat) (h : ∀ k, Rm n f (P k) (R k)) : ∀ m, Rm n f (fun j => su (fun k => c k * P k j) m) fun j => su (fun k => c k * R k j) m
 | 0 => Rm.self fun _ _ => rfl
 | m + 1 => (Rm.su c h m).add ((h m).smul (c m))
structure Rws (n : Nat) (f A g : Nat → Rat) (a : Nat → Nat → Rat) : Prop where
 first : Rm n f A (a 0)
 next : ∀ i, Rm n f (cf (a i) g) (a (i + 1))
theorem Rws.row {n : Nat} {f A g : Nat → Rat} {a : Nat → Nat → Rat} (h : Rws n f A g a) (hg : Rm n f (xp 1) g) : ∀ i, Rm n f (cf A (xp i)) (a i)
 | 0 => h.first.congr fun k => (cf_one A k).symm
 | i + 1 => by
  have h1 := h.row hg i
  have h2 := hg.mul' h1.1 (h.next i)
  exact (h1.mul (xp_fin 1) h2).congr fun k => cf_xp_next A i k
end Q
end Go.Proofs.YtmbejakmeijcbaaGreat
/- A well-formed number field opened; normal forms, sums and products of its elements. -/
namespace Go.Proofs.YtmbejakmeijcbaaGreat
open Go.RowKit
namespace Rf
abbrev ringL (d : Nat) (f : Nat → Rat) : List Cell := [nql (d + 1) f, .int .i64 (((d + 1 : Nat) : Int) - 1)]
set_option maxHeartbeats 4000000 in
theorem open_good {n d : Nat} {c : Nat → RawZ} {f : Nat → Rat} (hfv : (fun i => ((vz c i : Int) : Rat)) = f) (h : wl n c) (hd : tl (vz c) n = d + 1) (h1 : 1 ≤ d) (h2 : d ≤ 12) (h3 : vz c d = 1) : FnOK Tryz.prog true 89 [.g [zl n c]] (.t2 (.c (.xp 2 fun j => boxF (ringL d f) 0 (0 + j))) (.c (.int .i64 0))) := by
 have n1 := znormal_ok h
 have hw : wl (tl (vz c) n) fun i => ofZ (vz c i) := ⟨Nat.le_trans (tl_le _ _) h.1, fun i hi => wr_nz (Nat.le_trans (wr_len (h.2 i (Nat.lt_of_lt_of_le hi (tl_le _ _)))) (h.2 i (Nat.lt_of_lt_of_le hi (tl_le _ _))).2)⟩
 have e1 : vz (fun i => ofZ (vz c i)) = vz c := funext fun i => ofZ_val _
 have n2 := qpof_eq (v := f) (by rw [← hfv, e1]) hw
 rw [e1, tl_tl, hd] at n2
 rw [hd] at n1
 have n3 := qof_ok (n := 1) (by decide) (by decide)
 have n4 : FnOK Tryz.prog true 79 [.g (nq (f (((d + 1 : Nat) : Int) - 1).toNat)), .g (nq ((1 : Int) : Rat))] (.c (.int .i64 0)) := by
  have := qcmp_one (x := 1) (by decide)
  rw [show (((d + 1 : Nat) : Int) - 1).toNat = d by omega, ← hfv]
  show FnOK _ _ _ [.g (nq ((vz c d : Int) : Rat)), _] _
  rw [h3]
  exact this
 clear hfv h hd hw e1 h3
 generalize vz c = v at *
 refine fn_ok (E := E1) E1_ok Tryz.func89 rfl mixed (by kernel_rfl) (by kernel_rfl) ?_
 conv => whnf
 refine ⟨_, n1, ?_⟩
 conv => whnf
 refine ⟨_, n2, ?_⟩
 conv => whnf
 refine ⟨i64 (by omega) (by omega), ?_⟩
 conv => whnf
 refine bpos (gw_true.2 (show decide (((d + 1 : Nat) : Int) - 1 < 1) = false from decide_eq_false (by omega))) ?_
 conv => whnf
 refine bpos (gw_true.2 (show decide ((12 : Int) < ((d + 1 : Nat) : Int) - 1) = false from decide_eq_false (by omega))) ?_
 conv => whnf
 refine ⟨by omega, by omega, ?_⟩
 conv => whnf
 refine ⟨_, n3, ?_⟩
 conv => whnf
 refine ⟨_, n4, ?_⟩
 conv => whnf
 refine ⟨fun i j _ _ => box_clos (l := ringL d f) (i := i) (j := j) rfl, ?_⟩
 conv => whnf
 exact ⟨rfl, Sub.refl _⟩
abbrev ringP (d : Nat) (f : Nat → Rat) : V := .c (.xp 2 fun j => boxF (ringL d f) 0 (0 + j))
set_option maxHeartbeats 4000000 in
theorem rnormal_raw {n d : Nat} {q : Nat → RawR} {p f : Nat → Rat} {L K : Nat} (hp : Q.qx n (fun i => (q i).val) = p) (hf : Q.Mon d f) (hn : n ≤ 4096) (hd : d ≤ 4096) (hq : ∀ i, i < n → (q i).Fit L) (hs : ∀ t k, t ≤ Q.tq p n - d → qlen (Q.dvs d f (Q.tq p n - d) p t k) ≤ K) (hg : ∀ j, qlen (f j) ≤ K) (h1 : 1 ≤ K) (hL : L + 3 ≤ LIM) (hL2 : K + K + K + 16 ≤ LIM) : FnOK Tryz.prog true 108 [ringP d f, .c (ql n q)] (.c (nql (Q.tq (Q.rst d f p (Q.tq p n)) d) (Q.rst d f p (Q.tq p n)))) := by
 obtain ⟨Y, hY, n3⟩ := qpdivmod_ok hp hf hn hd hq hs hg h1 hL hL2
 clear hs hg hq hp hf
 generalize Q.rst d f p (Q.tq p n) = r at *
 generalize Q.tq r d = T at *
 rcases hY with rfl | ⟨N', u, rfl⟩
 all_goals
  refine fn_ok (E := E1) E1_ok Tryz.func108 rfl mixed (by kernel_rfl) (by kernel_rfl) ?_
  conv => whnf
  refine ⟨_, n3, ?_⟩
  conv => whnf
  exact ⟨rfl, Sub.refl _⟩
abbrev KD : Nat := 1048576
structure Fd (d C : Nat) (f : Nat → Rat) : Prop where
 mon : Q.Mon d f
 pos : 1 ≤ d
 low : d ≤ 12
 bd : ∀ j, Bd 1 C (f j)
 small : C < Dg.B ^ KD
theorem bd_fit {D B : Nat} {x : Rat} (h : Bd D B x) (h0 : 0 < D) (hD : D < Dg.B ^ KD) (hB : B < Dg.B ^ KD) : qlen x ≤ KD := h.len h0 hD hB (by decide)
theorem one_lt_kd : 1 < Dg.B ^ KD := Nat.lt_of_lt_of_le (show 1 < Dg.B ^ 1 by decide) (Nat.pow_le_pow_right (by decide) (by decide))
theorem rnormal_ok {n d D B C : Nat} {q : Nat → RawR} {p f : Nat → Rat} (hF : Fd d C f) (hp : Q.qx n (fun i => (q i).val) = p) (hn : n ≤ 64) (hq : ∀ i, i < n → (q i).Fit KD) (h0 : 0 < D) (hD : D < Dg.B ^ KD) (hb : ∀ k, Bd D B (p k)) (hB : B * (1 + C) ^ n < Dg.B ^ KD) : ∃ r, Q.Rm d f p r ∧ (∀ k, Bd D (B * (1 + C) ^ n) (r k)) ∧ FnOK Tryz.prog true 108 [ringP d f, .c (ql n q)] (.c (nql (Q.tq r d) r)) := by
 have fp : Q.Fin n p := by rw [← hp]; exact Q.qx_fin _ _
 have hm := Q.tq_le p n
 have hst : ∀ t k, t ≤ Q.tq p n - d → Bd D (B * (1 + C) ^ n) (Q.dvs d f (Q.tq p n - d) p t k) := fun t k ht => (Q.dvs_bd hb hF.bd t k).mono (Nat.mul_le_mul_left _ (Nat.pow_le_pow_right (by omega) (by omega)))
 have hlow := hF.low
 exact ⟨Q.rst d f p (Q.tq p n), Q.rst_rm hF.mon (Q.tq_fin fp), fun k => hst _ k (Nat.le_refl _), rnormal_raw hp hF.mon (by omega) (by omega) hq (fun t k ht => bd_fit (hst t k ht) h0 hD hB) (fun j => bd_fit (hF.bd j) (by decide) one_lt_kd hF.small) (by decide) (by decide) (by decide)⟩
theorem rnormal_n {n d D B C : Nat} {p f : Nat → Rat} (hF : Fd d C f) (fp : Q.Fin n p) (hn : n ≤ 64) (h0 : 0 < D) (hD : D < Dg.B ^ KD) (hb : ∀ k, Bd D B (p k)) (hB : B * (1 + C) ^ n < Dg.B ^ KD) : ∃ r, Q.Rm d f p r ∧ (∀ k, Bd D (B * (1 + C) ^ n) (r k)) ∧ FnOK Tryz.prog true 108 [ringP d f, .c (nql n p)] (.c (nql (Q.tq r d) r)) := by
 have hB1 : B < Dg.B ^ KD := Nat.lt_of_le_of_lt (Nat.le_mul_of_pos_right B (Nat.pow_pos (by omega))) hB
 refine rnormal_ok (q := fun i => ofR (p i)) hF ?_ hn (fun i _ => ofR_fit (bd_fit (hb i) h0 hD hB1)) h0 hD hb hB
 rw [show (fun i => (ofR (p i)).val) = p from funext fun i => ofR_val _]
 exact Q.qx_self fp
theorem radd_ok {n m d D BA BB C : Nat} {q p : Nat → RawR} {A B f : Nat → Rat} (hF : Fd d C f) (hA : Q.qx n (fun i => (q i).val) = A) (hB : Q.qx m (fun i => (p i).val) = B) (hn : n ≤ 32) (hm : m ≤ 32) (hq : ∀ i, i < n → (q i).Fit KD) (hp : ∀ i, i < m → (p i).Fit KD) (h0 : 0 < D) (hD : D < Dg.B ^ KD) (bA : ∀ k, Bd D BA (A k)) (bB : ∀ k, Bd D BB (B k)) (hG : (BA + BB) * (1 + C) ^ 64 < Dg.B ^ KD) : ∃ r, Q.Rm d f (fun k => A k + B k) r ∧ (∀ k, Bd D ((BA + BB) * (1 + C) ^ 64) (r k)) ∧ FnOK Tryz.prog true 125 [ringP d f, .c (ql n q), .c (ql m p)] (.c (nql (Q.tq r d) r)) := by
 have h1 := qpAdd_ok (v := fun k => A k + B k) (L := KD) (fun i _ => by rw [hA, hB]) (by omega) (by omega) hq hp (by decide)
 have fA : Q.Fin (max n m) A := by rw [← hA]; exact (Q.qx_fin _ _).mono (Nat.le_max_left _ _)
 have fB : Q.Fin (max n m) B := by rw [← hB]; exact (Q.qx_fin _ _).mono (Nat.le_max_right _ _)
 have hT := Q.tq_fin (fA.add fB)
 have hl := Q.tq_le (fun k => A k + B k) (max n m)
 generalize Q.tq (fun k => A k + B k) (max n m) = T at *
 have hle : (BA + BB) * (1 + C) ^ T ≤ (BA + BB) * (1 + C) ^ 64 := Nat.mul_le_mul_left _ (Nat.pow_le_pow_right (by omega) (by omega))
 obtain ⟨r, r1, r2, r3⟩ := rnormal_n hF hT (by omega) h0 hD (fun k => (bA k).add (bB k)) (Nat.lt_of_le_of_lt hle hG)
 refine ⟨r, r1, fun k => (r2 k).mono hle, ?_⟩
 clear r1 r2 hle hl hT fA fB bA bB hG hq hp hA hB hF
 generalize Q.tq r d = Z at *
 generalize (fun k => A k + B k) = S at *
 refine fn_ok (E := E1) E1_ok Tryz.func125 rfl mixed (by kernel_rfl) (by kernel_rfl) ?_
 conv => whnf
 refine ⟨_, h1, ?_⟩
 conv => whnf
 refine ⟨_, r3, ?_⟩
 conv => whnf
 exact ⟨rfl, Sub.refl _⟩
theorem rmul_ok {n m d D D' BA BB C : Nat} {q p : Nat → RawR} {A B f : Nat → Rat} (hF : Fd d C f) (hA : Q.qx n (fun i => (q i).val) = A) (hB : Q.qx m (fun i => (p i).val) = B) (hn : n ≤ 32) (hm : m ≤ 32) (hq : ∀ i, i < n → (q i).Fit KD) (hp : ∀ i, i < m → (p i).Fit KD) (h0 : 0 < D) (h0' : 0 < D') (hD : D * D' < Dg.B ^ KD) (bA : ∀ k, Bd D BA (A k)) (bB : ∀ k, Bd D' BB (B k)) (hG : (32 * (BA * BB)) * (1 + C) ^ 64 < Dg.B ^ KD) : ∃ r, Q.Rm d f (Q.cf A B) r ∧ (∀ k, Bd (D * D') ((32 * (BA * BB)) * (1 + C) ^ 64) (r k)) ∧ FnOK Tryz.prog true 129 [ringP d f, .c (ql n q), .c (ql m p)] (.c (nql (Q.tq r d) r)) := by
 have hDD : 0 < D * D' := Nat.mul_pos h0 h0'
 have hG1 : 32 * (BA * BB) < Dg.B ^ KD := Nat.lt_of_le_of_lt (Nat.le_mul_of_pos_right _ (Nat.pow_pos (by omega))) hG
 have fA : Q.Fin n A := by rw [← hA]; exact Q.qx_fin _ _
 have fB : Q.Fin m B := by rw [← hB]; exact Q.qx_fin _ _
 have hmu : ∀ i k, i ≤ n → Bd (D * D') (32 * (BA * BB)) (Q.mu A B i k) := fun i k hi => (Q.mu_bd bA bB i k).mono (Nat.mul_le_mul_right _ (by omega))
 have h1 := qpMul_ok (L := KD) (K := KD) hA hB (by omega) (by omega) hq hp (by decide) (fun i k hi => bd_fit (hmu i k hi) hDD hD hG1) (by decide)
 have bC : ∀ k, Bd (D * D') (32 * (BA * BB)) (Q.cf A B k) := fun k => by
  rw [← Q.mu_all fA]
  exact hmu n k (Nat.le_refl _)
 have hfin : Q.Fin (n + m - 1) (Q.cf A B) := by
  intro k hk
  refine Q.su_zero fun i hi => ?_
  rcases Nat.lt_or_ge i n with c | c
  ·rw [fB (k - i) (by omega), Rat.mul_zero]
  ·rw [fA i c, Rat.zero_mul]
 have hT := Q.tq_fin hfin
 have hl := Q.tq_le (Q.cf A B) (n + m - 1)
 generalize Q.tq (Q.cf A B) (n + m - 1) = T at *
 have hle : (32 * (BA * BB)) * (1 + C) ^ T ≤ (32 * (BA * BB)) * (1 + C) ^ 64 := Nat.mul_le_mul_left _ (Nat.pow_le_pow_right (by omega) (by omega))
 obtain ⟨r, r1, r2, r3⟩ := rnormal_n hF hT (by omega) hDD hD bC (Nat.lt_of_le_of_lt hle hG)
 refine ⟨r, r1, fun k => (r2 k).mono hle, ?_⟩
 clear r1 r2 hle hl hT fA fB bA bB hG hq hp hA hB hF hmu bC hfin
 generalize Q.tq r d = Z at *
 generalize Q.cf A B = S at *
 refine fn_ok (E := E1) E1_ok Tryz.func129 rfl mixed (by kernel_rfl) (by kernel_rfl) ?_
 conv => whnf
 refine ⟨_, h1, ?_⟩
 conv => whnf
 refine ⟨_, r3, ?_⟩
 conv => whnf
 exact ⟨rfl, Sub.refl _⟩
end Rf
end Go.Proofs.YtmbejakmeijcbaaGreat
/- Number fields: the calls of sums and products; coordinates, and the letter. -/
namespace Go.Proofs.YtmbejakmeijcbaaGreat
open Go.RowKit
open Classical in
noncomputable def Q.red (d : Nat) (f p : Nat → Rat) : Nat → Rat := if h : ∃ r, Q.Rm d f p r then h.choose else p
theorem Q.red_of {d : Nat} {f p r : Nat → Rat} (hf : Q.Mon d f) (h : Q.Rm d f p r) : r = Q.red d f p := by
 have e : ∃ r, Q.Rm d f p r := ⟨r, h⟩
 have : Q.red d f p = e.choose := dif_pos e
 rw [this]
 exact funext (h.eq hf e.choose_spec)
theorem Q.red_rm {d m : Nat} {f p : Nat → Rat} (hf : Q.Mon d f) (hp : Q.Fin m p) : Q.Rm d f p (Q.red d f p) := by
 have h := Q.dvs_rm hf (N := m) (hp.mono (show m ≤ m + d by omega))
 rw [← Q.red_of hf h]
 exact h
namespace Rf
set_option maxHeartbeats 4000000 in
theorem nAdd_ok {n d N M T : Nat} {c : Nat → RawZ} {f r : Nat → Rat} {q p : Nat → RawR} (ho : FnOK Tryz.prog true 89 [.g [zl n c]] (.t2 (ringP d f) (.c (.int .i64 0)))) (hr : FnOK Tryz.prog true 125 [ringP d f, .c (ql N q), .c (ql M p)] (.c (nql T r))) : FnOK Tryz.prog true 87 [.g [zl n c], .c (ql N q), .c (ql M p)] (.t2 (.c (nql T r)) (.c (.int .i64 0))) := by
 refine fn_ok (E := E1) E1_ok Tryz.func87 rfl mixed (by kernel_rfl) (by kernel_rfl) ?_
 conv => whnf
 refine ⟨_, ho, ?_⟩
 conv => whnf
 refine ⟨_, hr, ?_⟩
 conv => whnf
 exact ⟨rfl, Sub.refl _⟩
theorem qof_one : FnOK Tryz.prog true 44 [.c (.int .i64 1)] (.g (nq 1)) := by
 have h := qof_ok (n := 1) (by decide) (by decide)
 rwa [show ((1 : Int) : Rat) = 1 from rfl] at h
theorem xp_bd (k : Nat) : Bd 1 1 (Q.xp 1 k) := by
 unfold Q.xp
 split
 ·exact Bd.int 1
 ·exact Bd.zero _ _
set_option maxHeartbeats 4000000 in
theorem rgen_ok {d C : Nat} {f : Nat → Rat} (hF : Fd d C f) (hC : (1 + C) ^ 2 < Dg.B ^ KD) : (∀ k, Bd 1 ((1 + C) ^ 2) (Q.red d f (Q.xp 1) k)) ∧ FnOK Tryz.prog true 130 [ringP d f] (.c (nql (Q.tq (Q.red d f (Q.xp 1)) d) (Q.red d f (Q.xp 1)))) := by
 obtain ⟨r, r1, r2, r3⟩ := rnormal_n (D := 1) (B := 1) hF (Q.xp_fin 1) (by decide) (by decide) one_lt_kd xp_bd (by rw [Nat.one_mul]; exact hC)
 have e := Q.red_of hF.mon r1
 rw [← e]
 refine ⟨fun k => by have := r2 k; rwa [Nat.one_mul] at this, ?_⟩
 have h0 := qof_zero
 have h1 := qof_one
 have r3 : FnOK Tryz.prog true 108 [ringP d f, .c (.row 4 2 (rowF 4 (nq 0 ++ nq 1)))] (.c (nql (Q.tq r d) r)) := arg_ok r3 fun D w vs h => by
  match vs, h with
  | [v0, v1], ⟨g0, g1, _⟩ =>
   refine ⟨g0, subRowG rfl (fun i j hi hj => ?_) D w v1 g1, trivial⟩
   match i, j, hi, hj with
   | 0, 0, _, _ => rfl
   | 0, 1, _, _ => rfl
   | 0, 2, _, _ => rfl
   | 0, 3, _, _ => rfl
   | 1, 0, _, _ => rfl
   | 1, 1, _, _ => rfl
   | 1, 2, _, _ => rfl
   | 1, 3, _, _ => rfl
 clear r1 r2 e hC hF
 generalize Q.tq r d = T at *
 refine fn_ok (E := E1) E1_ok Tryz.func130 rfl mixed (by kernel_rfl) (by kernel_rfl) ?_
 conv => whnf
 refine ⟨_, h0, ?_⟩
 conv => whnf
 refine ⟨_, h1, ?_⟩
 conv => whnf
 refine ⟨fun i j hi hj => ?_, ?_⟩
 ·match i, j, hi, hj with
  | 0, 0, _, _ => rfl
  | 0, 1, _, _ => rfl
  | 0, 2, _, _ => rfl
  | 0, 3, _, _ => rfl
  | 1, 0, _, _ => rfl
  | 1, 1, _, _ => rfl
  | 1, 2, _, _ => rfl
  | 1, 3, _, _ => rfl
 conv => whnf
 refine ⟨_, r3, ?_⟩
 conv => whnf
 exact ⟨rfl, Sub.refl _⟩
theorem app_zero {f g : Nat → Nat → Cell} (i j : Nat) : appF 0 f g i j = g i j := if_neg (Nat.not_lt_zero i)
set_option maxHeartbeats 4000000 in
theorem rcoord_ok {d m : Nat} {f x : Nat → Rat} (hx : Q.Fin m x) (hm : m ≤ d) (hd : d ≤ 12) : FnOK Tryz.prog true 128 [ringP d f, .c (nql m x)] (.c (nql d x)) := by
 have h0 := qof_zero
 refine fn_ok (E := E1) E1_ok Tryz.func128 rfl mixed (by kernel_rfl) (by kernel_rfl) ?_
 conv => whnf
 refine ⟨by show 0 + m ≤ 16777216; omega, fun i j hi hj => ?_, ?_⟩
 ·match j, hj with
  | 0, _ => exact ⟨rfl, fun _ => rfl⟩
  | 1, _ => exact ⟨rfl, fun _ => rfl⟩
  | 2, _ => exact ⟨rfl, fun _ => rfl⟩
  | 3, _ => exact ⟨rfl, fun _ => rfl⟩
 conv => whnf
 refine loop_ints (fun k : Nat => gst [(0, ringP d f), (5, .c (.gs 0 0))] [gqr k fun i => ofR (x i)]) (fun k => d - k) (fun k => m ≤ k ∧ k ≤ d) m rfl ?_ ⟨Nat.le_refl _, hm⟩ fun k ⟨hk1, hk2⟩ => ?_
 ·exact Weak.gen [some 0] rfl ⟨⟨_, rfl, rfl, rfl, by show 0 + m = m; omega, rfl, fun a b ha hb => regE (app_zero (f := rowF 4 []) (g := qlF fun i => ofR (x i)) a b) (ql_clos (c := fun i => ofR (x i)) a b)⟩, trivial⟩ ⟨⟨rfl, rfl⟩, ⟨_, rfl, rfl, rfl⟩, trivial⟩
 have hxk : ∀ j, (if j = k then nq 0 else nq (x j)) = nq (x j) := fun j => by
  split
  ·rename_i e
   rw [e, hx k hk1]
  ·rfl
 conv => whnf
 refine bcase (fun (h : decide ((k : Int) < ((d + 1 : Nat) : Int) - 1) = true) => ?_) fun (h : decide ((k : Int) < ((d + 1 : Nat) : Int) - 1) = false) => ?_
 ·have h := of_decide_eq_true h
  conv => whnf
  refine ⟨_, h0, ?_⟩
  conv => whnf
  refine ⟨by show k + 1 ≤ 16777216; omega, fun i j hi hj => ?_, ?_⟩
  ·match i, j, hi, hj with
   | 0, 0, _, _ => exact ⟨rfl, fun _ => rfl⟩
   | 0, 1, _, _ => exact ⟨rfl, fun _ => rfl⟩
   | 0, 2, _, _ => exact ⟨rfl, fun _ => rfl⟩
   | 0, 3, _, _ => exact ⟨rfl, fun _ => rfl⟩
  conv => whnf
  refine ⟨k + 1, by omega, Weak.gen [some 0] rfl ⟨⟨_, rfl, rfl, rfl, rfl, rfl, fun a b ha hb => regE ?_ (ql_clos (c := fun i => ofR (x i)) a b)⟩, trivial⟩ ⟨⟨rfl, rfl⟩, ⟨_, rfl, rfl, rfl⟩, trivial⟩, by omega, by omega⟩
  exact appG (sz := 4) (g := fun i => nq (x i)) (g' := fun i => nq (x i)) (l := nq 0) (hxk a) (Nat.le_refl (k + 1)) ha
 ·have h := of_decide_eq_false h
  have e : k = d := by omega
  conv => whnf
  refine ⟨fun i j _ _ => ql_clos (c := fun i => ofR (x i)) i j, ?_⟩
  conv => whnf
  exact ⟨rfl, subRowG e fun _ _ _ _ => rfl⟩
end Rf
end Go.Proofs.YtmbejakmeijcbaaGreat
/- The document's fractions in normal form: sign, comparison, product, sum; combinations of lists. -/
namespace Go.Proofs.YtmbejakmeijcbaaGreat
open Go.RowKit
namespace Rf
theorem lenZ {x : Rat} {L : Nat} (h : qlen x ≤ L) : zlen x.num ≤ L ∧ zlen (x.den : Int) ≤ L := by
 have h : max (zlen x.num) (zlen (x.den : Int)) ≤ L := h
 omega
theorem wq_n {x : Rat} (h : qlen x ≤ 524286) : wq (ofR x) := by
 have h1 := lenZ h
 refine ⟨⟨wr_nz (by omega), wr_nz (by omega)⟩, ?_, ?_⟩
 ·show zlen (ofZ x.num).val ≤ _
  rw [ofZ_val]; exact h1.1
 ·show zlen (ofZ (x.den : Int)).val ≤ _
  rw [ofZ_val]; exact h1.2
theorem rqnorm_n {x : Rat} (h : qlen x ≤ 524286) : FnOK Tryz.prog false 120 [.g (nq x)] (.g (nq x)) := by
 have := rqnormal_ok (wq_n h)
 rwa [ofR_val] at this
set_option maxHeartbeats 4000000 in
theorem rqsign_n {x : Rat} (h : qlen x ≤ 524286) : FnOK Tryz.prog false 52 [.g (nq x)] (.c (.int .i64 x.num.sign)) := by
 have h1 := lenZ h
 have s1 := zsign_ok (a := ofZ x.num) (wr_nz (by omega))
 have s2 := zsign_ok (a := ofZ (x.den : Int)) (wr_nz (by omega))
 rw [ofZ_val] at s1 s2
 have e : x.num.sign * (x.den : Int).sign = x.num.sign := by
  have := x.den_pos
  rw [Int.sign_eq_one_of_pos (show (0 : Int) < (x.den : Int) by omega), Int.mul_one]
 refine fn_ok (E := E0) E0_ok Tryz.func52 rfl mixed (by kernel_rfl) (by kernel_rfl) ?_
 conv => whnf
 refine ⟨_, s1, ?_⟩
 conv => whnf
 refine ⟨_, s2, ?_⟩
 conv => whnf
 refine ⟨sign_range _ _, ?_⟩
 conv => whnf
 exact ⟨rfl, Sub.int e⟩
set_option maxHeartbeats 4000000 in
theorem rqsame_n {x y : Rat} (h : qlen x ≤ 524286) : FnOK Tryz.prog false 23 [.g (nq x), .g (nq y)] (.c (.bool (decide (x = y)))) := by
 have h1 := lenZ h
 have s1 := same_nz (x := x.num) (y := y.num) (by omega)
 have s2 := same_nz (x := (x.den : Int)) (y := (y.den : Int)) (by omega)
 have e : x = y ↔ x.num = y.num ∧ (x.den : Int) = (y.den : Int) := ⟨fun e => by rw [e]; exact ⟨rfl, rfl⟩, fun ⟨a, b⟩ => Rat.ext a (by omega)⟩
 have e1 : x.num ≠ y.num → false = decide (x = y) := fun a => (decide_eq_false fun b => a (e.1 b).1).symm
 have e2 : x.num = y.num → decide ((x.den : Int) = (y.den : Int)) = decide (x = y) := fun a => decide_eq_decide.2 ⟨fun b => e.2 ⟨a, b⟩, fun b => (e.1 b).2⟩
 refine fn_ok (E := E0) E0_ok Tryz.func23 rfl mixed (by kernel_rfl) (by kernel_rfl) ?_
 conv => whnf
 refine ⟨_, s1, ?_⟩
 conv => whnf
 refine bcase (fun (c : gw true (decide (x.num = y.num)) = true) => ?_) fun (c : gw true (decide (x.num = y.num)) = false) => ?_
 ·have c := e2 (of_decide_eq_true (gw_true.1 c))
  conv => whnf
  refine ⟨_, s2, ?_⟩
  conv => whnf
  exact ⟨rfl, sub_bool c⟩
 ·have c := e1 (of_decide_eq_false (gw_false.1 c))
  conv => whnf
  exact ⟨rfl, sub_bool c⟩
theorem over_n {a b : Int} {x : Rat} (hx : ratio a b = x) (h1 : zlen a ≤ 524286) (h2 : zlen b ≤ 524286) : FnOK Tryz.prog false 121 [.g (nz a), .g (nz b)] (.g (nq x)) := by
 have := rover_ok (a := ofZ a) (b := ofZ b) (wr_nz (by omega)) (wr_nz (by omega)) (by rw [ofZ_val]; exact h1) (by rw [ofZ_val]; exact h2)
 rw [ofZ_val, ofZ_val, hx] at this
 exact this
set_option maxHeartbeats 4000000 in
theorem rqmul_n {x y : Rat} (hx : qlen x ≤ 65535) (hy : qlen y ≤ 65535) : FnOK Tryz.prog false 84 [.g (nq x), .g (nq y)] (.g (nq (x * y))) := by
 have h1 := lenZ hx
 have h2 := lenZ hy
 have m1 := zmul_n (a := x.num) (b := y.num) (by omega)
 have m2 := zmul_n (a := (x.den : Int)) (b := (y.den : Int)) (by omega)
 have l1 := zlen_mul x.num y.num
 have l2 := zlen_mul (x.den : Int) (y.den : Int)
 have o := over_n (x := x * y) (a := x.num * y.num) (b := (x.den : Int) * (y.den : Int)) (by rw [← ratio_mul, ratio_num_den, ratio_num_den]) (by omega) (by omega)
 refine fn_ok (E := E0) E0_ok Tryz.func84 rfl mixed (by kernel_rfl) (by kernel_rfl) ?_
 conv => whnf
 refine ⟨_, m1, ?_⟩
 conv => whnf
 refine ⟨_, m2, ?_⟩
 conv => whnf
 refine ⟨_, o, ?_⟩
 conv => whnf
 exact ⟨rfl, Sub.refl _⟩
set_option maxHeartbeats 4000000 in
theorem rqadd_n {x y : Rat} (hx : qlen x ≤ 131070) (hy : qlen y ≤ 131070) : FnOK Tryz.prog false 83 [.g (nq x), .g (nq y)] (.g (nq (x + y))) := by
 have h1 := lenZ hx
 have h2 := lenZ hy
 have n1 := rqnorm_n (x := x) (by omega)
 have n2 := rqnorm_n (x := y) (by omega)
 have m1 := zmul_n (a := x.num) (b := (y.den : Int)) (by omega)
 have m2 := zmul_n (a := y.num) (b := (x.den : Int)) (by omega)
 have m3 := zmul_n (a := (x.den : Int)) (b := (y.den : Int)) (by omega)
 have l1 := zlen_mul x.num (y.den : Int)
 have l2 := zlen_mul y.num (x.den : Int)
 have l3 := zlen_mul (x.den : Int) (y.den : Int)
 have l4 := zlen_add (x.num * (y.den : Int)) (y.num * (x.den : Int))
 have a1 := zadd_ok (a := ofZ (x.num * (y.den : Int))) (b := ofZ (y.num * (x.den : Int))) (wr_nz (by omega)) (wr_nz (by omega)) (by rw [ofZ_val]; omega) (by rw [ofZ_val]; omega)
 rw [ofZ_val, ofZ_val] at a1
 have d1 := x.den_pos
 have d2 := y.den_pos
 have o := over_n (x := x + y) (a := x.num * (y.den : Int) + y.num * (x.den : Int)) (b := (x.den : Int) * (y.den : Int)) (by rw [← ratio_add (by omega) (by omega), ratio_num_den, ratio_num_den]) (by omega) (by omega)
 refine fn_ok (E := E0) E0_ok Tryz.func83 rfl mixed (by kernel_rfl) (by kernel_rfl) ?_
 conv => whnf
 refine ⟨_, n1, ?_⟩
 conv => whnf
 refine ⟨_, n2, ?_⟩
 conv => whnf
 refine ⟨_, m1, ?_⟩
 conv => whnf
 refine ⟨_, m2, ?_⟩
 conv => whnf
 refine ⟨_, a1, ?_⟩
 conv => whnf
 refine ⟨_, m3, ?_⟩
 conv => whnf
 refine ⟨_, o, ?_⟩
 conv => whnf
 exact ⟨rfl, Sub.refl _⟩
end Rf
end Go.Proofs.YtmbejakmeijcbaaGreat
/- The document's lists of fractions: zeros, combinations. -/
namespace Go.Proofs.YtmbejakmeijcbaaGreat
open Go.RowKit
namespace Rf
theorem rqof_zero : FnOK Tryz.prog false 33 [.c (.int .i64 0)] (.g (nq 0)) := by
 have h := rqof_ok (n := 0) (by decide) (by decide)
 rwa [show ((0 : Int) : Rat) = 0 from rfl] at h
theorem app_sameq (v : Nat → Rat) (i j : Nat) : (if j = i then nq (v i) else nq (v j)) = nq (v j) := app_same (fun i => nq (v i)) i j
theorem one_nq {bl : List Blk} (x : Rat) (r : Bool) (i j : Nat) (hi : i < 1) (hj : j < 4) : St.one bl (rowF 4 (nq x) i j) = true ∧ (r = true → (rowF 4 (nq x) i j).noU = true) := by
 match i, j, hi, hj with
 | 0, 0, _, _ => exact ⟨rfl, fun _ => rfl⟩
 | 0, 1, _, _ => exact ⟨rfl, fun _ => rfl⟩
 | 0, 2, _, _ => exact ⟨rfl, fun _ => rfl⟩
 | 0, 3, _, _ => exact ⟨rfl, fun _ => rfl⟩
end Rf
end Go.Proofs.YtmbejakmeijcbaaGreat
/- The document's matrices: rows. -/
namespace Go.Proofs.YtmbejakmeijcbaaGreat
open Go.RowKit
abbrev matL (n m : Nat) (G : Nat → Nat → Rat) : List Cell := [.int .i64 n, .int .i64 m, .row 4 (n * m) (qlF fun k => ofR (G (k / m) (k % m)))]
namespace Rf
abbrev rowsC (n m : Nat) (G : Nat → Nat → Rat) : Cell := .row 1 n fun i _ => nql m (G i)
theorem mat_idx {n m i j : Nat} (hi : i < n) (hj : j < m) : i * m + j < n * m ∧ (i * m + j) / m = i ∧ (i * m + j) % m = j := by
 have h1 : (i + 1) * m ≤ n * m := Nat.mul_le_mul_right _ hi
 rw [Nat.add_mul] at h1
 refine ⟨by omega, ?_, ?_⟩
 ·rw [Nat.mul_comm, Nat.mul_add_div (by omega), Nat.div_eq_of_lt hj, Nat.add_zero]
 ·rw [Nat.mul_comm, Nat.mul_add_mod, Nat.mod_eq_of_lt hj]
end Rf
end Go.Proofs.YtmbejakmeijcbaaGreat
/- The document's matrices: a list times a matrix; a matrix of rows; products. -/
namespace Go.Proofs.YtmbejakmeijcbaaGreat
open Go.RowKit
namespace Rf
end Rf
end Go.Proofs.YtmbejakmeijcbaaGreat
/- The document's product of matrices. -/
namespace Go.Proofs.YtmbejakmeijcbaaGreat
open Go.RowKit
namespace Rf
end Rf
end Go.Proofs.YtmbejakmeijcbaaGreat
/- Lists and matrices are the same as themselves. -/
namespace Go.Proofs.YtmbejakmeijcbaaGreat
open Go.RowKit
namespace Rf
end Rf
end Go.Proofs.YtmbejakmeijcbaaGreat
/- The document's polynomials over the rational numbers: normal form, degree, product. -/
namespace Go.Proofs.YtmbejakmeijcbaaGreat
open Go.RowKit
namespace Rf
set_option maxHeartbeats 4000000 in
theorem normal6_ok {n : Nat} {q : Nat → RawR} {v : Nat → Rat} (hn : n ≤ 4096) (hv : ∀ i, i < n → (q i).val = v i) (hq : ∀ i, i < n → wq (q i)) (hl : ∀ i, i < n → qlen (v i) ≤ 524286) : FnOK Tryz.prog false 82 [.c (ql n q)] (.c (nql (Q.tq v n) v)) := by
 have h1 : ∀ i, i < n → FnOK Tryz.prog false 120 [.g (rr (q i))] (.g (nq (v i))) := fun i hi => by
  rw [← hv i hi]
  exact rqnormal_ok (hq i hi)
 have h2 : ∀ i, i < n → FnOK Tryz.prog false 52 [.g (nq (v i))] (.c (.int .i64 (v i).num.sign)) := fun i hi => rqsign_n (hl i hi)
 clear hv hq hl
 refine fn_ok (E := E0) E0_ok Tryz.func82 rfl mixed (by kernel_rfl) (by kernel_rfl) ?_
 conv => whnf
 refine loop_ints (fun i : Nat => gst [(0, .c (ql n q)), (3, .c (.gs 0 0)), (4, .c (.int .i64 i))] [gqr i fun k => ofR (v k)]) (fun i => n - i) (fun i => i ≤ n) 0 rfl (Weak.gen [none] rfl ⟨rfl, trivial⟩ ⟨.inl ⟨_, _, rfl, rfl, fun _ _ _ _ => rfl⟩, rfl, ⟨_, rfl, rfl⟩, trivial⟩) (Nat.zero_le _) fun i hi => ?_
 conv => whnf
 refine bcase (fun (h : decide ((i : Int) < n) = true) => ?_) fun (h : decide ((i : Int) < n) = false) => ?_
 ·have h := of_decide_eq_true h
  have g1 := h1 i (by omega)
  conv => whnf
  refine ⟨by omega, ?_⟩
  conv => whnf
  refine ⟨by omega, ?_⟩
  conv => whnf
  refine ⟨_, g1, ?_⟩
  conv => whnf
  refine ⟨by show i + 1 ≤ 16777216; omega, fun x y hx hy => one_nq (v i) _ x y hx hy, ?_⟩
  conv => whnf
  refine ⟨i64 (by omega) (by omega), ?_⟩
  conv => whnf
  refine ⟨i + 1, by omega, Weak.gen [some 0] rfl ⟨⟨_, rfl, rfl, rfl, rfl, rfl, fun j k hj hk => ?_⟩, trivial⟩ ⟨.inl ⟨_, _, rfl, rfl, fun _ _ _ _ => rfl⟩, ⟨_, rfl, rfl, rfl⟩, ⟨_, rfl, rfl⟩, trivial⟩, by omega⟩
  exact regE (appG (sz := 4) (g := fun i => nq (v i)) (g' := fun i => nq (v i)) (l := nq (v i)) (app_sameq v i j) (Nat.le_refl (i + 1)) hj) (ql_clos (c := fun i => ofR (v i)) j k)
 ·have h := of_decide_eq_false h
  have e : i = n := by omega
  conv => whnf
  refine loop_ints (fun m : Nat => gst [(3, .c (.gs 0 0)), (5, .c (.int .i64 m))] [gqr i fun k => ofR (v k)]) (fun m => m) (fun m => m ≤ i ∧ Q.tq v m = Q.tq v i) i rfl (Weak.gen [some 0] rfl ⟨⟨_, rfl, rfl, rfl, rfl, rfl, fun j k hj hk => regE rfl (ql_clos (c := fun i => ofR (v i)) j k)⟩, trivial⟩ ⟨⟨_, rfl, rfl, rfl⟩, ⟨_, rfl, rfl⟩, trivial⟩) ⟨Nat.le_refl _, rfl⟩ fun m ⟨hm, ht⟩ => ?_
  conv => whnf
  refine bcase (fun (h : gw true (decide ((0 : Int) < m)) = true) => ?_) fun (h : gw true (decide ((0 : Int) < m)) = false) => ?_
  ·have h := of_decide_eq_true (gw_true.1 h)
   have ek : ((m : Int) - 1).toNat = m - 1 := by omega
   have hs := h2 ((m : Int) - 1).toNat (by omega)
   have hz : v ((m : Int) - 1).toNat = 0 → Q.tq v (m - 1) = Q.tq v i := fun h => by
    rw [← ht]
    obtain ⟨k, rfl⟩ : ∃ k, m = k + 1 := ⟨m - 1, by omega⟩
    rw [ek] at h
    show Q.tq v k = _
    simp only [Q.tq, Nat.add_sub_cancel] at h ⊢
    rw [if_pos h]
   have hz' : v ((m : Int) - 1).toNat ≠ 0 → m = Q.tq v n := fun h => by
    rw [← e, ← ht]
    obtain ⟨k, rfl⟩ : ∃ k, m = k + 1 := ⟨m - 1, by omega⟩
    rw [ek] at h
    simp only [Q.tq, Nat.add_sub_cancel] at h ⊢
    rw [if_neg h]
   conv => whnf
   refine ⟨i64 (by omega) (by omega), ?_⟩
   conv => whnf
   refine ⟨by omega, ?_⟩
   conv => whnf
   refine ⟨by show ((m : Int) - 1) < (i : Int); omega, ?_⟩
   conv => whnf
   refine ⟨_, hs, ?_⟩
   conv => whnf
   refine bcase (fun (h3 : decide ((v ((m : Int) - 1).toNat).num.sign = 0) = true) => ?_) fun (h3 : decide ((v ((m : Int) - 1).toNat).num.sign = 0) = false) => ?_
   ·have h3 := Rat.num_eq_zero.1 (Int.sign_eq_zero_iff_zero.1 (of_decide_eq_true h3))
    have g3 := hz h3
    conv => whnf
    refine ⟨i64 (by omega) (by omega), ?_⟩
    conv => whnf
    exact ⟨m - 1, by omega, Weak.gen [some 0] rfl ⟨⟨_, rfl, rfl, rfl, rfl, rfl, fun j k hj hk => regE rfl (ql_clos (c := fun i => ofR (v i)) j k)⟩, trivial⟩ ⟨⟨_, rfl, rfl, rfl⟩, ⟨_, rfl, by omega⟩, trivial⟩, by omega, g3⟩
   ·have h3 := hz' fun e => of_decide_eq_false h3 (by rw [e]; rfl)
    conv => whnf
    refine ⟨by omega, by omega, ?_⟩
    conv => whnf
    refine ⟨by show (m : Int) ≤ (i : Int); omega, ?_⟩
    conv => whnf
    refine ⟨fun j k _ _ => ql_clos (c := fun i => ofR (v i)) j k, ?_⟩
    conv => whnf
    exact ⟨rfl, subRowG (by show ((m : Int) - 0).toNat = _; omega) fun j k _ _ => qlF_eq (c := fun i => ofR (v i)) (e := fun i => ofR (v i)) (i := Int.toNat 0 + j) (k := j) (congrArg (fun t => ofR (v t)) (by omega))⟩
  ·have h : ¬ (0 : Int) < m := of_decide_eq_false (gw_false.1 h)
   have h3 : Q.tq v n = 0 := by rw [← e, ← ht]; rw [show m = 0 by omega]; rfl
   conv => whnf
   refine ⟨by omega, by omega, ?_⟩
   conv => whnf
   refine ⟨by show (m : Int) ≤ (i : Int); omega, ?_⟩
   conv => whnf
   refine ⟨fun j k _ _ => ql_clos (c := fun i => ofR (v i)) j k, ?_⟩
   conv => whnf
   exact ⟨rfl, subRowG (by show ((m : Int) - 0).toNat = _; omega) fun j k _ _ => qlF_eq (c := fun i => ofR (v i)) (e := fun i => ofR (v i)) (i := Int.toNat 0 + j) (k := j) (congrArg (fun t => ofR (v t)) (by omega))⟩
end Rf
end Go.Proofs.YtmbejakmeijcbaaGreat
/- The document's fractions and polynomials over the rational numbers: whole numbers, negatives, differences, ratios; lists of whole numbers, places, sums. -/
namespace Go.Proofs.YtmbejakmeijcbaaGreat
open Go.RowKit
namespace Rf
set_option maxHeartbeats 4000000 in
theorem rqwhole_ok {a : RawZ} (h : wr a) : FnOK Tryz.prog false 105 [.g (zr a)] (.g (nq (a.val : Rat))) := by
 have o1 := znorm_ok h
 have o2 := rof_ok (x := 1) (by decide) (by decide)
 refine fn_ok (E := E0) E0_ok Tryz.func105 rfl mixed (by kernel_rfl) (by kernel_rfl) ?_
 conv => whnf
 refine ⟨_, o1, ?_⟩
 conv => whnf
 refine ⟨_, o2, ?_⟩
 conv => whnf
 refine ⟨rfl, leaf (x := ((a.val : Int) : Rat)) (n := a.val) (d := 1) ?_⟩
 unfold ofR; simp
theorem zneg_n {x : Int} (h : zlen x ≤ 1048576) : FnOK Tryz.prog false 153 [.g (nz x)] (.g (nz (-x))) := by
 have := zneg_ok (a := ofZ x) (wr_nz h)
 rwa [ofZ_val] at this
set_option maxHeartbeats 4000000 in
theorem rqneg_n {x : Rat} (hx : qlen x ≤ 131070) : FnOK Tryz.prog false 143 [.g (nq x)] (.g (nq (-x))) := by
 have h1 := lenZ hx
 have m1 := zneg_n (x := x.num) (by omega)
 have e := zlen_neg x.num
 have o := over_n (x := -x) (a := -x.num) (b := (x.den : Int)) (by rw [ratio_neg_left, ratio_num_den]) (by omega) (by omega)
 refine fn_ok (E := E0) E0_ok Tryz.func143 rfl mixed (by kernel_rfl) (by kernel_rfl) ?_
 conv => whnf
 refine ⟨_, m1, ?_⟩
 conv => whnf
 refine ⟨_, o, ?_⟩
 conv => whnf
 exact ⟨rfl, Sub.refl _⟩
theorem qlen_neg (x : Rat) : qlen (-x) = qlen x := by
 show max (zlen (-x).num) (zlen ((-x).den : Int)) = max (zlen x.num) (zlen (x.den : Int))
 rw [Rat.neg_num, Rat.neg_den, zlen_neg]
set_option maxHeartbeats 4000000 in
theorem rqsub_n {x y : Rat} (hx : qlen x ≤ 131070) (hy : qlen y ≤ 131070) : FnOK Tryz.prog false 104 [.g (nq x), .g (nq y)] (.g (nq (x - y))) := by
 have m1 := rqneg_n hy
 have o := rqadd_n hx (y := -y) (by rw [qlen_neg]; exact hy)
 rw [← Rat.sub_eq_add_neg] at o
 refine fn_ok (E := E0) E0_ok Tryz.func104 rfl mixed (by kernel_rfl) (by kernel_rfl) ?_
 conv => whnf
 refine ⟨_, m1, ?_⟩
 conv => whnf
 refine ⟨_, o, ?_⟩
 conv => whnf
 exact ⟨rfl, Sub.refl _⟩
set_option maxHeartbeats 4000000 in
theorem rqratio_n {x y : Rat} (hx : qlen x ≤ 131070) (hy : qlen y ≤ 131070) : FnOK Tryz.prog false 103 [.g (nq x), .g (nq y)] (.g (nq (x / y))) := by
 have h1 := lenZ hx
 have h2 := lenZ hy
 have n1 := rqnorm_n (x := x) (by omega)
 have n2 := rqnorm_n (x := y) (by omega)
 have m1 := zmul_n (a := x.num) (b := (y.den : Int)) (by omega)
 have m2 := zmul_n (a := (x.den : Int)) (b := y.num) (by omega)
 have l1 := zlen_mul x.num (y.den : Int)
 have l2 := zlen_mul (x.den : Int) y.num
 have o := over_n (x := x / y) (a := x.num * (y.den : Int)) (b := (x.den : Int) * y.num) (by rw [← ratio_div, ratio_num_den, ratio_num_den]) (by omega) (by omega)
 refine fn_ok (E := E0) E0_ok Tryz.func103 rfl mixed (by kernel_rfl) (by kernel_rfl) ?_
 conv => whnf
 refine ⟨_, n1, ?_⟩
 conv => whnf
 refine ⟨_, n2, ?_⟩
 conv => whnf
 refine ⟨_, m1, ?_⟩
 conv => whnf
 refine ⟨_, m2, ?_⟩
 conv => whnf
 refine ⟨_, o, ?_⟩
 conv => whnf
 exact ⟨rfl, Sub.refl _⟩
set_option maxHeartbeats 4000000 in
theorem of6_ok {n : Nat} {c : Nat → RawZ} {v : Nat → Rat} (hn : n ≤ 4096) (hc : ∀ i, i < n → wr (c i)) (hv : (fun i => ((c i).val : Rat)) = v) (hl : ∀ i, i < n → qlen (v i) ≤ 524286) : FnOK Tryz.prog false 70 [.c (zl n c)] (.c (nql (Q.tq v n) v)) := by
 have h1 : ∀ i, i < n → FnOK Tryz.prog false 105 [.g (zr (c i))] (.g (nq (v i))) := fun i hi => by
  rw [← hv]
  exact rqwhole_ok (hc i hi)
 have n1 : ∀ i, i = n → FnOK Tryz.prog false 82 [.c (nql i v)] (.c (nql (Q.tq v n) v)) := fun i e => by
  rw [e]
  exact normal6_ok hn (fun i _ => ofR_val _) (fun i hi => wq_n (hl i hi)) hl
 clear hc hv hl
 refine fn_ok (E := E0) E0_ok Tryz.func70 rfl mixed (by kernel_rfl) (by kernel_rfl) ?_
 conv => whnf
 refine loop_ints (fun i : Nat => gst [(0, .c (zl n c)), (3, .c (.gs 0 0)), (4, .c (.int .i64 i))] [gqr i fun k => ofR (v k)]) (fun i => n - i) (fun i => i ≤ n) 0 rfl (Weak.gen [none] rfl ⟨rfl, trivial⟩ ⟨.inl ⟨_, _, rfl, rfl, fun _ _ _ _ => rfl⟩, rfl, ⟨_, rfl, rfl⟩, trivial⟩) (Nat.zero_le _) fun i hi => ?_
 have n1 := n1 i
 conv => whnf
 refine bcase (fun (h : decide ((i : Int) < n) = true) => ?_) fun (h : decide ((i : Int) < n) = false) => ?_
 ·have h := of_decide_eq_true h
  have g1 := h1 i (by omega)
  conv => whnf
  refine ⟨by omega, ?_⟩
  conv => whnf
  refine ⟨by omega, ?_⟩
  conv => whnf
  refine ⟨_, g1, ?_⟩
  conv => whnf
  refine ⟨by show i + 1 ≤ 16777216; omega, fun x y hx hy => one_nq (v i) _ x y hx hy, ?_⟩
  conv => whnf
  refine ⟨i64 (by omega) (by omega), ?_⟩
  conv => whnf
  refine ⟨i + 1, by omega, Weak.gen [some 0] rfl ⟨⟨_, rfl, rfl, rfl, rfl, rfl, fun j k hj hk => ?_⟩, trivial⟩ ⟨.inl ⟨_, _, rfl, rfl, fun _ _ _ _ => rfl⟩, ⟨_, rfl, rfl, rfl⟩, ⟨_, rfl, rfl⟩, trivial⟩, by omega⟩
  exact regE (appG (sz := 4) (g := fun i => nq (v i)) (g' := fun i => nq (v i)) (l := nq (v i)) (app_sameq v i j) (Nat.le_refl (i + 1)) hj) (ql_clos (c := fun i => ofR (v i)) j k)
 ·have h := of_decide_eq_false h
  have n1 := n1 (by omega)
  conv => whnf
  refine .inr ⟨fun x y _ _ => ql_clos (c := fun i => ofR (v i)) x y, ?_⟩
  conv => whnf
  refine ⟨_, n1, ?_⟩
  conv => whnf
  exact ⟨rfl, Sub.refl _⟩
set_option maxHeartbeats 4000000 in
theorem at6_ok {n i : Nat} {q : Nat → RawR} {F : Nat → Rat} (hF : Q.qx n (fun i => (q i).val) = F) (hi : i ≤ 4096) (hq : ∀ i, i < n → wq (q i)) : FnOK Tryz.prog false 88 [.c (ql n q), .c (.int .i64 i)] (.g (nq (F i))) := by
 have o0 := rqof_zero
 have e0 : ¬ i < n → nq 0 = nq (F i) := fun h => by rw [← hF, show Q.qx n (fun i => (q i).val) i = 0 from if_neg h]
 have n0 : i < n → FnOK Tryz.prog false 120 [.g (rr (q i))] (.g (nq (F i))) := fun h => by
  have := rqnormal_ok (hq i h)
  rw [← hF, Q.qx_lt h]
  exact this
 clear hF hq
 refine fn_ok (E := E0) E0_ok Tryz.func88 rfl mixed (by kernel_rfl) (by kernel_rfl) ?_
 conv => whnf
 refine bcase (fun (h : decide ((n : Int) ≤ i) = true) => ?_) fun (h : decide ((n : Int) ≤ i) = false) => ?_
 ·have h := e0 (by have := of_decide_eq_true h; omega)
  conv => whnf
  refine ⟨_, o0, ?_⟩
  conv => whnf
  rw [← h]
  exact ⟨rfl, Sub.refl _⟩
 ·have h := of_decide_eq_false h
  have n0 := n0 (by omega)
  conv => whnf
  refine ⟨by omega, by omega, ?_⟩
  conv => whnf
  refine ⟨_, n0, ?_⟩
  conv => whnf
  exact ⟨rfl, Sub.refl _⟩
set_option maxHeartbeats 4000000 in
theorem add6_ok {n m : Nat} {q p : Nat → RawR} {F G : Nat → Rat} (hF : Q.qx n (fun i => (q i).val) = F) (hG : Q.qx m (fun i => (p i).val) = G) (hn : n ≤ 1024) (hm : m ≤ 1024) (hq : ∀ i, i < n → wq (q i)) (hp : ∀ i, i < m → wq (p i)) (lF : ∀ i, qlen (F i) ≤ 131070) (lG : ∀ i, qlen (G i) ≤ 131070) (lS : ∀ i, qlen (F i + G i) ≤ 524286) : FnOK Tryz.prog false 57 [.c (ql n q), .c (ql m p)] (.c (nql (Q.tq (fun i => F i + G i) (max n m)) fun i => F i + G i)) := by
 have a1 : ∀ i : Nat, i ≤ 4096 → FnOK Tryz.prog false 88 [.c (ql n q), .c (.int .i64 i)] (.g (nq (F i))) := fun i hi => at6_ok hF hi hq
 have a2 : ∀ i : Nat, i ≤ 4096 → FnOK Tryz.prog false 88 [.c (ql m p), .c (.int .i64 i)] (.g (nq (G i))) := fun i hi => at6_ok hG hi hp
 have a3 : ∀ i, FnOK Tryz.prog false 83 [.g (nq (F i)), .g (nq (G i))] (.g (nq (F i + G i))) := fun i => rqadd_n (lF i) (lG i)
 have n0 := normal6_ok (n := max n m) (q := fun i => ofR (F i + G i)) (v := fun i => F i + G i) (by omega) (fun i _ => ofR_val _) (fun i _ => wq_n (lS i)) fun i _ => lS i
 clear hF hG hq hp lF lG lS
 obtain ⟨C, hC⟩ : ∃ C : Nat → Rat, C = fun i => F i + G i := ⟨_, rfl⟩
 have a4 : ∀ i, FnOK Tryz.prog false 83 [.g (nq (F i)), .g (nq (G i))] (.g (nq (C i))) := by rw [hC]; exact a3
 have n0 : FnOK Tryz.prog false 82 [.c (nql (max n m) C)] (.c (nql (Q.tq C (max n m)) C)) := by rw [hC]; exact n0
 rw [← hC]
 clear hC a3
 have n1 : ∀ i, i = max n m → FnOK Tryz.prog false 82 [.c (nql i C)] (.c (nql (Q.tq C (max n m)) C)) := fun i e => by rw [e]; exact n0
 clear n0
 refine fn_ok (E := E0) E0_ok Tryz.func57 rfl mixed (by kernel_rfl) (by kernel_rfl) ?_
 conv => whnf
 refine loop_ints (fun i : Nat => gst [(0, .c (ql n q)), (1, .c (ql m p)), (5, .c (.gs 0 0)), (6, .c (.int .i64 i))] [gqr i fun k => ofR (C k)]) (fun i => max n m - i) (fun i => i ≤ max n m) 0 rfl (Weak.gen [none] rfl ⟨rfl, trivial⟩ ⟨.inl ⟨_, _, rfl, rfl, fun _ _ _ _ => rfl⟩, .inl ⟨_, _, rfl, rfl, fun _ _ _ _ => rfl⟩, rfl, ⟨_, rfl, rfl⟩, trivial⟩) (Nat.zero_le _) fun i hi => ?_
 have a1 := a1 i
 have a2 := a2 i
 have a4 := a4 i
 have n1 := n1 i
 have fin : ∀ {P : Prop}, (i + 1 ≤ 16777216 → P) → i < max n m → P := fun f h => f (by omega)
 conv => whnf
 refine bcase (fun (h : gw false (decide ((i : Int) < n)) = true) => ?_) fun (h : gw false (decide ((i : Int) < n)) = false) => ?_
 ·have h := of_decide_eq_false (gwf h)
  conv => whnf
  refine bcase (fun (h2 : decide ((i : Int) < m) = true) => ?_) fun (h2 : decide ((i : Int) < m) = false) => ?_
  ·have h2 := of_decide_eq_true h2
   have a1 := a1 (by omega)
   have a2 := a2 (by omega)
   conv => whnf
   refine ⟨_, a1, ?_⟩
   conv => whnf
   refine ⟨_, a2, ?_⟩
   conv => whnf
   refine ⟨_, a4, ?_⟩
   conv => whnf
   refine ⟨by show i + 1 ≤ 16777216; omega, fun x y hx hy => one_nq (C i) _ x y hx hy, ?_⟩
   conv => whnf
   refine ⟨i64 (by omega) (by omega), ?_⟩
   conv => whnf
   refine ⟨i + 1, by omega, Weak.gen [some 0] rfl ⟨⟨_, rfl, rfl, rfl, rfl, rfl, fun x y hx hy => regE ?_ (ql_clos (c := fun i => ofR (C i)) x y)⟩, trivial⟩ ⟨.inl ⟨_, _, rfl, rfl, fun _ _ _ _ => rfl⟩, .inl ⟨_, _, rfl, rfl, fun _ _ _ _ => rfl⟩, ⟨_, rfl, rfl, rfl⟩, ⟨_, rfl, rfl⟩, trivial⟩, by omega⟩
   exact appG (sz := 4) (g := fun k => nq (C k)) (g' := fun k => nq (C k)) (l := nq (C i)) (app_sameq C i x) (Nat.le_refl (i + 1)) hx
  ·have h2 := of_decide_eq_false h2
   have n1 := n1 (by omega)
   conv => whnf
   refine .inr ⟨fun x y _ _ => ql_clos (c := fun i => ofR (C i)) x y, ?_⟩
   conv => whnf
   refine ⟨_, n1, ?_⟩
   conv => whnf
   exact ⟨rfl, Sub.refl _⟩
 ·have h := of_decide_eq_true (gwf' h)
  have a1 := a1 (by omega)
  have a2 := a2 (by omega)
  conv => whnf
  refine ⟨_, a1, ?_⟩
  conv => whnf
  refine ⟨_, a2, ?_⟩
  conv => whnf
  refine ⟨_, a4, ?_⟩
  conv => whnf
  refine ⟨by show i + 1 ≤ 16777216; omega, fun x y hx hy => one_nq (C i) _ x y hx hy, ?_⟩
  conv => whnf
  refine ⟨i64 (by omega) (by omega), ?_⟩
  conv => whnf
  refine ⟨i + 1, by omega, Weak.gen [some 0] rfl ⟨⟨_, rfl, rfl, rfl, rfl, rfl, fun x y hx hy => regE ?_ (ql_clos (c := fun i => ofR (C i)) x y)⟩, trivial⟩ ⟨.inl ⟨_, _, rfl, rfl, fun _ _ _ _ => rfl⟩, .inl ⟨_, _, rfl, rfl, fun _ _ _ _ => rfl⟩, ⟨_, rfl, rfl, rfl⟩, ⟨_, rfl, rfl⟩, trivial⟩, by omega⟩
  exact appG (sz := 4) (g := fun k => nq (C k)) (g' := fun k => nq (C k)) (l := nq (C i)) (app_sameq C i x) (Nat.le_refl (i + 1)) hx
end Rf
end Go.Proofs.YtmbejakmeijcbaaGreat
/- The document's division of polynomials over the rational numbers by a monic one. -/
namespace Go.Proofs.YtmbejakmeijcbaaGreat
open Go.RowKit
namespace Rf
set_option maxHeartbeats 4000000 in
theorem normal6_m {n : Nat} {q : Nat → RawR} {v : Nat → Rat} (hn : n ≤ 4096) (hv : ∀ i, i < n → (q i).val = v i) (hq : ∀ i, i < n → wq (q i)) (hl : ∀ i, i < n → qlen (v i) ≤ 524286) : FnM Tryz.prog false 82 phB [.c (ql n q)] (.c (.sl 1 0 4 0 (Q.tq v n))) phB [qB n fun i => ofR (v i)] := by
 have h1 : ∀ i, i < n → FnOK Tryz.prog false 120 [.g (rr (q i))] (.g (nq (v i))) := fun i hi => by
  rw [← hv i hi]
  exact rqnormal_ok (hq i hi)
 have h2 : ∀ i, i < n → FnOK Tryz.prog false 52 [.g (nq (v i))] (.c (.int .i64 (v i).num.sign)) := fun i hi => rqsign_n (hl i hi)
 clear hv hq hl
 refine fnm_ok (E := E0m) E0m_ok Tryz.func82 rfl mixed (by kernel_rfl) (by kernel_rfl) rfl ?_
 conv => whnf
 refine loop_ints1 (fun i : Nat => gst1 [(0, .c (ql n q)), (3, .c (.gs 1 0)), (4, .c (.int .i64 i))] [gqr i fun k => ofR (v k)]) (fun i => n - i) (fun i => i ≤ n) 0 rfl (Weak.gen1 [none] rfl rfl ⟨rfl, trivial⟩ ⟨.inl ⟨_, _, rfl, rfl, fun _ _ _ _ => rfl⟩, rfl, ⟨_, rfl, rfl⟩, trivial⟩) (Nat.zero_le _) fun i hi => ?_
 conv => whnf
 refine bcase (fun (h : decide ((i : Int) < n) = true) => ?_) fun (h : decide ((i : Int) < n) = false) => ?_
 ·have h := of_decide_eq_true h
  have g1 := h1 i (by omega)
  conv => whnf
  refine ⟨by omega, ?_⟩
  conv => whnf
  refine ⟨by omega, ?_⟩
  conv => whnf
  refine ⟨_, g1, ?_⟩
  conv => whnf
  refine ⟨by show i + 1 ≤ 16777216; omega, fun x y hx hy => one_nq (v i) _ x y hx hy, ?_⟩
  conv => whnf
  refine ⟨i64 (by omega) (by omega), ?_⟩
  conv => whnf
  refine ⟨i + 1, by omega, Weak.gen1 [some 1] rfl rfl ⟨⟨_, rfl, rfl, rfl, rfl, rfl, fun j k hj hk => ?_⟩, trivial⟩ ⟨.inl ⟨_, _, rfl, rfl, fun _ _ _ _ => rfl⟩, ⟨_, rfl, rfl, rfl⟩, ⟨_, rfl, rfl⟩, trivial⟩, by omega⟩
  exact regE (appG (sz := 4) (g := fun i => nq (v i)) (g' := fun i => nq (v i)) (l := nq (v i)) (app_sameq v i j) (Nat.le_refl (i + 1)) hj) (ql_clos (c := fun i => ofR (v i)) j k)
 ·have h := of_decide_eq_false h
  have e : i = n := by omega
  conv => whnf
  refine loop_ints1 (fun m : Nat => gst1 [(3, .c (.gs 1 0)), (5, .c (.int .i64 m))] [gqr i fun k => ofR (v k)]) (fun m => m) (fun m => m ≤ i ∧ Q.tq v m = Q.tq v i) i rfl (Weak.gen1 [some 1] rfl rfl ⟨⟨_, rfl, rfl, rfl, rfl, rfl, fun j k hj hk => regE rfl (ql_clos (c := fun i => ofR (v i)) j k)⟩, trivial⟩ ⟨⟨_, rfl, rfl, rfl⟩, ⟨_, rfl, rfl⟩, trivial⟩) ⟨Nat.le_refl _, rfl⟩ fun m ⟨hm, ht⟩ => ?_
  conv => whnf
  refine bcase (fun (h : gw true (decide ((0 : Int) < m)) = true) => ?_) fun (h : gw true (decide ((0 : Int) < m)) = false) => ?_
  ·have h := of_decide_eq_true (gw_true.1 h)
   have ek : ((m : Int) - 1).toNat = m - 1 := by omega
   have hs := h2 ((m : Int) - 1).toNat (by omega)
   have hz : v ((m : Int) - 1).toNat = 0 → Q.tq v (m - 1) = Q.tq v i := fun h => by
    rw [← ht]
    obtain ⟨k, rfl⟩ : ∃ k, m = k + 1 := ⟨m - 1, by omega⟩
    rw [ek] at h
    show Q.tq v k = _
    simp only [Q.tq, Nat.add_sub_cancel] at h ⊢
    rw [if_pos h]
   have hz' : v ((m : Int) - 1).toNat ≠ 0 → m = Q.tq v n := fun h => by
    rw [← e, ← ht]
    obtain ⟨k, rfl⟩ : ∃ k, m = k + 1 := ⟨m - 1, by omega⟩
    rw [ek] at h
    simp only [Q.tq, Nat.add_sub_cancel] at h ⊢
    rw [if_neg h]
   conv => whnf
   refine ⟨i64 (by omega) (by omega), ?_⟩
   conv => whnf
   refine ⟨by omega, ?_⟩
   conv => whnf
   refine ⟨by show ((m : Int) - 1) < (i : Int); omega, ?_⟩
   conv => whnf
   refine ⟨_, hs, ?_⟩
   conv => whnf
   refine bcase (fun (h3 : decide ((v ((m : Int) - 1).toNat).num.sign = 0) = true) => ?_) fun (h3 : decide ((v ((m : Int) - 1).toNat).num.sign = 0) = false) => ?_
   ·have h3 := Rat.num_eq_zero.1 (Int.sign_eq_zero_iff_zero.1 (of_decide_eq_true h3))
    have g3 := hz h3
    conv => whnf
    refine ⟨i64 (by omega) (by omega), ?_⟩
    conv => whnf
    exact ⟨m - 1, by omega, Weak.gen1 [some 1] rfl rfl ⟨⟨_, rfl, rfl, rfl, rfl, rfl, fun j k hj hk => regE rfl (ql_clos (c := fun i => ofR (v i)) j k)⟩, trivial⟩ ⟨⟨_, rfl, rfl, rfl⟩, ⟨_, rfl, by omega⟩, trivial⟩, by omega, g3⟩
   ·have h3 := hz' fun e => of_decide_eq_false h3 (by rw [e]; rfl)
    conv => whnf
    refine ⟨by omega, by omega, ?_⟩
    conv => whnf
    refine ⟨by show (m : Int) ≤ (i : Int); omega, ?_⟩
    conv => whnf
    refine Weak.gen1 (tl := [(0, .c (.sl 1 0 4 0 (Q.tq v n)))]) (xs := [gqr n fun i => ofR (v i)]) [some 1] rfl rfl ?_ ?_
    ·exact ⟨⟨_, rfl, rfl, rfl, e, rfl, fun j k hj hk => regE rfl (ql_clos (c := fun i => ofR (v i)) j k)⟩, trivial⟩
    ·exact ⟨⟨_, _, rfl, rfl, rfl, by show ((m : Int) - 0).toNat = _; omega⟩, trivial⟩
  ·have h : ¬ (0 : Int) < m := of_decide_eq_false (gw_false.1 h)
   have h3 : Q.tq v n = 0 := by rw [← e, ← ht]; rw [show m = 0 by omega]; rfl
   conv => whnf
   refine ⟨by omega, by omega, ?_⟩
   conv => whnf
   refine ⟨by show (m : Int) ≤ (i : Int); omega, ?_⟩
   conv => whnf
   refine Weak.gen1 (tl := [(0, .c (.sl 1 0 4 0 (Q.tq v n)))]) (xs := [gqr n fun i => ofR (v i)]) [some 1] rfl rfl ?_ ?_
   ·exact ⟨⟨_, rfl, rfl, rfl, e, rfl, fun j k hj hk => regE rfl (ql_clos (c := fun i => ofR (v i)) j k)⟩, trivial⟩
   ·exact ⟨⟨_, _, rfl, rfl, rfl, by show ((m : Int) - 0).toNat = _; omega⟩, trivial⟩
set_option maxHeartbeats 4000000 in
theorem divide6_short {n0 n d : Nat} {q : Nat → RawR} {v f : Nat → Rat} (hv : ∀ i, i < n0 → (q i).val = v i) (hn0 : n0 ≤ 1024) (hq : ∀ i, i < n0 → wq (q i)) (hl : ∀ i, i < n0 → qlen (v i) ≤ 524286) (ht : Q.tq v n0 = n) (hnd : n ≤ d) (hg : ∀ j, qlen (f j) ≤ 65535) (hf : Q.Mon d f) (hd : d ≤ 1024) : FnOK Tryz.prog false 69 [.c (ql n0 q), .c (nql (d + 1) f)] (.t2 (.c .nil) (.c (nql n v))) := by
 have hN0 := normal6_ok (by omega) hv hq hl
 rw [ht] at hN0
 have hB := normal6_ok (n := d + 1) (q := fun i => ofR (f i)) (v := f) (by omega) (fun i _ => ofR_val _) (fun i _ => wq_n (by have := hg i; omega)) fun i _ => by have := hg i; omega
 rw [Q.tq_self (n := d + 1) (v := f) fun k hk => by rw [show k = d by omega, hf.top]; decide] at hB
 clear hv hq hl ht hg hf
 refine fn_ok (E := E0) E0_ok Tryz.func69 rfl mixed (by kernel_rfl) (by kernel_rfl) ?_
 conv => whnf
 refine .inr ?_
 conv => whnf
 refine ⟨_, hN0, ?_⟩
 conv => whnf
 refine .inr ?_
 conv => whnf
 refine ⟨_, hB, ?_⟩
 conv => whnf
 refine bpos (show decide ((n : Int) < ((d + 1 : Nat) : Int)) = true from decide_eq_true (by omega)) ?_
 conv => whnf
 exact ⟨rfl, Sub.refl _⟩
set_option maxHeartbeats 16000000 in
theorem divide6_long {n0 n d : Nat} {q : Nat → RawR} {v f : Nat → Rat} (hf : Q.Mon d f) (hn0 : n0 ≤ 1024) (hv : ∀ i, i < n0 → (q i).val = v i) (hq : ∀ i, i < n0 → wq (q i)) (hl : ∀ i, i < n0 → qlen (v i) ≤ 524286) (ht : Q.tq v n0 = n) (hnd : d < n) (hs : ∀ t k, t ≤ n - d → qlen (Q.dvs d f (n - d) v t k) ≤ 65535) (hg : ∀ j, qlen (f j) ≤ 65535) : FnOK Tryz.prog false 69 [.c (ql n0 q), .c (nql (d + 1) f)] (.t2 (.c (nql (Q.tq (Q.dvq d f (n - d) v) (n - d)) (Q.dvq d f (n - d) v))) (.c (nql (Q.tq (Q.dvs d f (n - d) v (n - d)) n) (Q.dvs d f (n - d) v (n - d))))) := by
 have hN0 := normal6_m (by omega) hv hq hl
 have hnn := Q.tq_le v n0
 rw [ht] at hN0 hnn
 have hB := normal6_ok (n := d + 1) (q := fun i => ofR (f i)) (v := f) (by omega) (fun i _ => ofR_val _) (fun i _ => wq_n (by have := hg i; omega)) fun i _ => by have := hg i; omega
 rw [Q.tq_self (n := d + 1) (v := f) fun k hk => by rw [show k = d by omega, hf.top]; decide] at hB
 obtain ⟨N, hN⟩ : ∃ N, N = n - d := ⟨_, rfl⟩
 rw [← hN] at hs ⊢
 have ft := hf.top
 have q1 : ∀ t k, t ≤ N → FnOK Tryz.prog false 103 [.g (nq (Q.dvs d f N v t k)), .g (nq (f d))] (.g (nq (Q.dvs d f N v t k))) := fun t k h => by
  rw [ft]
  have := rqratio_n (x := Q.dvs d f N v t k) (y := 1) (by have := hs t k h; omega) (by decide)
  rwa [show Q.dvs d f N v t k / 1 = Q.dvs d f N v t k by grind] at this
 have p1 : ∀ i j, i < N → FnOK Tryz.prog false 84 [.g (nq (Q.dvq d f N v i)), .g (nq (f j))] (.g (nq (Q.dvq d f N v i * f j))) := fun i j hi => rqmul_n (hs (N - 1 - i) (i + d) (by omega)) (hg j)
 have s1 : ∀ i j, i < N → FnOK Tryz.prog false 104 [.g (nq (Q.dpt (Q.dvq d f N v i) f (Q.dvs d f N v (N - (i + 1))) i j (i + j))), .g (nq (Q.dvq d f N v i * f j))] (.g (nq (Q.dvs d f N v (N - (i + 1)) (i + j) - Q.dvq d f N v i * f j))) := fun i j hi => by
  rw [Q.dpt_old]
  have k1 : qlen (Q.dvq d f N v i) ≤ 65535 := hs (N - 1 - i) (i + d) (by omega)
  exact rqsub_n (by have := hs (N - (i + 1)) (i + j) (by omega); omega) (qlen_mul k1 (hg j) (by decide))
 have w1 : ∀ i, i < N → ∀ k, Q.dpt (Q.dvq d f N v i) f (Q.dvs d f N v (N - (i + 1))) i (d + 1) k = Q.dvs d f N v (N - i) k := fun i hi k => by
  have := Q.dpt_all hf.fin (N := N) (p := v) (t := N - (i + 1)) k
  rw [show N - 1 - (N - (i + 1)) = i by omega, show N - (i + 1) + 1 = N - i by omega] at this
  rw [← this]
  unfold Q.dvq
  rw [show N - 1 - i = N - (i + 1) by omega]
 have w3 := fun i j k => Q.dpt_next (Q.dvq d f N v i) f (Q.dvs d f N v (N - (i + 1))) i j k
 have w4 := fun i k => Q.dpt_zero (Q.dvq d f N v i) f (Q.dvs d f N v (N - (i + 1))) i k
 have e1 : ∀ i, i < N → Q.dvs d f N v (N - (i + 1)) (i + d) = Q.dvq d f N v i := fun i hi => by
  unfold Q.dvq
  rw [show N - 1 - i = N - (i + 1) by omega]
 have hT1 := normal6_ok (n := N) (q := qm (Q.dvq d f N v) 0) (v := Q.dvq d f N v) (by omega) (fun i _ => by rw [qm_zero]; exact ofR_val _) (fun i hi => by rw [qm_zero]; exact wq_n (by have := hs (N - 1 - i) (i + d) (by omega); have h2 : qlen (Q.dvq d f N v i) ≤ 65535 := this; omega)) fun i hi => by have := hs (N - 1 - i) (i + d) (by omega); have h2 : qlen (Q.dvq d f N v i) ≤ 65535 := this; omega
 have hT2 := normal6_ok (n := n) (q := fun x => ofR (Q.dvs d f N v N x)) (v := Q.dvs d f N v N) (by omega) (fun i _ => ofR_val _) (fun i _ => wq_n (by have := hs N i (Nat.le_refl _); omega)) fun i _ => by have := hs N i (Nat.le_refl _); omega
 have hT2 : FnOK Tryz.prog false 82 [.c (.row 4 n fun x j => qlF (fun x => ofR (Q.dvs d f N v (N - 0) x)) (0 + x) j)] (.c (nql (Q.tq (Q.dvs d f N v N) n) (Q.dvs d f N v N))) := arg_ok hT2 fun D w vs h => by
  match vs, h with
  | [v1], ⟨h1, _⟩ => exact ⟨subRowG rfl (fun x j hx hj => by rw [Nat.zero_add]; rfl) D w v1 h1, trivial⟩
 clear hs hg ht hv hq hl
 refine fn_okS (E := E0) E0_ok Tryz.func69 rfl (by kernel_rfl) ?_
 refine swp_seq0 E0_ok mixed (by kernel_rfl) ?_
 conv => whnf
 refine swp_seq0 E0_ok mixed (by kernel_rfl) ?_
 conv => whnf
 refine .inl ⟨[], true, ?_⟩
 conv => whnf
 refine ⟨0, phB, [.c (ql n0 q)], _, _, _, hN0, rfl, .inr (Nat.le_refl 2), fun h => absurd h (by decide), fun h => absurd h (by decide), fun F' hF' => ?_, rfl, rfl, ?_⟩
 ·simp at hF'; subst hF'; exact qB_plain _ _
 conv => whnf
 refine .inr ?_
 conv => whnf
 refine ⟨_, hB, ?_⟩
 conv => whnf
 refine swp_seq0 E0_ok mixed (by kernel_rfl) ?_
 conv => whnf
 refine bneg (show decide ((n : Int) < ((d + 1 : Nat) : Int)) = false from decide_eq_false (by omega)) ?_
 conv => whnf
 refine swp_seq0 E0_ok mixed (by kernel_rfl) ?_
 conv => whnf
 refine ⟨i64 (by omega) (by omega), ?_⟩
 conv => whnf
 refine ⟨i64 (by omega) (by omega), ?_⟩
 conv => whnf
 refine ⟨by omega, Int.le_refl _, by omega, by show (64 : Int) * ((n : Int) - ((d + 1 : Nat) : Int) + 1) ≤ 281474976710656; omega, ?_⟩
 have eN : ((n : Int) - ((d + 1 : Nat) : Int) + 1).toNat = N := by omega
 conv => whnf
 refine swp_seqS ?_
 refine swp_seq0 E0_ok mixed (by kernel_rfl) ?_
 conv => whnf
 refine ⟨i64 (by omega) (by omega), ?_⟩
 conv => whnf
 refine swp_block ?_
 refine swp_loop (fun k : Nat => gst [(7, .c (nql (d + 1) f)), (8, .c (.gs 1 0)), (6, .c (.sl 0 0 4 0 n)), (9, .c (.int .i64 ((k : Int) - 1)))] [gqr n0 fun x => ofR (Q.dvs d f N v (N - k) x), gqr N (qm (Q.dvq d f N v) k)]) (fun k => k) (fun k => k ≤ N) N ?_ (Nat.le_refl _) fun k hk => ?_
 ·refine Weak.gen [some 1, some 2] rfl ⟨⟨_, rfl, rfl, rfl, rfl, rfl, fun x j hx hj => regE (qlF_eq (c := fun x => ofR (v x)) (e := fun x => ofR (Q.dvs d f N v (N - N) x)) (i := x) (k := x) (congrArg ofR (by rw [Nat.sub_self]; rfl))) (ql_clos (c := fun x => ofR (Q.dvs d f N v (N - N) x)) x j)⟩, ⟨_, rfl, rfl, rfl, eN, rfl, fun x j hx hj => ?_⟩, trivial⟩ ⟨.inl ⟨_, _, rfl, rfl, fun _ _ _ _ => rfl⟩, ⟨_, rfl, rfl, rfl⟩, ⟨_, _, rfl, rfl, rfl, rfl⟩, ⟨_, rfl, by show (n : Int) - ((d + 1 : Nat) : Int) = (N : Int) - 1; omega⟩, trivial⟩
  show regC 0 _ _ (qlF (qm (Q.dvq d f N v) N) x j) _
  have hx : x < N := hx
  unfold qlF
  rw [qm_top hx]
  match j, hj with
  | 0, _ => exact ⟨_, rfl, rfl⟩
  | 1, _ => exact .inr (.inl ⟨rfl, rfl⟩)
  | 2, _ => exact ⟨_, rfl, rfl⟩
  | 3, _ => exact .inr (.inl ⟨rfl, rfl⟩)
 refine swp_seq0 E0_ok mixed (by kernel_rfl) ?_
 conv => whnf
 refine bcase (fun (h : decide ((0 : Int) ≤ (k : Int) - 1) = true) => ?_) fun (h : decide ((0 : Int) ≤ (k : Int) - 1) = false) => ?_
 ·have h := of_decide_eq_true h
  obtain ⟨i, hi0⟩ : ∃ i, i = ((k : Int) - 1).toNat := ⟨_, rfl⟩
  have hk1 : k = i + 1 := by omega
  subst hk1
  have hiN : i < N := by omega
  have ei : (((i + 1 : Nat) : Int) - 1).toNat = i := by omega
  have g1 : FnOK Tryz.prog false 103 [.g (nq (Q.dvs d f N v (N - (i + 1)) (0 + (((i + 1 : Nat) : Int) - 1 + ((d + 1 : Nat) : Int) - 1).toNat))), .g (nq (f (((d + 1 : Nat) : Int) - 1).toNat))] (.g (nq (Q.dvq d f N v i))) := by
   have := q1 (N - (i + 1)) (i + d) (by omega)
   rw [e1 i hiN] at this
   rw [show 0 + (((i + 1 : Nat) : Int) - 1 + ((d + 1 : Nat) : Int) - 1).toNat = i + d by omega, show (((d + 1 : Nat) : Int) - 1).toNat = d by omega, e1 i hiN]
   exact this
  conv => whnf
  refine swp_seqS (swp_block ?_)
  refine swp_seq E0_ok mixed (by kernel_rfl) ?_
  conv => whnf
  refine ⟨i64 (by omega) (by omega), ?_⟩
  conv => whnf
  refine ⟨i64 (by omega) (by omega), ?_⟩
  conv => whnf
  refine ⟨by omega, ?_⟩
  conv => whnf
  refine ⟨by show ((i + 1 : Nat) : Int) - 1 + ((d + 1 : Nat) : Int) - 1 < (n : Int); omega, ?_⟩
  conv => whnf
  refine ⟨i64 (by omega) (by omega), ?_⟩
  conv => whnf
  refine ⟨by omega, by omega, ?_⟩
  conv => whnf
  refine ⟨_, g1, ?_⟩
  conv => whnf
  refine ⟨gst [(7, .c (nql (d + 1) f)), (8, .c (.gs 1 0)), (6, .c (.sl 0 0 4 0 n)), (9, .c (.int .i64 (((i + 1 : Nat) : Int) - 1))), (10, .c (.p 2 0 4 0 0))] [gqr n0 fun x => ofR (Q.dvs d f N v (N - (i + 1)) x), gqr N (qm (Q.dvq d f N v) (i + 1)), ⟨46, 4, 1, boxF (nq (Q.dvq d f N v i))⟩], Weak.gen [some 0, some 1, some 17] rfl ⟨⟨_, rfl, rfl, rfl, rfl, rfl, fun x j hx hj => regE rfl (ql_clos (c := fun x => ofR (Q.dvs d f N v (N - (i + 1)) x)) x j)⟩, ⟨_, rfl, rfl, rfl, rfl, rfl, fun x j hx hj => regE rfl (ql_clos (c := qm (Q.dvq d f N v) (i + 1)) x j)⟩, boxU rfl rfl rfl, trivial⟩ ⟨.inl ⟨_, _, rfl, rfl, fun _ _ _ _ => rfl⟩, ⟨_, rfl, rfl, rfl⟩, ⟨_, _, rfl, rfl, rfl, rfl⟩, ⟨_, rfl, rfl⟩, ⟨_, rfl, rfl, rfl⟩, trivial⟩, ?_⟩
  refine swp_seq E0_ok mixed (by kernel_rfl) ?_
  conv => whnf
  refine ⟨by omega, by show ((i + 1 : Nat) : Int) - 1 < (N : Int); omega, ?_⟩
  conv => whnf
  refine ⟨gst [(7, .c (nql (d + 1) f)), (8, .c (.gs 1 0)), (6, .c (.sl 0 0 4 0 n)), (9, .c (.int .i64 (((i + 1 : Nat) : Int) - 1))), (10, .c (.p 2 0 4 0 0))] [gqr n0 fun x => ofR (Q.dvs d f N v (N - (i + 1)) x), gqr N (qm (Q.dvq d f N v) i), ⟨46, 4, 1, boxF (nq (Q.dvq d f N v i))⟩], Weak.gen [some 0, some 1, some 2] rfl ⟨⟨_, rfl, rfl, rfl, rfl, rfl, fun x j hx hj => regE rfl (ql_clos (c := fun x => ofR (Q.dvs d f N v (N - (i + 1)) x)) x j)⟩, ⟨_, rfl, rfl, rfl, rfl, rfl, fun x j hx hj => regE ?_ (ql_clos (c := qm (Q.dvq d f N v) i) x j)⟩, boxK rfl rfl, trivial⟩ ⟨.inl ⟨_, _, rfl, rfl, fun _ _ _ _ => rfl⟩, ⟨_, rfl, rfl, rfl⟩, ⟨_, _, rfl, rfl, rfl, rfl⟩, ⟨_, rfl, rfl⟩, ⟨_, rfl, rfl, rfl⟩, trivial⟩, ?_⟩
  ·exact updG (sz := 4) (g := fun x => rr (qm (Q.dvq d f N v) (i + 1) x)) (g' := fun x => rr (qm (Q.dvq d f N v) i x)) (l := nq (Q.dvq d f N v i)) rfl hj (by rw [ei]; exact qm_next _ i x)
  refine swp_of E0_ok mixed (by kernel_rfl) ?_
  conv => whnf
  refine loop_ints (fun j : Nat => gst [(7, .c (nql (d + 1) f)), (8, .c (.gs 1 0)), (6, .c (.sl 0 0 4 0 n)), (9, .c (.int .i64 (((i + 1 : Nat) : Int) - 1))), (10, .c (.p 2 0 4 0 0)), (11, .c (.int .i64 j))] [gqr n0 fun x => ofR (Q.dpt (Q.dvq d f N v i) f (Q.dvs d f N v (N - (i + 1))) i j x), gqr N (qm (Q.dvq d f N v) i), ⟨46, 4, 1, boxF (nq (Q.dvq d f N v i))⟩]) (fun j => d + 1 - j) (fun j => j ≤ d + 1) 0 rfl (Weak.gen [some 0, some 1, some 2] rfl ⟨⟨_, rfl, rfl, rfl, rfl, rfl, fun x j hx hj => regE (qlF_eq (c := fun x => ofR (Q.dvs d f N v (N - (i + 1)) x)) (e := fun x => ofR (Q.dpt (Q.dvq d f N v i) f (Q.dvs d f N v (N - (i + 1))) i 0 x)) (i := x) (k := x) (congrArg ofR (w4 i x).symm)) (ql_clos (c := fun x => ofR (Q.dpt (Q.dvq d f N v i) f (Q.dvs d f N v (N - (i + 1))) i 0 x)) x j)⟩, ⟨_, rfl, rfl, rfl, rfl, rfl, fun x j hx hj => regE rfl (ql_clos (c := qm (Q.dvq d f N v) i) x j)⟩, boxK rfl rfl, trivial⟩ ⟨.inl ⟨_, _, rfl, rfl, fun _ _ _ _ => rfl⟩, ⟨_, rfl, rfl, rfl⟩, ⟨_, _, rfl, rfl, rfl, rfl⟩, ⟨_, rfl, rfl⟩, ⟨_, rfl, rfl, rfl⟩, ⟨_, rfl, rfl⟩, trivial⟩) (Nat.zero_le _) fun j hj => ?_
  have u1 := p1 i j hiN
  have ej : 0 + (((i + 1 : Nat) : Int) - 1 + (j : Int)).toNat = i + j := by omega
  have u2 : FnOK Tryz.prog false 104 [.g (nq (Q.dpt (Q.dvq d f N v i) f (Q.dvs d f N v (N - (i + 1))) i j (0 + (((i + 1 : Nat) : Int) - 1 + (j : Int)).toNat))), .g (nq (Q.dvq d f N v i * f j))] (.g (nq (Q.dvs d f N v (N - (i + 1)) (i + j) - Q.dvq d f N v i * f j))) := by
   rw [ej]
   exact s1 i j hiN
  have u3 := w3 i j
  have u4 := w1 i hiN
  conv => whnf
  refine bcase (fun (h4 : decide ((j : Int) < ((d + 1 : Nat) : Int)) = true) => ?_) fun (h4 : decide ((j : Int) < ((d + 1 : Nat) : Int)) = false) => ?_
  ·have h4 := of_decide_eq_true h4
   conv => whnf
   refine ⟨i64 (by omega) (by omega), ?_⟩
   conv => whnf
   refine ⟨i64 (by omega) (by omega), ?_⟩
   conv => whnf
   refine ⟨by omega, ?_⟩
   conv => whnf
   refine ⟨by show ((i + 1 : Nat) : Int) - 1 + (j : Int) < (n : Int); omega, ?_⟩
   conv => whnf
   refine ⟨by omega, by omega, ?_⟩
   conv => whnf
   refine ⟨_, u1, ?_⟩
   conv => whnf
   refine ⟨_, u2, ?_⟩
   conv => whnf
   refine ⟨by omega, ?_⟩
   conv => whnf
   refine ⟨by show ((i + 1 : Nat) : Int) - 1 + (j : Int) < (n : Int); omega, ?_⟩
   conv => whnf
   refine ⟨i64 (by omega) (by omega), ?_⟩
   conv => whnf
   refine ⟨j + 1, by omega, Weak.gen [some 0, some 1, some 2] rfl ⟨⟨_, rfl, rfl, rfl, rfl, rfl, fun x y hx hy => regE ?_ (ql_clos (c := fun x => ofR (Q.dpt (Q.dvq d f N v i) f (Q.dvs d f N v (N - (i + 1))) i (j + 1) x)) x y)⟩, ⟨_, rfl, rfl, rfl, rfl, rfl, fun x j hx hj => regE rfl (ql_clos (c := qm (Q.dvq d f N v) i) x j)⟩, boxK rfl rfl, trivial⟩ ⟨.inl ⟨_, _, rfl, rfl, fun _ _ _ _ => rfl⟩, ⟨_, rfl, rfl, rfl⟩, ⟨_, _, rfl, rfl, rfl, rfl⟩, ⟨_, rfl, rfl⟩, ⟨_, rfl, rfl, rfl⟩, ⟨_, rfl, rfl⟩, trivial⟩, by omega⟩
   exact updG (sz := 4) (g := fun x => nq (Q.dpt (Q.dvq d f N v i) f (Q.dvs d f N v (N - (i + 1))) i j x)) (g' := fun x => nq (Q.dpt (Q.dvq d f N v i) f (Q.dvs d f N v (N - (i + 1))) i (j + 1) x)) (l := nq (Q.dvs d f N v (N - (i + 1)) (i + j) - Q.dvq d f N v i * f j)) rfl hy (by
    show (if x = 0 + (((i + 1 : Nat) : Int) - 1 + (j : Int)).toNat then nq (Q.dvs d f N v (N - (i + 1)) (i + j) - Q.dvq d f N v i * f j) else nq (Q.dpt (Q.dvq d f N v i) f (Q.dvs d f N v (N - (i + 1))) i j x)) = nq (Q.dpt (Q.dvq d f N v i) f (Q.dvs d f N v (N - (i + 1))) i (j + 1) x)
    rw [ej, ← u3 x]
    split <;> rfl)
  ·have h4 := of_decide_eq_false h4
   have e : j = d + 1 := by omega
   conv => whnf
   refine swp_of E0_ok mixed (by kernel_rfl) ?_
   conv => whnf
   refine ⟨i64 (by omega) (by omega), ?_⟩
   conv => whnf
   exact ⟨i, by omega, Weak.gen [some 0, some 1] rfl ⟨⟨_, rfl, rfl, rfl, rfl, rfl, fun x y hx hy => regE (qlF_eq (c := fun x => ofR (Q.dpt (Q.dvq d f N v i) f (Q.dvs d f N v (N - (i + 1))) i j x)) (e := fun x => ofR (Q.dvs d f N v (N - i) x)) (i := x) (k := x) (congrArg ofR (by rw [e]; exact u4 x))) (ql_clos (c := fun x => ofR (Q.dvs d f N v (N - i) x)) x y)⟩, ⟨_, rfl, rfl, rfl, rfl, rfl, fun x j hx hj => regE rfl (ql_clos (c := qm (Q.dvq d f N v) i) x j)⟩, trivial⟩ ⟨.inl ⟨_, _, rfl, rfl, fun _ _ _ _ => rfl⟩, ⟨_, rfl, rfl, rfl⟩, ⟨_, _, rfl, rfl, rfl, rfl⟩, ⟨_, rfl, by omega⟩, trivial⟩, by omega⟩
 ·have h := of_decide_eq_false h
  have hk0 : k = 0 := by omega
  subst hk0
  conv => whnf
  refine swp_of E0_ok mixed (by kernel_rfl) ?_
  conv => whnf
  refine .inr ⟨fun x j _ _ => ql_clos (c := qm (Q.dvq d f N v) 0) x j, ?_⟩
  conv => whnf
  refine ⟨_, hT1, ?_⟩
  conv => whnf
  refine .inr ⟨fun x j _ _ => ql_clos (c := fun x => ofR (Q.dvs d f N v (N - 0) x)) x j, ?_⟩
  conv => whnf
  refine ⟨_, hT2, ?_⟩
  conv => whnf
  exact ⟨rfl, Sub.refl _⟩
end Rf
end Go.Proofs.YtmbejakmeijcbaaGreat
/- Rows of fractions: zeros, normal forms. -/
namespace Go.Proofs.YtmbejakmeijcbaaGreat
open Go.RowKit
def rows (sz n : Nat) (g : Nat → List Cell) : V := .c (.row sz n fun i j => (g i).getD j .any)
theorem i64_range {n : Int} (h1 : -9223372036854775808 ≤ n) (h2 : n < 9223372036854775808) : inR .i64 n := ⟨h1, h2⟩
structure Filled (n i : Nat) (g : Nat → List Cell) (f : Nat → Nat → Cell) : Prop where
 done : ∀ i' j, i' < i → j < 4 → f i' j = (g i').getD j .any
 clos : ∀ i' j, i' < n → j < 4 → (f i' j).clos = true
end Go.Proofs.YtmbejakmeijcbaaGreat
/- Rows that are written: combine; vectors times rows. -/
namespace Go.Proofs.YtmbejakmeijcbaaGreat
open Go.RowKit
end Go.Proofs.YtmbejakmeijcbaaGreat
/- Matrices: rows put one behind the other. -/
namespace Go.Proofs.YtmbejakmeijcbaaGreat
open Go.RowKit
set_option maxHeartbeats 4000000 in
theorem fits_ok (n : Int) : FnOK Tryz.prog true 164 [.c (.int .i64 n)] (.c (.bool (decide (0 ≤ n ∧ n ≤ 1024)))) := by
 refine fn_ok (E := E1) E1_ok Tryz.func164 rfl mixed (by kernel_rfl) (by kernel_rfl) ?_
 conv => whnf
 refine bcase (fun (h : decide (0 ≤ n) = true) => ?_) fun (h : decide (0 ≤ n) = false) => ?_
 ·have h := of_decide_eq_true h
  conv => whnf
  refine ⟨rfl, Sub.bool ?_⟩
  show decide (n ≤ 1024) = decide (0 ≤ n ∧ n ≤ 1024)
  simp [h]
 ·have h := of_decide_eq_false h
  conv => whnf
  refine ⟨rfl, Sub.bool ?_⟩
  show false = decide (0 ≤ n ∧ n ≤ 1024)
  simp [h]
set_option maxHeartbeats 4000000 in
theorem valid_ok {r c : Int} {len : Nat} {f : Nat → Nat → Cell} : FnOK Tryz.prog true 132 [.g [.int .i64 r, .int .i64 c, .row 4 len f]] (.c (.bool (decide ((0 ≤ r ∧ r ≤ 1024) ∧ (0 ≤ c ∧ c ≤ 1024) ∧ (len : Int) = r * c)))) := by
 refine fn_ok (E := E1) E1_ok Tryz.func132 rfl mixed (by kernel_rfl) (by kernel_rfl) ?_
 conv => whnf
 refine ⟨_, fits_ok r, ?_⟩
 conv => whnf
 refine bcase (fun (h : decide (0 ≤ r ∧ r ≤ 1024) = true) => ?_) fun (h : decide (0 ≤ r ∧ r ≤ 1024) = false) => ?_
 ·have h := of_decide_eq_true h
  conv => whnf
  refine ⟨_, fits_ok c, ?_⟩
  conv => whnf
  refine bcase (fun (h2 : decide (0 ≤ c ∧ c ≤ 1024) = true) => ?_) fun (h2 : decide (0 ≤ c ∧ c ≤ 1024) = false) => ?_
  ·have h2 := of_decide_eq_true h2
   have hb : r * c ≤ 1024 * 1024 := Int.mul_le_mul h.2 h2.2 h2.1 (by omega)
   have h0 : 0 ≤ r * c := Int.mul_nonneg h.1 h2.1
   conv => whnf
   refine ⟨i64_range (by omega) (by omega), ?_⟩
   conv => whnf
   refine ⟨rfl, Sub.bool ?_⟩
   show decide ((len : Int) = r * c) = _
   simp [h, h2]
  ·have h2 := of_decide_eq_false h2
   conv => whnf
   refine ⟨rfl, Sub.bool ?_⟩
   show false = _
   simp [h2]
 ·have h := of_decide_eq_false h
  conv => whnf
  refine ⟨rfl, Sub.bool ?_⟩
  show false = _
  simp [h]
end Go.Proofs.YtmbejakmeijcbaaGreat
/- Package charpoly: the first errors. -/
namespace Go.Proofs.YtmbejakmeijcbaaGreat
open Go.RowKit
end Go.Proofs.YtmbejakmeijcbaaGreat
/- Rows of rows: blank. -/
namespace Go.Proofs.YtmbejakmeijcbaaGreat
open Go.RowKit
end Go.Proofs.YtmbejakmeijcbaaGreat
/- Package matrix: New. -/
namespace Go.Proofs.YtmbejakmeijcbaaGreat
open Go.RowKit
end Go.Proofs.YtmbejakmeijcbaaGreat
