/- Abstract states through code: what a function hands back. -/
import Derived.Test.YtigciplaoikcfaaGreatAbsL
import Derived.Deep.LoopGhost
namespace Go.Proofs.YtigciplaoikcfaaGreat
open Go.RowKit
def dstB (N : Nat) (o : Oper) : Bool := match o.dst with
  | some d => decide (d < N)
  | none => true
def codeB (N : Nat) : Code → Bool
  | .region _ ops draw => ops.toList.all (dstB N) && (!draw || drawB ops)
  | .seq a b => codeB N a && codeB N b
  | .cond _ a b => codeB N a && codeB N b
  | .block _ c => codeB N c
  | .loop c => codeB N c
  | .skip | .exit _ | .ret | .label _ => true
  | _ => false
def adraw (E : Env) (ops : Array Oper) (σ : St) (K : St → Prop) : Prop :=
  ahead E ops σ.bl.length ops.toList 0 { σ with bl := σ.bl ++ List.replicate (freshN ops.toList) phB } K
/-- Less is known. -/
def Weak (m0 : Nat) (σ σ' : St) : Prop := ∀ C a w, C.ρ0.length ≤ m0 → Rel C σ a w → Rel C σ' a w
theorem Weak.refl {m0 : Nat} (σ : St) : Weak m0 σ σ := fun _ _ _ _ h => h
def seqR (K : St → Prop) (R : Exit → St → Prop) (e : Exit) (σ : St) : Prop := match e with
  | .normal => K σ
  | e => R e σ
def blockR (id : Nat) (R : Exit → St → Prop) (e : Exit) (σ : St) : Prop := match e with
  | .exit i => if i = id then R .normal σ else R (.exit i) σ
  | e => R e σ
def awp (E : Env) : Code → St → (Exit → St → Prop) → Prop
  | .skip, σ, R => R .normal σ
  | .region _ ops draw, σ, R => if draw then adraw E ops σ (R .normal) else aops E ops ops.toList σ (R .normal)
  | .seq a b, σ, R => awp E a σ (seqR (fun σ' => awp E b σ' R) R)
  | .cond c x y, σ, R => match σ.ev c with
    | .c (.bool b) => cs b (awp E x σ R) (awp E y σ R)
    | _ => False
  | .block id c, σ, R => awp E c σ (blockR id R)
  | .exit id, σ, R => R (.exit id) σ
  | .ret, σ, R => R .ret σ
  | .label _, σ, R => R .normal σ
  | .loop c, σ, R => ∃ (I : Nat → St → Prop) (n0 : Nat), (∃ σ0, Weak E.m0 σ σ0 ∧ I n0 σ0) ∧ ∀ n σ', I n σ' → ∃ K, awp E c σ' (seqR K R) ∧ ∀ σ2, K σ2 → ∃ n', n' < n ∧ ∃ σ3, Weak E.m0 σ2 σ3 ∧ I n' σ3
  | _, _, _ => False
theorem Rel.ext {C : Ctx} {σ : St} {a : Act} {w w' : World} (h : Rel C σ a w) (hb : Below w.heap.size w w') : Rel C σ a w' := by
  obtain ⟨ρ, hs, hN, hdf, hf⟩ := h
  exact ⟨ρ, hs.ext hb, hN, hdf, frame_step (Ext.of_below hb) (fun _ _ x => x) (LocsLe.refl _) hf⟩
theorem Rel.ph {C : Ctx} {σ : St} {a : Act} {w : World} (h : Rel C σ a w) : ∀ n, ∃ ρ, Sat C.D0 C.w0 C.r ρ (σ.bl ++ List.replicate n phB) w ∧ (∀ t, VRel (Dof C.D0 ρ (σ.bl ++ List.replicate n phB)) w ρ (σ.tm t) (a.tmps.getD t undef)) ∧ LocsLe C.ρ0 ρ ∧ ∀ j, j < n → ρ[σ.bl.length + j]? = some phL
  | 0 => by
    obtain ⟨ρ, hs, hN, _, hf⟩ := h
    exact ⟨ρ, by simpa using hs, by simpa using hf, hN.2, fun j hj => by omega⟩
  | n + 1 => by
    obtain ⟨ρ, hs, hf, hle, hp⟩ := Rel.ph h n
    obtain ⟨h1, h2⟩ := hs.ph
    have he : σ.bl ++ List.replicate (n + 1) phB = (σ.bl ++ List.replicate n phB) ++ [phB] := by
      rw [List.replicate_succ', List.append_assoc]
    rw [he]
    have hl : ρ.length = σ.bl.length + n := by have := hs.len; simpa using this
    refine ⟨ρ ++ [phL], h1, fun t => (hf t).step (Ext.refl _ _) (fun b _ hb => (h2 b).1 hb) (LocsLe.append _ _), hle.trans (LocsLe.append _ _), fun j hj => ?_⟩
    rcases Nat.lt_or_ge j n with h3 | h3
    · rw [List.getElem?_append_left (by omega)]; exact hp j h3
    · rw [List.getElem?_append_right (by omega), show σ.bl.length + j - ρ.length = 0 by omega]; rfl
theorem adraw_sound {E : Env} (hE : EnvOK E) {C : Ctx} (hC : C.r = E.r) {ops : Array Oper} {id : Nat} {Q : Exit → Act → World → Prop} {K : St → Prop} (hm : E.P.follows .mixedOrders = true) (hQ : ∀ σ a w, K σ → Rel C σ a w → Q .normal a w) {σ : St} {a : Act} {w : World} (hd : ops.toList.all (dstB C.N) = true) (hb : drawB ops = true) (h : adraw E ops σ K) (hr : Rel C σ a w) : (Code.region id ops true).wp E.P Q a w := by
  have hdst : ∀ o ∈ ops.toList, dstOK C.N o.dst := by
    intro o ho d hd'
    have := List.all_eq_true.1 hd o ho
    unfold dstB at this
    rw [hd'] at this
    simpa using this
  refine wp_region_any hm ?_
  have hr' : Rel C σ a { w with drawn := w.drawn + 1 } := hr.ext ⟨rfl, rfl, rfl, Nat.le_refl _, fun _ _ => rfl⟩
  obtain ⟨ρ, hs, hf, hle, hp⟩ := Rel.ph hr' (freshN ops.toList)
  obtain ⟨_, _, hN, hdf, _⟩ := hr'
  obtain ⟨sts, vs, ub, h0, hK, hc⟩ := ahead_chain hE _ _ _ h
  rw [← hC] at hc
  have hl0 : ∀ j, j < ops.size → (Array.replicate ops.size false).getD j false = false := fun j hj => by simp [Array.getD, hj]
  have hln : ∀ j, (Array.replicate ops.size false).getD j false ≠ true := fun j h => by simp [Array.getD] at h
  have hph : ∀ j, j < freshN ops.toList → (σ.bl ++ List.replicate (freshN ops.toList) phB)[σ.bl.length + j]? = some phB := fun j hj => by
    rw [List.getElem?_append_right (by omega), show σ.bl.length + j - σ.bl.length = j by omega, List.getElem?_replicate, if_pos hj]
  refine any_sound (drawB_ok hb) hc (m := freshN ops.toList) (fun j hj => by rw [h0]; exact hph j hj) (fun i o ho hfo => freshN_lt _ i o (by simpa using ho) hfo) hdst (fun a w hrel => hQ _ a w (by simpa using hK) hrel) ops.size (Array.replicate ops.size false) ρ _ a _ (left_none _ (Nat.le_refl _)).symm (by simp) ⟨hs, ⟨hN.1, hle⟩, hdf, by rw [h0], fun i o _ hl => absurd hl (hln i), fun t _ => by rw [h0]; exact hf t, fun j oj hl => absurd hl (hln j), fun j hj _ _ => ⟨phL, phB, hp j hj, rfl, hph j hj, rfl, rfl⟩, fun j f B hl => absurd hl (hln j), fun M k hM hcond => ?_⟩
  have : (sts M).bl[k]? = (sts 0).bl[k]? := hc.still M 0 (Nat.zero_le _) hM fun j B _ hjM hu => hln j ((hcond j B (by omega) hu).2 hjM)
  rw [this, h0]
theorem awp_sound {E : Env} (hE : EnvOK E) {C : Ctx} (hC : C.r = E.r) (hC0 : C.ρ0.length ≤ E.m0) (hm : E.P.follows .mixedOrders = true) : ∀ (c : Code) {R : Exit → St → Prop} {σ : St} {a : Act} {w : World}, codeB C.N c = true → awp E c σ R → Rel C σ a w → c.wp E.P (QR C R) a w
  | .skip, R, σ, a, w, _, h, hr => wp_skip ⟨σ, hr, h⟩
  | .region id ops draw, R, σ, a, w, hc, h, hr => by
    simp only [codeB, Bool.and_eq_true] at hc
    simp only [awp] at h
    cases draw with
    | true =>
      simp only [if_true] at h
      exact adraw_sound hE hC hm (fun σ a w hk hrel => ⟨σ, hrel, hk⟩) hc.1 (by simpa using hc.2) h hr
    | false =>
      simp only [Bool.false_eq_true, if_false] at h
      refine wp_region_list (aops_sound hE hC (fun σ a w hk hrel => ⟨σ, hrel, hk⟩) ops.toList σ a w (fun o ho d hd' => ?_) h hr)
      have := List.all_eq_true.1 hc.1 o ho
      unfold dstB at this
      rw [hd'] at this
      simpa using this
  | .seq x y, R, σ, a, w, hc, h, hr => by
    simp only [codeB, Bool.and_eq_true] at hc
    simp only [awp] at h
    refine wp_seq (wp_mono (awp_sound hE hC hC0 hm x hc.1 h hr) ?_)
    rintro e a' w' ⟨σ', hrel, hk⟩
    cases e with
    | normal => exact awp_sound hE hC hC0 hm y hc.2 hk hrel
    | _ => exact ⟨σ', hrel, hk⟩
  | .cond c x y, R, σ, a, w, hc, h, hr => by
    simp only [codeB, Bool.and_eq_true] at hc
    simp only [awp] at h
    split at h
    · rename_i b hb
      have h := cs_iff.1 h
      have he : a.eval c = .bool b := by
        obtain ⟨ρ, hs, hN, hdf, hf⟩ := hr
        have := ev_rel hf c
        rw [hb] at this
        exact this
      refine wp_cond_split he (fun e => awp_sound hE hC hC0 hm x hc.1 (h.1 e) hr) (fun e => awp_sound hE hC hC0 hm y hc.2 (h.2 e) hr)
    · exact h.elim
  | .block id c, R, σ, a, w, hc, h, hr => by
    simp only [codeB] at hc
    simp only [awp] at h
    refine wp_block (wp_mono (awp_sound hE hC hC0 hm c hc h hr) ?_)
    rintro e a' w' ⟨σ', hrel, hk⟩
    cases e with
    | exit i =>
      simp only [blockR] at hk
      simp only [Exit.inBlock]
      split
      · rename_i e; rw [if_pos e] at hk; exact ⟨σ', hrel, hk⟩
      · rename_i e; rw [if_neg e] at hk; exact ⟨σ', hrel, hk⟩
    | _ => exact ⟨σ', hrel, hk⟩
  | .exit id, R, σ, a, w, _, h, hr => wp_exit ⟨σ, hr, h⟩
  | .ret, R, σ, a, w, _, h, hr => wp_ret ⟨σ, hr, h⟩
  | .label l, R, σ, a, w, _, h, hr => wp_label ⟨σ, hr, h⟩
  | .loop c, R, σ, a, w, hc, h, hr => by
    simp only [codeB] at hc
    simp only [awp] at h
    obtain ⟨I, n0, ⟨σ0, hw, h0⟩, hround⟩ := h
    refine wp_loop_ghost (fun n a w => ∃ σ, Rel C σ a w ∧ I n σ) n0 ⟨σ0, hw _ _ _ hC0 hr, h0⟩ ?_
    rintro n a w ⟨σ', hrel, hI⟩
    obtain ⟨K, hrd, hK⟩ := hround n σ' hI
    refine wp_mono (awp_sound hE hC hC0 hm c hc hrd hrel) ?_
    rintro e a' w' ⟨σ2, hrel2, hk⟩
    cases e with
    | normal =>
      obtain ⟨n', hlt, σ3, hw3, hI3⟩ := hK σ2 hk
      exact ⟨n', hlt, σ3, hw3 _ _ _ hC0 hrel2, hI3⟩
    | _ => exact ⟨σ2, hrel2, hk⟩
  | .rangeFunc .., _, _, _, _, _, h, _ => h.elim
  | .scope _, _, _, _, _, _, h, _ => h.elim
  | .goto _, _, _, _, _, _, h, _ => h.elim
  | .refuse _, _, _, _, _, _, h, _ => h.elim
/-- A loop by an invariant that bears a number. -/
theorem loop_inv {E : Env} {c : Code} {σ : St} {R : Exit → St → Prop} (I : Nat → St → Prop) (n0 : Nat) (h0 : ∃ σ0, Weak E.m0 σ σ0 ∧ I n0 σ0) (hr : ∀ n σ', I n σ' → awp E c σ' (seqR (fun σ2 => ∃ n', n' < n ∧ ∃ σ3, Weak E.m0 σ2 σ3 ∧ I n' σ3) R)) : awp E (.loop c) σ R :=
  ⟨I, n0, h0, fun n σ' h => ⟨_, hr n σ' h, fun _ h => h⟩⟩
/-- At most so many rounds. -/
def rn (E : Env) (c : Code) (R : Exit → St → Prop) : Nat → St → Prop
  | 0, _ => False
  | n + 1, σ => awp E c σ (seqR (rn E c R n) R)
/-- A loop unrolled. -/
theorem loop_unroll {E : Env} {c : Code} {σ : St} {R : Exit → St → Prop} (n : Nat) (h : rn E c R n σ) : awp E (.loop c) σ R :=
  ⟨rn E c R, n, ⟨σ, Weak.refl σ, h⟩, fun n _ h => match n, h with
    | n + 1, h => ⟨rn E c R n, h, fun σ2 h2 => ⟨n, Nat.lt_succ_self n, σ2, Weak.refl σ2, h2⟩⟩⟩
/-- A frame by its list. -/
def asg : List (Nat × V) → Nat → V
  | [], _ => .c .any
  | (k, v) :: l, t => if t = k then v else asg l t
theorem asg_mem : ∀ (l : List (Nat × V)) (t : Nat), asg l t = .c .any ∨ (t, asg l t) ∈ l
  | [], _ => .inl rfl
  | (k, v) :: l, t => by
    simp only [asg]
    split
    · rename_i e; subst e; exact .inr (by simp)
    · rcases asg_mem l t with h | h
      · exact .inl h
      · exact .inr (by simp [h])
def allP {α : Type} : List α → (α → Prop) → Prop
  | [], _ => True
  | x :: l, p => p x ∧ allP l p
theorem allP_mem {α : Type} {p : α → Prop} : ∀ {l : List α}, allP l p → ∀ x ∈ l, p x
  | [], _, x, hx => by simp at hx
  | y :: l, h, x, hx => by
    rcases List.mem_cons.1 hx with e | e
    · subst e; exact h.1
    · exact allP_mem h.2 x e
/-- A value that speaks of the first m blocks alone. -/
def V.lt (m : Nat) : V → Bool
  | .c x => x.lt m
  | .g l => l.all (Cell.lt m)
  | .t2 a b => a.lt m && b.lt m
  | .t3 a b d => a.lt m && (b.lt m && d.lt m)
  | .t4 a b d e => a.lt m && (b.lt m && (d.lt m && e.lt m))
theorem CRels.cut {D : Nat → Prop} {w : World} {ρ : List Loc} {m : Nat} : ∀ {l : List Cell} {vs : List Value}, CRels D w ρ l vs → l.all (Cell.lt m) = true → CRels D w (ρ.take m) l vs
  | [], [], _, _ => trivial
  | _ :: _, _ :: _, h, hc => by
    simp only [List.all_cons, Bool.and_eq_true] at hc
    exact ⟨CRel.take h.1 hc.1, CRels.cut h.2 hc.2⟩
  | [], _ :: _, h, _ => h.elim
  | _ :: _, [], h, _ => h.elim
theorem VRel.take {D : Nat → Prop} {w : World} {ρ : List Loc} {m : Nat} : ∀ {x : V} {v : Value}, VRel D w ρ x v → x.lt m = true → VRel D w (ρ.take m) x v
  | .c _, _, h, hc => CRel.take h hc
  | .g _, _, h, hc => by obtain ⟨vs, h1, h2⟩ := h; exact ⟨vs, h1, CRels.cut h2 hc⟩
  | .t2 _ _, _, h, hc => by
    simp only [V.lt, Bool.and_eq_true] at hc
    obtain ⟨x, y, h1, h2, h3⟩ := h; exact ⟨x, y, h1, h2.take hc.1, h3.take hc.2⟩
  | .t3 _ _ _, _, h, hc => by
    simp only [V.lt, Bool.and_eq_true] at hc
    obtain ⟨x, y, z, h1, h2, h3, h4⟩ := h; exact ⟨x, y, z, h1, h2.take hc.1, h3.take hc.2.1, h4.take hc.2.2⟩
  | .t4 _ _ _ _, _, h, hc => by
    simp only [V.lt, Bool.and_eq_true] at hc
    obtain ⟨x, y, z, u, h1, h2, h3, h4, h5⟩ := h; exact ⟨x, y, z, u, h1, h2.take hc.1, h3.take hc.2.1, h4.take hc.2.2.1, h5.take hc.2.2.2⟩
/-- Only these slots, and these first blocks, are remembered. -/
theorem Weak.cut {m0 : Nat} {σ : St} {tl : List (Nat × V)} {bl' : List Blk} (hb : σ.bl.take bl'.length = bl') (hl : allP tl fun p => σ.tm p.1 = p.2) (hlt : (tl.all fun p => p.2.lt bl'.length) = true) (hcl : allP bl' fun B => B.st = 0 → ∀ i j, i < B.n → j < B.sz → (B.f i j).lt bl'.length = true) (hm : m0.ble bl'.length = true) : Weak m0 σ ⟨asg tl, bl'⟩ := by
  rintro C a w hm0 ⟨ρ, hs, hN, hdf, hf⟩
  have hm := Nat.le_of_ble_eq_true hm
  obtain ⟨h1, h2⟩ := hs.take bl'.length fun k B hk hB => allP_mem hcl B (by
    have : bl'[k]? = some B := by rw [← hb, List.getElem?_take_of_lt hk]; exact hB
    exact List.mem_of_getElem? this)
  rw [hb] at h1 h2
  refine ⟨_, h1, ⟨hN.1, hN.2.take (Nat.le_trans hm0 hm)⟩, hdf, fun t => ?_⟩
  rcases asg_mem tl t with e | e
  · show VRel _ _ _ (asg tl t) _
    rw [e]; trivial
  · have e1 := allP_mem hl _ e
    have e2 := List.all_eq_true.1 hlt _ e
    have := hf t
    rw [e1] at this
    exact (this.take e2).step (Ext.refl _ _) (fun x _ hx => h2 x hx) (LocsLe.refl _)
theorem Weak.trans {m0 : Nat} {a b c : St} (h : Weak m0 a b) (k : Weak m0 b c) : Weak m0 a c := fun C x w h0 hr => k C x w h0 (h C x w h0 hr)
/-- Blocks that read alike. -/
def Blk.alike (B B' : Blk) : Prop := B' = { B with f := B'.f } ∧ ∀ i j, i < B.n → j < B.sz → B.f i j = B'.f i j
def alikes : List Blk → List Blk → Prop
  | [], [] => True
  | B :: l, B' :: l' => B.alike B' ∧ alikes l l'
  | _, _ => False
theorem Blk.alike.refl (B : Blk) : B.alike B := ⟨rfl, fun _ _ _ _ => rfl⟩
theorem alikes_get : ∀ {l l' : List Blk}, alikes l l' → l'.length = l.length ∧ ∀ (k : Nat) (B' : Blk), l'[k]? = some B' → ∃ B, l[k]? = some B ∧ B.alike B'
  | [], [], _ => ⟨rfl, fun k B' h => by simp at h⟩
  | B :: l, B' :: l', h => by
    obtain ⟨h1, h2⟩ := alikes_get h.2
    refine ⟨by simp [h1], fun k B1 hB => ?_⟩
    cases k with
    | zero => simp at hB; subst hB; exact ⟨B, rfl, h.1⟩
    | succ k => exact h2 k B1 (by simpa using hB)
  | [], _ :: _, h => h.elim
  | _ :: _, [], h => h.elim
theorem Weak.alike {m0 : Nat} {tm : Nat → V} {bl bl' : List Blk} (h : alikes bl bl') : Weak m0 ⟨tm, bl⟩ ⟨tm, bl'⟩ := by
  rintro C a w _ ⟨ρ, hs, hN, hdf, hf⟩
  obtain ⟨hl, hg⟩ := alikes_get h
  have hD : ∀ b, Dof C.D0 ρ bl' b → Dof C.D0 ρ bl b := by
    rintro b (hx | ⟨k, l, B', e1, e2, e3, e4⟩)
    · exact .inl hx
    · obtain ⟨B, q1, q2, _⟩ := hg k B' e2
      exact .inr ⟨k, l, B, e1, q1, by rw [q2] at e3; exact e3, e4⟩
  refine ⟨ρ, ⟨hs.below, hs.d0, by rw [hl]; exact hs.len, fun k l B' e1 e2 hst => ?_, fun i j li lj Bi Bj b e1 e2 e3 e4 e5 e6 e7 e8 => ?_, fun hr b o d hb => hs.noU hr b o d (hD b hb)⟩, hN, hdf, fun t => (hf t).step (Ext.refl _ _) (fun b _ hb => hD b hb) (LocsLe.refl _)⟩
  · obtain ⟨B, q1, q2, q3⟩ := hg k B' e2
    have h1 : B'.st = B.st := by rw [q2]
    have h2 : B'.u = B.u := by rw [q2]
    have h3 : B'.n = B.n := by rw [q2]
    have h4 : B'.sz = B.sz := by rw [q2]
    have h5 : B'.t = B.t := by rw [q2]
    obtain ⟨g0, g1⟩ := (hs.at_ k l B e1 q1).step (Ext.refl _ _) (fun b _ hb => hD b hb) (LocsLe.refl _) (fun _ _ => rfl) (by omega)
    rw [h1, h2, h3, h4, h5]
    refine ⟨g0, ?_⟩
    rcases g1 with g1 | ⟨b, cap, cs, g2, g3, g4, g5, g6, g7, g8, g9⟩
    · exact .inl g1
    · refine .inr ⟨b, cap, cs, g2, g3, g4, g5, g6, g7, g8, fun i j hi hj => ?_⟩
      rw [← q3 i j hi hj]
      exact g9 i j hi hj
  · obtain ⟨B1, q1, q2, _⟩ := hg i Bi e3
    obtain ⟨B2, q3, q4, _⟩ := hg j Bj e4
    exact hs.dist i j li lj B1 B2 b e1 e2 q1 q3 (by rw [q2] at e5; exact e5) (by rw [q4] at e6; exact e6) e7 e8
/-- The same cell, or a nil slice told as the block n. -/
def refC (n : Nat) (c c' : Cell) : Prop := c' = c ∨ (c = .nil ∧ c' = .gs n 0)
def Blk.nilLike (n : Nat) (B B' : Blk) : Prop := B' = { B with f := B'.f } ∧ (B.st ≠ 0 → B'.f = B.f) ∧ ∀ i j, i < B.n → j < B.sz → refC n (B.f i j) (B'.f i j)
def nilLikes (n : Nat) : List Blk → List Blk → Prop
  | [], [] => True
  | B :: l, B' :: l' => B.nilLike n B' ∧ nilLikes n l l'
  | _, _ => False
theorem Blk.nilLike.refl (n : Nat) (B : Blk) : B.nilLike n B := ⟨rfl, fun _ => rfl, fun _ _ _ _ => .inl rfl⟩
theorem nilLikes_get {n : Nat} : ∀ {l l' : List Blk}, nilLikes n l l' → l'.length = l.length ∧ ∀ (k : Nat) (B' : Blk), l'[k]? = some B' → ∃ B, l[k]? = some B ∧ B.nilLike n B'
  | [], [], _ => ⟨rfl, fun k B' h => by simp at h⟩
  | B :: l, B' :: l', h => by
    obtain ⟨h1, h2⟩ := nilLikes_get h.2
    refine ⟨by simp [h1], fun k B1 hB => ?_⟩
    cases k with
    | zero => simp at hB; subst hB; exact ⟨B, rfl, h.1⟩
    | succ k => exact h2 k B1 (by simpa using hB)
  | [], _ :: _, h => h.elim
  | _ :: _, [], h => h.elim
/-- Nil slices are told as a block of no elements. -/
theorem Weak.nil {m0 : Nat} {tm tm' : Nat → V} {bl bl' : List Blk} (e sz : Nat) (h : nilLikes bl.length bl bl') (ht : ∀ t, tm' t = tm t ∨ (tm t = .c .nil ∧ tm' t = .c (.gs bl.length 0))) : Weak m0 ⟨tm, bl⟩ ⟨tm', bl' ++ [⟨e, sz, 0, 0, 0, fun _ _ => .any⟩]⟩ := by
  rintro C a w _ ⟨ρ, hs, hN, hdf, hf⟩
  obtain ⟨hl, hg⟩ := nilLikes_get h
  obtain ⟨s1, s2⟩ := hs.nilblk e sz fun _ _ => .any
  have hlast : (ρ ++ [(⟨0, none, 0, 0⟩ : Loc)])[bl.length]? = some ⟨0, none, 0, 0⟩ := by rw [← hs.len]; simp
  have get : ∀ (k : Nat) (B' : Blk), (bl' ++ [⟨e, sz, 0, 0, 0, fun _ _ => .any⟩])[k]? = some B' → ∃ B, (bl ++ [⟨e, sz, 0, 0, 0, fun _ _ => .any⟩])[k]? = some B ∧ B.nilLike bl.length B' := by
    intro k B' hk
    rcases Nat.lt_or_ge k bl'.length with h1 | h1
    · rw [List.getElem?_append_left h1] at hk
      obtain ⟨B, q1, q2⟩ := hg k B' hk
      exact ⟨B, by rw [List.getElem?_append_left (by omega)]; exact q1, q2⟩
    · rw [List.getElem?_append_right h1] at hk
      refine ⟨B', by rw [List.getElem?_append_right (by omega), ← hl]; exact hk, Blk.nilLike.refl _ _⟩
  have hD : ∀ b, Dof C.D0 (ρ ++ [⟨0, none, 0, 0⟩]) (bl' ++ [⟨e, sz, 0, 0, 0, fun _ _ => .any⟩]) b → Dof C.D0 (ρ ++ [⟨0, none, 0, 0⟩]) (bl ++ [⟨e, sz, 0, 0, 0, fun _ _ => .any⟩]) b := by
    rintro b (hx | ⟨k, l, B', e1, e2, e3, e4⟩)
    · exact .inl hx
    · obtain ⟨B, q1, q2, _⟩ := get k B' e2
      exact .inr ⟨k, l, B, e1, q1, by rw [q2] at e3; exact e3, e4⟩
  have ref : ∀ {D : Nat → Prop} {c c' : Cell} {v : Value}, refC bl.length c c' → CRel D w (ρ ++ [⟨0, none, 0, 0⟩]) c v → CRel D w (ρ ++ [⟨0, none, 0, 0⟩]) c' v := by
    intro D c c' v hc hv
    rcases hc with rfl | ⟨rfl, rfl⟩
    · exact hv
    · have hv : v = .slice none 0 0 := hv
      exact ⟨_, hlast, Nat.le_refl _, fun _ => hv⟩
  refine ⟨ρ ++ [⟨0, none, 0, 0⟩], ⟨hs.below, hs.d0, by simp [hl, hs.len], fun k l B' e1 e2 hst => ?_, fun i j li lj Bi Bj b e1 e2 e3 e4 e5 e6 e7 e8 => ?_, fun hr b o d hb => s1.noU hr b o d (hD b hb)⟩, ⟨hN.1, hN.2.trans (LocsLe.append _ _)⟩, hdf, fun t => ?_⟩
  · obtain ⟨B, q1, q2, q3, q4⟩ := get k B' e2
    have h1 : B'.st = B.st := by rw [q2]
    have h2 : B'.u = B.u := by rw [q2]
    have h3 : B'.n = B.n := by rw [q2]
    have h4 : B'.sz = B.sz := by rw [q2]
    have h5 : B'.t = B.t := by rw [q2]
    obtain ⟨g0, g1⟩ := (s1.at_ k l B e1 q1).step (Ext.refl _ _) (fun b _ hb => hD b hb) (LocsLe.refl _) (fun _ _ => rfl) (by omega)
    rw [h1, h2, h3, h4, h5]
    refine ⟨g0, ?_⟩
    rcases g1 with g1 | ⟨b, cap, cs, g2, g3, g4, g5, g6, g7, g8, g9⟩
    · exact .inl g1
    · refine .inr ⟨b, cap, cs, g2, g3, g4, g5, g6, g7, g8, fun i j hi hj => ?_⟩
      obtain ⟨u, hu, hur⟩ := g9 i j hi hj
      refine ⟨u, hu, ?_⟩
      by_cases hz : B.st = 0
      · rw [if_pos hz] at hur ⊢
        exact ref (q4 i j hi hj) hur
      · rw [if_neg hz] at hur ⊢
        rw [q3 hz]; exact hur
  · obtain ⟨B1, q1, q2, _⟩ := get i Bi e3
    obtain ⟨B2, q3, q4, _⟩ := get j Bj e4
    exact s1.dist i j li lj B1 B2 b e1 e2 q1 q3 (by rw [q2] at e5; exact e5) (by rw [q4] at e6; exact e6) e7 e8
  · have := (hf t).step (D' := Dof C.D0 (ρ ++ [⟨0, none, 0, 0⟩]) (bl' ++ [⟨e, sz, 0, 0, 0, fun _ _ => .any⟩])) (Ext.refl _ _) (fun b _ hb => s2 b (hD b hb)) (LocsLe.append ρ ⟨0, none, 0, 0⟩)
    show VRel _ _ _ (tm' t) _
    rcases ht t with e1 | ⟨e1, e2⟩
    · rw [e1]; exact this
    · rw [e2]
      have this : VRel _ _ _ (tm t) _ := this
      rw [e1] at this
      exact ref (.inr ⟨rfl, rfl⟩) this
/-- The block k at version u told as at version 0; what is stale is forgotten. -/
def resetC (k u : Nat) : Cell → Cell
  | .p i v sz a o => if i = k then (if v = u then .p k 0 sz a o else .any) else .p i v sz a o
  | .gs i v => if i = k then (if v = u then .gs k 0 else .any) else .gs i v
  | .sl i v sz o m => if i = k then (if v = u then .sl k 0 sz o m else .any) else .sl i v sz o m
  | .cl F m f => if (Cell.cl F m f).clos then .cl F m f else .any
  | c => c
def resetV (k u : Nat) : V → V
  | .c x => .c (resetC k u x)
  | .g l => .g (l.map (resetC k u))
  | .t2 a b => .t2 (resetV k u a) (resetV k u b)
  | .t3 a b d => .t3 (resetV k u a) (resetV k u b) (resetV k u d)
  | .t4 a b d e => .t4 (resetV k u a) (resetV k u b) (resetV k u d) (resetV k u e)
def resetB (k u : Nat) (B : Blk) : Blk := match B.st with
  | 0 => { B with f := fun i j => resetC k u (B.f i j) }
  | _ => B
theorem resetC_clos {k u : Nat} {c : Cell} (h : c.clos = true) : resetC k u c = c := by
  cases c with
  | cl F m f => simp only [resetC]; rw [if_pos h]
  | p | gs | sl => simp [Cell.clos] at h
  | _ => rfl
theorem resetB_eq (k u : Nat) (B : Blk) : resetB k u B = { B with f := (resetB k u B).f } := by unfold resetB; split <;> rfl
theorem reset_rel {D : Nat → Prop} {w : World} {ρ : List Loc} {k u : Nat} {l : Loc} (hk : ρ[k]? = some l) (hu : l.u = u) {c : Cell} {v : Value} (h : CRel D w ρ c v) : CRel D w (ρ.set k { l with u := 0 }) (resetC k u c) v := by
  have hlt : k < ρ.length := (List.getElem?_eq_some_iff.1 hk).1
  cases c with
  | p i x sz a o =>
    simp only [resetC]
    split
    · rename_i e; subst e
      split
      · rename_i e; subst e
        obtain ⟨l1, h1, h2, h3⟩ := h
        rw [hk] at h1; cases h1
        exact ⟨_, List.getElem?_set_self hlt, Nat.zero_le _, fun _ => h3 hu⟩
      · trivial
    · rename_i e
      obtain ⟨l1, h1, h2⟩ := h
      exact ⟨l1, by rw [List.getElem?_set_ne (fun h => e h.symm)]; exact h1, h2⟩
  | gs i x =>
    simp only [resetC]
    split
    · rename_i e; subst e
      split
      · rename_i e; subst e
        obtain ⟨l1, h1, h2, h3⟩ := h
        rw [hk] at h1; cases h1
        exact ⟨_, List.getElem?_set_self hlt, Nat.zero_le _, fun _ => h3 hu⟩
      · trivial
    · rename_i e
      obtain ⟨l1, h1, h2⟩ := h
      exact ⟨l1, by rw [List.getElem?_set_ne (fun h => e h.symm)]; exact h1, h2⟩
  | sl i x sz o m =>
    simp only [resetC]
    split
    · rename_i e; subst e
      split
      · rename_i e; subst e
        obtain ⟨l1, h1, h2, h3⟩ := h
        rw [hk] at h1; cases h1
        exact ⟨_, List.getElem?_set_self hlt, Nat.zero_le _, fun _ => h3 hu⟩
      · trivial
    · rename_i e
      obtain ⟨l1, h1, h2⟩ := h
      exact ⟨l1, by rw [List.getElem?_set_ne (fun h => e h.symm)]; exact h1, h2⟩
  | cl F m f =>
    simp only [resetC]
    split
    · rename_i hc; exact CRel.clos h hc
    · trivial
  | _ => exact h
theorem resets_rel {D : Nat → Prop} {w : World} {ρ : List Loc} {k u : Nat} {l : Loc} (hk : ρ[k]? = some l) (hu : l.u = u) : ∀ {cs : List Cell} {vs : List Value}, CRels D w ρ cs vs → CRels D w (ρ.set k { l with u := 0 }) (cs.map (resetC k u)) vs
  | [], [], _ => trivial
  | _ :: _, _ :: _, h => ⟨reset_rel hk hu h.1, resets_rel hk hu h.2⟩
  | [], _ :: _, h => h.elim
  | _ :: _, [], h => h.elim
theorem resetV_rel {D : Nat → Prop} {w : World} {ρ : List Loc} {k u : Nat} {l : Loc} (hk : ρ[k]? = some l) (hu : l.u = u) : ∀ {x : V} {v : Value}, VRel D w ρ x v → VRel D w (ρ.set k { l with u := 0 }) (resetV k u x) v
  | .c _, _, h => reset_rel hk hu h
  | .g _, _, h => by obtain ⟨vs, h1, h2⟩ := h; exact ⟨vs, h1, resets_rel hk hu h2⟩
  | .t2 _ _, _, h => by obtain ⟨x, y, h1, h2, h3⟩ := h; exact ⟨x, y, h1, resetV_rel hk hu h2, resetV_rel hk hu h3⟩
  | .t3 _ _ _, _, h => by obtain ⟨x, y, z, h1, h2, h3, h4⟩ := h; exact ⟨x, y, z, h1, resetV_rel hk hu h2, resetV_rel hk hu h3, resetV_rel hk hu h4⟩
  | .t4 _ _ _ _, _, h => by obtain ⟨x, y, z, u', h1, h2, h3, h4, h5⟩ := h; exact ⟨x, y, z, u', h1, resetV_rel hk hu h2, resetV_rel hk hu h3, resetV_rel hk hu h4, resetV_rel hk hu h5⟩
/-- A block's version goes back to 0. -/
theorem Weak.reset {m0 : Nat} {tm : Nat → V} {bl : List Blk} (k : Nat) {B : Blk} (hB : bl[k]? = some B) (hst : B.st ≤ 1) (hm : m0.ble k = true) : Weak m0 ⟨tm, bl⟩ ⟨fun t => resetV k B.u (tm t), (bl.map (resetB k B.u)).set k { resetB k B.u B with u := 0 }⟩ := by
  rintro C a w h0 ⟨ρ, hs, hN, hdf, hf⟩
  have hm := Nat.le_of_ble_eq_true hm
  have hkb : k < bl.length := (List.getElem?_eq_some_iff.1 hB).1
  obtain ⟨l, hk⟩ : ∃ l, ρ[k]? = some l := ⟨_, List.getElem?_eq_getElem (by rw [hs.len]; exact hkb)⟩
  have hlt : k < ρ.length := (List.getElem?_eq_some_iff.1 hk).1
  have hu := (hs.at_ k l B hk hB hst).1
  have get : ∀ (j : Nat) (lj : Loc) (Bj : Blk), (ρ.set k { l with u := 0 })[j]? = some lj → ((bl.map (resetB k B.u)).set k { resetB k B.u B with u := 0 })[j]? = some Bj → ∃ (l1 : Loc) (B1 : Blk), ρ[j]? = some l1 ∧ bl[j]? = some B1 ∧ lj.b = l1.b ∧ lj.v = l1.v ∧ (l1.u = B1.u → lj.u = Bj.u) ∧ Bj = { B1 with u := Bj.u, f := (resetB k B.u B1).f } := by
    intro j lj Bj e1 e2
    by_cases e : j = k
    · subst e
      rw [List.getElem?_set_self hlt] at e1
      rw [List.getElem?_set_self (by simpa using hkb)] at e2
      cases e1; cases e2
      refine ⟨l, B, hk, hB, rfl, rfl, fun _ => rfl, ?_⟩
      rw [resetB_eq]
    · rw [List.getElem?_set_ne (fun h => e h.symm)] at e1 e2
      rw [List.getElem?_map] at e2
      cases hb : bl[j]? with
      | none => rw [hb] at e2; cases e2
      | some B1 =>
        rw [hb] at e2; cases e2
        refine ⟨lj, B1, e1, rfl, rfl, rfl, fun h => by rw [resetB_eq]; exact h, ?_⟩
        rw [resetB_eq]
  have hD : ∀ b, Dof C.D0 (ρ.set k { l with u := 0 }) ((bl.map (resetB k B.u)).set k { resetB k B.u B with u := 0 }) b → Dof C.D0 ρ bl b := by
    rintro b (hx | ⟨j, lj, Bj, e1, e2, e3, e4⟩)
    · exact .inl hx
    · obtain ⟨l1, B1, q1, q2, q3, q4, q5, q6⟩ := get j lj Bj e1 e2
      exact .inr ⟨j, l1, B1, q1, q2, by rw [q6] at e3; exact e3, by rw [← q3]; exact e4⟩
  refine ⟨ρ.set k { l with u := 0 }, ⟨hs.below, hs.d0, by simp [hs.len], fun j lj Bj e1 e2 hst' => ?_, fun i j li lj Bi Bj b e1 e2 e3 e4 e5 e6 e7 e8 => ?_, fun hr b o d hb => hs.noU hr b o d (hD b hb)⟩, ⟨hN.1, fun j lj hj => ?_⟩, hdf, fun t => (resetV_rel hk hu (hf t)).step (Ext.refl _ _) (fun b _ hb => hD b hb) (LocsLe.refl _)⟩
  · obtain ⟨l1, B1, q1, q2, q3, q4, q5, q6⟩ := get j lj Bj e1 e2
    have h1 : Bj.st = B1.st := by rw [q6]
    have h3 : Bj.n = B1.n := by rw [q6]
    have h4 : Bj.sz = B1.sz := by rw [q6]
    have h5 : Bj.t = B1.t := by rw [q6]
    have h6 : Bj.f = (resetB k B.u B1).f := by rw [q6]
    obtain ⟨g0, g1⟩ := hs.at_ j l1 B1 q1 q2 (by omega)
    refine ⟨q5 g0, ?_⟩
    rw [h1, h3, h4, h5, h6, q3, q4]
    rcases g1 with g1 | ⟨b, cap, cs, g2, g3, g4, g5, g6, g7, g8, g9⟩
    · exact .inl g1
    · refine .inr ⟨b, cap, cs, g2, g3, g4, g5, g6, g7, g8, fun x y hx hy => ?_⟩
      obtain ⟨v, hv, hvr⟩ := g9 x y hx hy
      refine ⟨v, hv, ?_⟩
      have fin : CRel (Dof C.D0 ρ bl) w (if B1.st = 0 then ρ.set k { l with u := 0 } else []) ((resetB k B.u B1).f x y) v := by
        by_cases hz : B1.st = 0
        · rw [if_pos hz] at hvr ⊢
          have : (resetB k B.u B1).f x y = resetC k B.u (B1.f x y) := by
            unfold resetB
            split
            · rfl
            · rename_i e; exact absurd hz e
          rw [this]; exact reset_rel hk hu hvr
        · rw [if_neg hz] at hvr ⊢
          have : (resetB k B.u B1).f = B1.f := by
            unfold resetB
            split
            · rename_i e; exact absurd e hz
            · rfl
          rw [this]; exact hvr
      exact fin.step (Ext.refl _ _) (fun b _ hb => hD b hb) (LocsLe.refl _)
  · obtain ⟨l1, B1, q1, q2, q3, _, _, q6⟩ := get i li Bi e1 e3
    obtain ⟨l2, B2, q7, q8, q9, _, _, q12⟩ := get j lj Bj e2 e4
    exact hs.dist i j l1 l2 B1 B2 b q1 q7 q2 q8 (by rw [q6] at e5; exact e5) (by rw [q12] at e6; exact e6) (by rw [← q3]; exact e7) (by rw [← q9]; exact e8)
  · obtain ⟨l1, q1, q2⟩ := hN.2 j lj hj
    have hjl := (List.getElem?_eq_some_iff.1 hj).1
    exact ⟨l1, by rw [List.getElem?_set_ne (by omega)]; exact q1, q2⟩
/-- A block that will not be written again. -/
theorem Weak.freeze {m0 : Nat} {tm : Nat → V} {bl : List Blk} (k : Nat) {B : Blk} (hB : bl[k]? = some B) (h0 : B.st = 0) (hcl : ∀ i j, i < B.n → j < B.sz → (B.f i j).clos = true) : Weak m0 ⟨tm, bl⟩ ⟨tm, bl.set k { B with st := 1 }⟩ := by
  rintro C a w _ ⟨ρ, hs, hN, hdf, hf⟩
  obtain ⟨s1, s2⟩ := Sat.freeze hs hB h0 hcl
  exact ⟨ρ, s1, hN, hdf, fun t => (hf t).step (Ext.refl _ _) (fun b _ hb => s2 b hb) (LocsLe.refl _)⟩
/-- The same block, with cells that name frozen blocks told by what they hold. -/
def Blk.closed (bl : List Blk) (B B' : Blk) : Prop := B' = { B with f := B'.f } ∧ (B.st ≠ 0 → B'.f = B.f) ∧ ∀ i j, i < B.n → j < B.sz → B'.f i j = B.f i j ∨ B'.f i j = St.closeC bl (B.f i j)
def closeds (b0 : List Blk) : List Blk → List Blk → Prop
  | [], [] => True
  | B :: l, B' :: l' => B.closed b0 B' ∧ closeds b0 l l'
  | _, _ => False
theorem Blk.closed.refl (bl : List Blk) (B : Blk) : B.closed bl B := ⟨rfl, fun _ => rfl, fun _ _ _ _ => .inl rfl⟩
theorem closeds_get {b0 : List Blk} : ∀ {l l' : List Blk}, closeds b0 l l' → l'.length = l.length ∧ ∀ (k : Nat) (B' : Blk), l'[k]? = some B' → ∃ B, l[k]? = some B ∧ B.closed b0 B'
  | [], [], _ => ⟨rfl, fun k B' h => by simp at h⟩
  | B :: l, B' :: l', h => by
    obtain ⟨h1, h2⟩ := closeds_get h.2
    refine ⟨by simp [h1], fun k B1 hB => ?_⟩
    cases k with
    | zero => simp at hB; subst hB; exact ⟨B, rfl, h.1⟩
    | succ k => exact h2 k B1 (by simpa using hB)
  | [], _ :: _, h => h.elim
  | _ :: _, [], h => h.elim
theorem Weak.close {m0 : Nat} {tm tm' : Nat → V} {bl bl' : List Blk} (h : closeds bl bl bl') (ht : ∀ t, tm' t = tm t ∨ tm' t = St.close bl (tm t)) : Weak m0 ⟨tm, bl⟩ ⟨tm', bl'⟩ := by
  rintro C a w _ ⟨ρ, hs, hN, hdf, hf⟩
  obtain ⟨hl, hg⟩ := closeds_get h
  have hD : ∀ b, Dof C.D0 ρ bl' b → Dof C.D0 ρ bl b := by
    rintro b (hx | ⟨k, l, B', e1, e2, e3, e4⟩)
    · exact .inl hx
    · obtain ⟨B, q1, q2, _⟩ := hg k B' e2
      exact .inr ⟨k, l, B, e1, q1, by rw [q2] at e3; exact e3, e4⟩
  refine ⟨ρ, ⟨hs.below, hs.d0, by rw [hl]; exact hs.len, fun k l B' e1 e2 hst => ?_, fun i j li lj Bi Bj b e1 e2 e3 e4 e5 e6 e7 e8 => ?_, fun hr b o d hb => hs.noU hr b o d (hD b hb)⟩, hN, hdf, fun t => ?_⟩
  · obtain ⟨B, q1, q2, q3, q4⟩ := hg k B' e2
    have h1 : B'.st = B.st := by rw [q2]
    have h2 : B'.u = B.u := by rw [q2]
    have h3 : B'.n = B.n := by rw [q2]
    have h4 : B'.sz = B.sz := by rw [q2]
    have h5 : B'.t = B.t := by rw [q2]
    obtain ⟨g0, g1⟩ := hs.at_ k l B e1 q1 (by omega)
    rw [h1, h2, h3, h4, h5]
    refine ⟨g0, ?_⟩
    rcases g1 with g1 | ⟨b, cap, cs, g2, g3, g4, g5, g6, g7, g8, g9⟩
    · exact .inl g1
    · refine .inr ⟨b, cap, cs, g2, g3, g4, g5, g6, g7, g8, fun i j hi hj => ?_⟩
      obtain ⟨u, hu, hur⟩ := g9 i j hi hj
      refine ⟨u, hu, ?_⟩
      have fin : CRel (Dof C.D0 ρ bl) w (if B.st = 0 then ρ else []) (B'.f i j) u := by
        by_cases hz : B.st = 0
        · rw [if_pos hz] at hur ⊢
          rcases q4 i j hi hj with e | e
          · rw [e]; exact hur
          · rw [e]; exact closeC_rel hs hur
        · rw [if_neg hz] at hur ⊢
          rw [q3 hz]; exact hur
      exact fin.step (Ext.refl _ _) (fun b _ hb => hD b hb) (LocsLe.refl _)
  · obtain ⟨B1, q1, q2, _⟩ := hg i Bi e3
    obtain ⟨B2, q3, q4, _⟩ := hg j Bj e4
    exact hs.dist i j li lj B1 B2 b e1 e2 q1 q3 (by rw [q2] at e5; exact e5) (by rw [q4] at e6; exact e6) e7 e8
  · have : VRel (Dof C.D0 ρ bl) w ρ (tm' t) (a.tmps.getD t undef) := by
      rcases ht t with e | e
      · rw [e]; exact hf t
      · rw [e]; exact close_rel hs (hf t)
    exact this.step (Ext.refl _ _) (fun b _ hb => hD b hb) (LocsLe.refl _)
end Go.Proofs.YtigciplaoikcfaaGreat
/- A function's contract, off its code through abstract states. -/
namespace Go.Proofs.YtigciplaoikcfaaGreat
open Go.RowKit
def resOf (E : Env) (σ : St) : ResultVar → Option V
  | .tmp t => some (σ.tm t)
  | .cell a T => match E.ty T with
    | some ti => match σ.tm a with
      | .c (.p k u sz i o) => match σ.bl[k]? with
        | some B => if (ti.agg || ti.size == 1) && (B.u == u && (B.sz == sz && (B.st.ble 1 && (o + ti.size).ble sz))) then some (ofCells ti.agg ((List.range ti.size).map fun j => B.f i (o + j))) else none
        | none => none
      | _ => none
    | none => none
def retV (E : Env) (σ : St) : List ResultVar → Option V
  | [] => some (.c .any)
  | [a] => resOf E σ a
  | [a, b] => match resOf E σ a, resOf E σ b with
    | some x, some y => some (.t2 x y)
    | _, _ => none
  | [a, b, c] => match resOf E σ a, resOf E σ b, resOf E σ c with
    | some x, some y, some z => some (.t3 x y z)
    | _, _, _ => none
  | [a, b, c, d] => match resOf E σ a, resOf E σ b, resOf E σ c, resOf E σ d with
    | some x, some y, some z, some u => some (.t4 x y z u)
    | _, _, _, _ => none
  | _ => none
def closeT (bl : List Blk) : V → V
  | .t2 a b => .t2 (closeT bl a) (closeT bl b)
  | .t3 a b d => .t3 (closeT bl a) (closeT bl b) (closeT bl d)
  | .t4 a b d e => .t4 (closeT bl a) (closeT bl b) (closeT bl d) (closeT bl e)
  | x => St.close bl x
def closT : V → Bool
  | .t2 a b => closT a && closT b
  | .t3 a b d => closT a && (closT b && closT d)
  | .t4 a b d e => closT a && (closT b && (closT d && closT e))
  | x => x.clos
/-- What reads as the one reads as the other. -/
def Sub (x y : V) : Prop := ∀ D w v, VRel D w [] x v → VRel D w [] y v
theorem Sub.refl (x : V) : Sub x x := fun _ _ _ h => h
theorem closeT_rel {D0 : Nat → Prop} {w0 : Base} {w : World} {r : Bool} {ρ : List Loc} {bl : List Blk} (h : Sat D0 w0 r ρ bl w) : ∀ {x : V} {v : Value}, VRel (Dof D0 ρ bl) w ρ x v → VRel (Dof D0 ρ bl) w ρ (closeT bl x) v
  | .c _, _, hx => close_rel h hx
  | .g _, _, hx => close_rel h hx
  | .t2 _ _, _, hx => by obtain ⟨x, y, h1, h2, h3⟩ := hx; exact ⟨x, y, h1, closeT_rel h h2, closeT_rel h h3⟩
  | .t3 _ _ _, _, hx => by obtain ⟨x, y, z, h1, h2, h3, h4⟩ := hx; exact ⟨x, y, z, h1, closeT_rel h h2, closeT_rel h h3, closeT_rel h h4⟩
  | .t4 _ _ _ _, _, hx => by obtain ⟨x, y, z, u, h1, h2, h3, h4, h5⟩ := hx; exact ⟨x, y, z, u, h1, closeT_rel h h2, closeT_rel h h3, closeT_rel h h4, closeT_rel h h5⟩
theorem closT_rel {D : Nat → Prop} {w : World} {ρ ρ' : List Loc} : ∀ {x : V} {v : Value}, VRel D w ρ x v → closT x = true → VRel D w ρ' x v
  | .c _, _, hx, hc => VRel.clos hx hc
  | .g _, _, hx, hc => VRel.clos hx hc
  | .t2 _ _, _, hx, hc => by
    simp only [closT, Bool.and_eq_true] at hc
    obtain ⟨x, y, h1, h2, h3⟩ := hx; exact ⟨x, y, h1, closT_rel h2 hc.1, closT_rel h3 hc.2⟩
  | .t3 _ _ _, _, hx, hc => by
    simp only [closT, Bool.and_eq_true] at hc
    obtain ⟨x, y, z, h1, h2, h3, h4⟩ := hx; exact ⟨x, y, z, h1, closT_rel h2 hc.1, closT_rel h3 hc.2.1, closT_rel h4 hc.2.2⟩
  | .t4 _ _ _ _, _, hx, hc => by
    simp only [closT, Bool.and_eq_true] at hc
    obtain ⟨x, y, z, u, h1, h2, h3, h4, h5⟩ := hx; exact ⟨x, y, z, u, h1, closT_rel h2 hc.1, closT_rel h3 hc.2.1, closT_rel h4 hc.2.2.1, closT_rel h5 hc.2.2.2⟩
/-- The function's end: what it hands back reads as X. -/
def retOK (E : Env) (rs : List ResultVar) (X : V) (e : Exit) (σ : St) : Prop :=
  match e with
  | .normal | .ret => match retV E σ rs with
    | some v => frzA (partsV v) σ fun σ' => closT (closeT σ'.bl v) = true ∧ Sub (closeT σ'.bl v) X
    | none => False
  | _ => False
theorem frz1_tm {σ : St} {tm : Nat → V} {x : V} {K K' : St → Prop} (hK : ∀ bl, K ⟨σ.tm, bl⟩ → K' ⟨tm, bl⟩) (h : frz1 σ x K) : frz1 ⟨tm, σ.bl⟩ x K' := by
  have key : ∀ k, (match σ.bl[k]? with
    | some B => (B.st = 0 → (∀ i j, i < B.n → j < B.sz → (B.f i j).clos = true) ∧ K { σ with bl := σ.bl.set k { B with st := 1 } }) ∧ (B.st ≠ 0 → K σ)
    | none => K σ) → (match σ.bl[k]? with
    | some B => (B.st = 0 → (∀ i j, i < B.n → j < B.sz → (B.f i j).clos = true) ∧ K' { tm := tm, bl := σ.bl.set k { B with st := 1 } }) ∧ (B.st ≠ 0 → K' ⟨tm, σ.bl⟩)
    | none => K' ⟨tm, σ.bl⟩) := by
    intro k h
    split at h
    · exact ⟨fun hz => ⟨(h.1 hz).1, hK _ (h.1 hz).2⟩, fun hz => hK _ (h.2 hz)⟩
    · exact hK _ h
  unfold Go.Proofs.YtigciplaoikcfaaGreat.frz1 at h ⊢
  split at h
  · exact Eq.mpr (frz1_eq ⟨tm, σ.bl⟩ _ K') (key _ (Eq.mp (frz1_eq σ _ K) h))
  · exact Eq.mpr (frz1_eq ⟨tm, σ.bl⟩ _ K') (key _ (Eq.mp (frz1_eq σ _ K) h))
  · exact Eq.mpr (frz1_eq ⟨tm, σ.bl⟩ _ K') (key _ (Eq.mp (frz1_eq σ _ K) h))
  · exact hK _ h
theorem frzA_tm {tm : Nat → V} : ∀ (l : List V) {σ : St} {K K' : St → Prop}, (∀ bl, K ⟨σ.tm, bl⟩ → K' ⟨tm, bl⟩) → frzA l σ K → frzA l ⟨tm, σ.bl⟩ K'
  | [], _, _, _, hK, h => hK _ h
  | _ :: l, σ, _, _, hK, h => frz1_tm (fun bl h' => frzA_tm l (σ := ⟨σ.tm, bl⟩) hK h') h
def resRun (a : Act) : ResultVar → Sem Value
  | .tmp t => pure (a.tmps.getD t undef)
  | .cell b t => do loadVar t (← asAddr (a.tmps.getD b undef))
theorem results_eq (fn : Func) (a : Act) : results fn a.tmps = (do let vs ← fn.results.mapM (resRun a); pure (if h : vs.size = 1 then vs[0] else .tuple vs)) := rfl
theorem res_run {E : Env} (hE : EnvOK E) {D0 : Nat → Prop} {w0 : Base} {w : World} {r : Bool} {ρ : List Loc} {σ : St} {a : Act} (hs : Sat D0 w0 r ρ σ.bl w) (hf : ∀ t, VRel (Dof D0 ρ σ.bl) w ρ (σ.tm t) (a.tmps.getD t undef)) {rv : ResultVar} {v : V} (h : resOf E σ rv = some v) :
    ∃ x, (resRun a rv).run E.P w = .ok x w ∧ VRel (Dof D0 ρ σ.bl) w ρ v x := by
  cases rv with
  | tmp t => simp only [resOf] at h; cases h; exact ⟨_, rfl, hf t⟩
  | cell b T =>
    simp only [resOf] at h
    split at h
    · rename_i ti ht
      split at h
      · rename_i k u sz i o hv
        split at h
        · rename_i B hB
          split at h
          · rename_i hc
            simp only [Bool.and_eq_true, Bool.or_eq_true, beq_iff_eq, Nat.ble_eq] at hc
            cases h
            have ht := hE.ty _ _ ht
            obtain ⟨h1, h2, h3, h4, h6⟩ := hc
            have e1 := hf b
            rw [hv] at e1
            obtain ⟨x, hx, hxr⟩ := load_p hs ht h1 hB h2 h3 h4 h6 e1
            obtain ⟨l, hl, hu, hp⟩ := e1
            obtain ⟨_, b', e2, e3⟩ := hp (by have := loc_u hs hl hB (by omega); omega)
            refine ⟨x, ?_, hxr⟩
            rw [e3] at hx
            show (do loadVar T (← asAddr (a.tmps.getD b undef)) : Sem Value).run E.P w = .ok x w
            rw [e3]
            simpa [Instr.loadAt, Instr.sureAddr, asAddr] using hx
          · cases h
        · cases h
      · cases h
    · cases h
theorem ret_run {E : Env} (hE : EnvOK E) {fn : Func} {D0 : Nat → Prop} {w0 : Base} {w : World} {r : Bool} {ρ : List Loc} {σ : St} {a : Act} (hs : Sat D0 w0 r ρ σ.bl w) (hf : ∀ t, VRel (Dof D0 ρ σ.bl) w ρ (σ.tm t) (a.tmps.getD t undef)) {v : V} (h : retV E σ fn.results.toList = some v) :
    ∃ x, (results fn a.tmps).run E.P w = .ok x w ∧ VRel (Dof D0 ρ σ.bl) w ρ v x := by
  have key : ∀ rs : List ResultVar, fn.results.toList = rs → ∃ x, (results fn a.tmps).run E.P w = .ok x w ∧ VRel (Dof D0 ρ σ.bl) w ρ v x := by
    intro rs hrs
    rw [hrs] at h
    have hr : fn.results = rs.toArray := by rw [← hrs]
    have hm : results fn a.tmps = (do let vs ← Functor.map List.toArray (rs.mapM (resRun a)); pure (if h : vs.size = 1 then vs[0] else .tuple vs)) := by
      rw [results_eq, hr, Array.mapM_eq_mapM_toList]
    match rs, h, hm with
    | [], h, hm => simp only [retV] at h; cases h; exact ⟨.tuple #[], by rw [hm]; simp, trivial⟩
    | [p], h, hm =>
      simp only [retV] at h
      obtain ⟨x, h1, h2⟩ := res_run hE hs hf h
      exact ⟨x, by rw [hm]; simp [List.mapM_cons, h1], h2⟩
    | [p, q], h, hm =>
      simp only [retV] at h
      split at h
      · rename_i v1 v2 hv1 hv2
        cases h
        obtain ⟨x, h1, h2⟩ := res_run hE hs hf hv1
        obtain ⟨y, h3, h4⟩ := res_run hE hs hf hv2
        exact ⟨.tuple #[x, y], by rw [hm]; simp [List.mapM_cons, h1, h3, Result.andThen], x, y, rfl, h2, h4⟩
      · cases h
    | [p, q, s], h, hm =>
      simp only [retV] at h
      split at h
      · rename_i v1 v2 v3 hv1 hv2 hv3
        cases h
        obtain ⟨x, h1, h2⟩ := res_run hE hs hf hv1
        obtain ⟨y, h3, h4⟩ := res_run hE hs hf hv2
        obtain ⟨z, h5, h6⟩ := res_run hE hs hf hv3
        exact ⟨.tuple #[x, y, z], by rw [hm]; simp [List.mapM_cons, h1, h3, h5, Result.andThen], x, y, z, rfl, h2, h4, h6⟩
      · cases h
    | [p, q, s, t], h, hm =>
      simp only [retV] at h
      split at h
      · rename_i v1 v2 v3 v4 hv1 hv2 hv3 hv4
        cases h
        obtain ⟨x, h1, h2⟩ := res_run hE hs hf hv1
        obtain ⟨y, h3, h4⟩ := res_run hE hs hf hv2
        obtain ⟨z, h5, h6⟩ := res_run hE hs hf hv3
        obtain ⟨u, h7, h8⟩ := res_run hE hs hf hv4
        exact ⟨.tuple #[x, y, z, u], by rw [hm]; simp [List.mapM_cons, h1, h3, h5, h7, Result.andThen], x, y, z, u, rfl, h2, h4, h6, h8⟩
      · cases h
    | _ :: _ :: _ :: _ :: _ :: _, h, _ => simp [retV] at h
  exact key _ rfl
theorem VRels.get {D : Nat → Prop} {w : World} {ρ : List Loc} : ∀ {l : List V} {vs : List Value}, VRels D w ρ l vs → ∀ t : Nat, VRel D w ρ (l.getD t (.c .any)) (vs.getD t undef)
  | [], [], _, t => by simp [VRel, CRel]
  | _ :: _, _ :: _, h, 0 => h.1
  | _ :: _, _ :: _, h, t + 1 => by simpa using VRels.get h.2 t
  | [], _ :: _, h, _ => h.elim
  | _ :: _, [], h, _ => h.elim
theorem VRels.length {D : Nat → Prop} {w : World} {ρ : List Loc} : ∀ {l : List V} {vs : List Value}, VRels D w ρ l vs → l.length = vs.length
  | [], [], _ => rfl
  | _ :: _, _ :: _, h => by simp [VRels.length h.2]
  | [], _ :: _, h => h.elim
  | _ :: _, [], h => h.elim
def frame0 (args : List V) (t : Nat) : V := args.getD t (.c .any)
/-- **The contract of a function, off its code.** -/
theorem fn_ok {E : Env} (hE : EnvOK E) {f : FuncId} {fn : Func} {c : Code} {args : List V} {X : V} (hf : E.P.funcs[f]? = some fn) (hb : fn.body = some c) (hm : E.P.follows .mixedOrders = true) (hc : codeB fn.ntmps c = true) (hbd : hasBody E.P f = true)
    (h : awp E c ⟨frame0 args, []⟩ (retOK E fn.results.toList X)) : FnOK E.P E.r f args X := by
  refine ⟨hbd, ?_⟩
  intro D w vs hD hU hargs
  refine calls_of_wp hf hb ?_
  let C : Ctx := ⟨D, ⟨w, fun _ => False⟩, E.r, fn.ntmps, []⟩
  have hlen := hargs.length
  have hrel : Rel C ⟨frame0 args, []⟩ { tmps := vs.toArray ++ Array.replicate (fn.ntmps - vs.toArray.size) undef, defers := [] } w := by
    have hDof : ∀ b, Dof D [] [] b → D b := by
      rintro b (h | ⟨k, l, B, h1, _⟩)
      · exact h
      · simp at h1
    refine ⟨[], ⟨⟨rfl, rfl, rfl, Nat.le_refl _, fun _ _ _ => rfl⟩, fun b hb => ⟨hD b hb, id⟩, rfl, fun k l B h1 _ => by simp at h1, fun i j li lj Bi Bj b h1 => by simp at h1, fun hr b o d hb => hU hr b o d (hDof b hb)⟩, ⟨by simp [C]; omega, LocsLe.refl _⟩, rfl, fun t => ?_⟩
    have h1 := hargs.get t
    have h2 : VRel (Dof D [] []) w [] (args.getD t (.c .any)) (vs.getD t undef) := h1.step (Ext.refl _ _) (fun b _ hb => hDof b hb) (LocsLe.refl _)
    show VRel (Dof D [] []) w [] (args.getD t (.c .any)) _
    rcases Nat.lt_or_ge t vs.length with hlt | hge
    · have : (vs.toArray ++ Array.replicate (fn.ntmps - vs.toArray.size) undef).getD t undef = vs.getD t undef := by
        rw [Array.getD_eq_getD_getElem?, Array.getElem?_append_left (by simpa using hlt)]
        simp [List.getD]
      rw [this]; exact h2
    · rw [show args.getD t (V.c .any) = .c .any by rw [List.getD, List.getElem?_eq_none (by omega)]; rfl]
      trivial
  refine wp_mono (awp_sound (C := C) hE rfl (Nat.zero_le _) hm c hc h hrel) ?_
  rintro e a w' ⟨σ, hr, hk⟩
  have fin : retOK E fn.results.toList X .ret σ → a.defers = [] ∧ ∃ v, (results fn a.tmps).run E.P w' = .ok v w' ∧ ∃ u, Ending.returned v = .returned u ∧ VRel D w' [] X u ∧ Below w.heap.size w w' := by
    intro hk
    obtain ⟨ρ, hs, hN, hdf, hfr⟩ := hr
    refine ⟨hdf, ?_⟩
    simp only [retOK] at hk
    split at hk
    · rename_i v hv
      obtain ⟨x, hx, hxr⟩ := ret_run hE hs hfr hv
      -- the result in a slot of its own
      let tm' : Nat → V := fun t => if t = a.tmps.size then v else σ.tm t
      let a' : Act := { a with tmps := a.tmps.push x }
      have hrel' : Rel C ⟨tm', σ.bl⟩ a' w' := by
        refine ⟨ρ, hs, ⟨by show _ ≤ (a.tmps.push x).size; have := hN.1; simp; omega, hN.2⟩, hdf, fun t => ?_⟩
        show VRel _ _ _ (if t = a.tmps.size then v else σ.tm t) ((a.tmps.push x).getD t undef)
        by_cases e : t = a.tmps.size
        · rw [if_pos e, e]; simpa [Array.getD] using hxr
        · rw [if_neg e]
          have : (a.tmps.push x).getD t undef = a.tmps.getD t undef := by
            rw [Array.getD_eq_getD_getElem?, Array.getD_eq_getD_getElem?, Array.getElem?_push]
            rw [if_neg e]
          rw [this]; exact hfr t
      have hk' := frzA_tm (tm := tm') (K' := fun σ' => closT (closeT σ'.bl v) = true ∧ Sub (closeT σ'.bl v) X) (partsV v) (fun bl h => h) hk
      obtain ⟨σ', ⟨h1, h2⟩, ⟨ρ', hs', _, _, hfr'⟩, htm⟩ := Rel.frzA hk' hrel'
      have h3 := hfr' a.tmps.size
      rw [htm] at h3
      have h4 : VRel (Dof D ρ' σ'.bl) w' ρ' v x := by
        have e1 : tm' a.tmps.size = v := by show (if a.tmps.size = a.tmps.size then v else _) = v; rw [if_pos rfl]
        have e2 : a'.tmps.getD a.tmps.size undef = x := by show (a.tmps.push x).getD a.tmps.size undef = x; simp [Array.getD]
        rw [← e1, ← e2]
        exact h3
      have h5 := closT_rel (ρ' := []) (closeT_rel hs' h4) h1
      exact ⟨x, hx, x, rfl, h2 D w' x (h5.step (Ext.refl _ _) (fun b _ hb => .inl hb) (LocsLe.refl _)), ⟨hs'.below.os, hs'.below.tape, hs'.below.output, hs'.below.size, fun k hk => hs'.below.block k hk id⟩⟩
    · exact hk.elim
  cases e with
  | normal => exact fin hk
  | ret => exact fin hk
  | exit i => exact hk.elim
  | goto l => exact hk.elim
  | panic ch => exact hk.elim
  | outgrown => exact hk.elim
/-- The end of a function that may write a block. -/
def retM (E : Env) (rs : List ResultVar) (X : V) (post : List Blk) (e : Exit) (σ : St) : Prop :=
  match e with
  | .normal | .ret => match retV E σ rs with
    | some v => Weak 1 ⟨asg [(0, v)], σ.bl⟩ ⟨asg [(0, X)], post⟩
    | none => False
  | _ => False
/-- **The contract of a function that may write a block, off its code.** -/
theorem fnm_ok {E : Env} (hE : EnvOK E) {f : FuncId} {fn : Func} {c : Code} {args : List V} {X : V} {B B' : Blk} {fresh : List Blk} (hf : E.P.funcs[f]? = some fn) (hb : fn.body = some c) (hm : E.P.follows .mixedOrders = true) (hc : codeB fn.ntmps c = true) (hbd : hasBody E.P f = true) (hm0 : E.m0 = 1)
    (h : awp E c ⟨frame0 args, [B]⟩ (retM E fn.results.toList X (B' :: fresh))) : FnM E.P E.r f B args X B' fresh := by
  refine ⟨hbd, ?_⟩
  intro D w0 l w vs hs0 hargs
  refine calls_of_wp hf hb ?_
  let C : Ctx := ⟨D, w0, E.r, fn.ntmps, [l]⟩
  have hlen := hargs.length
  have hrel : Rel C ⟨frame0 args, [B]⟩ { tmps := vs.toArray ++ Array.replicate (fn.ntmps - vs.toArray.size) undef, defers := [] } w := by
    refine ⟨[l], hs0, ⟨by simp [C]; omega, LocsLe.refl _⟩, rfl, fun t => ?_⟩
    have h2 := hargs.get t
    show VRel (Dof D [l] [B]) w [l] (args.getD t (.c .any)) _
    rcases Nat.lt_or_ge t vs.length with hlt | hge
    · have : (vs.toArray ++ Array.replicate (fn.ntmps - vs.toArray.size) undef).getD t undef = vs.getD t undef := by
        rw [Array.getD_eq_getD_getElem?, Array.getElem?_append_left (by simpa using hlt)]
        simp [List.getD]
      rw [this]; exact h2
    · rw [show args.getD t (V.c .any) = .c .any by rw [List.getD, List.getElem?_eq_none (by omega)]; rfl]
      trivial
  refine wp_mono (awp_sound (C := C) hE rfl (by rw [hm0]; exact Nat.le_refl 1) hm c hc h hrel) ?_
  rintro e a w' ⟨σ, hr, hk⟩
  have fin : retM E fn.results.toList X (B' :: fresh) .ret σ → a.defers = [] ∧ ∃ v, (results fn a.tmps).run E.P w' = .ok v w' ∧ ∃ u l' ρ', Ending.returned v = .returned u ∧ Sat D w0 E.r (l' :: ρ') (B' :: fresh) w' ∧ LocsLe [l] [l'] ∧ VRel (Dof D (l' :: ρ') (B' :: fresh)) w' (l' :: ρ') X u := by
    intro hk
    obtain ⟨ρ, hs, hN, hdf, hfr⟩ := hr
    refine ⟨hdf, ?_⟩
    simp only [retM] at hk
    split at hk
    · rename_i v hv
      obtain ⟨x, hx, hxr⟩ := ret_run hE hs hfr hv
      have hrel' : Rel ⟨D, w0, E.r, 0, [l]⟩ ⟨asg [(0, v)], σ.bl⟩ ⟨#[x], []⟩ w' := by
        refine ⟨ρ, hs, ⟨Nat.zero_le _, hN.2⟩, rfl, fun t => ?_⟩
        show VRel _ _ _ (if t = 0 then v else .c .any) _
        split
        · rename_i e; subst e; exact hxr
        · trivial
      obtain ⟨ρ2, hs2, hN2, _, hf2⟩ := hk ⟨D, w0, E.r, 0, [l]⟩ _ _ (Nat.le_refl 1) hrel'
      have h3 : VRel (Dof D ρ2 (B' :: fresh)) w' ρ2 X x := hf2 0
      match ρ2, hs2, hN2, h3 with
      | [], hs2, _, _ => have := hs2.len; simp at this
      | l' :: ρ', hs2, hN2, h3 =>
        refine ⟨x, hx, x, l', ρ', rfl, hs2, fun i li hi => ?_, h3⟩
        cases i with
        | zero =>
          obtain ⟨l2, e1, e2⟩ := hN2.2 0 li hi
          exact ⟨l2, by simpa using e1, e2⟩
        | succ i => simp at hi
    · exact hk.elim
  cases e with
  | normal => exact fin hk
  | ret => exact fin hk
  | exit i => exact hk.elim
  | goto l => exact hk.elim
  | panic ch => exact hk.elim
  | outgrown => exact hk.elim
end Go.Proofs.YtigciplaoikcfaaGreat
