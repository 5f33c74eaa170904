/- A run of code as a function, and what it tells of the call: shared blocks, calls by contract or by running them. -/
import Derived.Test.YtmfaipklhkgieaaGreatRunC
namespace Go.Proofs.YtmfaipklhkgieaaGreat
open Go.RowKit
/-! Freezing what hangs together -/
def nmC : Cell → List Nat
  | .p k .. | .gs k _ | .sl k .. => [k]
  | .cl _ m f => (List.range m).flatMap fun j => nmC (f j)
  | _ => []
def nmV : V → List Nat
  | .c x => nmC x
  | .g l => l.flatMap nmC
  | .t2 a b => nmV a ++ nmV b
  | .t3 a b d => nmV a ++ (nmV b ++ nmV d)
  | .t4 a b d e => nmV a ++ (nmV b ++ (nmV d ++ nmV e))
def frzK (k : Nat) (σ : St) : St := match σ.bl[k]? with
  | some B => match B.st with
    | 0 => match allIJ B.n B.sz fun i j => (St.closeC σ.bl (B.f i j)).clos with
      | true => { σ with bl := σ.bl.set k { B with st := 1, f := fun i j => St.closeC σ.bl (B.f i j) } }
      | false => σ
    | _ => σ
  | none => σ
theorem closeds_refl (b0 : List Blk) : ∀ l : List Blk, closeds b0 l l
  | [] => trivial
  | B :: l => ⟨Blk.closed.refl b0 B, closeds_refl b0 l⟩
theorem closeds_set {b0 : List Blk} {B B' : Blk} (h : B.closed b0 B') : ∀ {l : List Blk} {k : Nat}, l[k]? = some B → closeds b0 l (l.set k B')
  | [], k, hk => by simp at hk
  | x :: l, 0, hk => by simp at hk; subst hk; exact ⟨h, closeds_refl b0 l⟩
  | x :: l, k + 1, hk => ⟨Blk.closed.refl b0 x, closeds_set h (by simpa using hk)⟩
theorem Lax.frzK (k : Nat) (σ : St) : Lax σ (frzK k σ) := by
  unfold Go.Proofs.YtmfaipklhkgieaaGreat.frzK
  split
  · rename_i B hB
    split
    · rename_i hst
      split
      · rename_i hall
        have hkl : k < σ.bl.length := (List.getElem?_eq_some_iff.1 hB).1
        have h1 : Lax ⟨σ.tm, σ.bl⟩ ⟨σ.tm, σ.bl.set k { B with f := fun i j => St.closeC σ.bl (B.f i j) }⟩ :=
          Weak.lax fun m0 => Weak.close (closeds_set ⟨rfl, fun h => absurd hst h, fun i j _ _ => .inr rfl⟩ hB) fun t => .inl rfl
        have h2 : Lax ⟨σ.tm, σ.bl.set k { B with f := fun i j => St.closeC σ.bl (B.f i j) }⟩ ⟨σ.tm, (σ.bl.set k { B with f := fun i j => St.closeC σ.bl (B.f i j) }).set k { B with st := 1, f := fun i j => St.closeC σ.bl (B.f i j) }⟩ :=
          Weak.lax fun m0 => Weak.freeze k (B := { B with f := fun i j => St.closeC σ.bl (B.f i j) }) (by rw [List.getElem?_set_self hkl]) hst fun i j hi hj => allIJ_ok hall hi hj
        rw [List.set_set] at h2
        exact h1.trans h2
      · exact Lax.refl _
    · exact Lax.refl _
  · exact Lax.refl _
def dfz : Nat → Nat → St → St
  | 0, _, σ => σ
  | d + 1, k, σ => match σ.bl[k]? with
    | some B => match B.st with
      | 0 => Go.Proofs.YtmfaipklhkgieaaGreat.frzK k (((List.range B.n).flatMap fun i => (List.range B.sz).flatMap fun j => nmC (B.f i j)).foldl (fun s k' => dfz d k' s) σ)
      | _ => σ
    | none => σ
theorem foldl_lax {α : Type} {g : St → α → St} (hg : ∀ s x, Lax s (g s x)) : ∀ (l : List α) (σ : St), Lax σ (l.foldl g σ)
  | [], σ => Lax.refl σ
  | x :: l, σ => (hg σ x).trans (foldl_lax hg l (g σ x))
theorem Lax.dfz : ∀ (d k : Nat) (σ : St), Lax σ (dfz d k σ)
  | 0, _, σ => Lax.refl σ
  | d + 1, k, σ => by
    simp only [Go.Proofs.YtmfaipklhkgieaaGreat.dfz]
    split
    · split
      · exact (foldl_lax (fun s k' => Lax.dfz d k' s) _ σ).trans (Lax.frzK k _)
      · exact Lax.refl σ
    · exact Lax.refl σ
def dfzL (l : List Nat) (σ : St) : St := l.foldl (fun s k => dfz 8 k s) σ
theorem Lax.dfzL (l : List Nat) (σ : St) : Lax σ (dfzL l σ) := foldl_lax (fun s k => Lax.dfz 8 k s) l σ
/-! Calls that share the caller's blocks -/
def killB (bl : List Blk) (B : Blk) : Blk := match B.st with
  | 0 => { B with f := fun i j => St.closeC bl (B.f i j) }
  | _ => phB
/-- What is frozen is told by what it holds, and forgotten. -/
def closeAll (σ : St) : St := ⟨fun t => closeT σ.bl (σ.tm t), σ.bl.map (killB σ.bl)⟩
theorem closeAll_sat {D0 : Nat → Prop} {w0 : Base} {w : World} {r : Bool} {ρ : List Loc} {σ : St} (hs : Sat D0 w0 r ρ σ.bl w) : Sat D0 w0 r ρ (closeAll σ).bl w ∧ (∀ b, Dof D0 ρ (closeAll σ).bl b → Dof D0 ρ σ.bl b) :=
  hs.less (killB σ.bl) (fun B hb => by
    obtain ⟨t, sz, n, u, st, f⟩ := B
    match st, hb with
    | 0, _ => exact ⟨rfl, rfl, rfl, rfl, rfl⟩
    | _ + 1, hb => exact absurd hb (by simp [killB, phB])) (fun B hB hb i j hi hj v hv => by
    obtain ⟨t, sz, n, u, st, f⟩ := B
    match st, hb with
    | 0, _ => simp only [if_true] at hv ⊢; exact closeC_rel hs hv
    | _ + 1, hb => exact absurd hb (by simp [killB, phB]))
theorem closeAll_st {σ : St} {B : Blk} (h : B ∈ (closeAll σ).bl) : B.st = 0 ∨ 2 ≤ B.st := by
  obtain ⟨B0, _, rfl⟩ := List.mem_map.1 h
  unfold killB
  split
  · rename_i e; exact .inl e
  · exact .inr (Nat.le_refl 2)
/-- The live blocks. -/
def liveM (ρ : List Loc) (bl : List Blk) (b : Nat) : Prop := ∃ (k : Nat) (l : Loc) (B : Blk), ρ[k]? = some l ∧ bl[k]? = some B ∧ B.st = 0 ∧ l.b = some b
theorem Sat.rebase {D0 : Nat → Prop} {w0 : Base} {w : World} {r : Bool} {ρ : List Loc} {bl : List Blk} (hs : Sat D0 w0 r ρ bl w) (hst : ∀ B ∈ bl, B.st = 0 ∨ 2 ≤ B.st) : Sat D0 ⟨w, liveM ρ bl⟩ r ρ bl w where
  below := ⟨rfl, rfl, rfl, Nat.le_refl _, fun _ _ _ => rfl⟩
  d0 b hb := ⟨Nat.lt_of_lt_of_le (hs.d0 b hb).1 hs.below.size, fun ⟨k, l, B, h1, h2, h3, h4⟩ => by
    rcases hs.own h1 h2 (by omega) h4 with e | e
    · have := (hs.d0 b hb).1; omega
    · exact (hs.d0 b hb).2 e⟩
  len := hs.len
  at_ k l B h1 h2 := by
    intro hb
    obtain ⟨g0, g1⟩ := hs.at_ k l B h1 h2 hb
    refine ⟨g0, ?_⟩
    rcases g1 with g1 | ⟨b, cap, cs, g2, g3, g4, g5, g6, g7, g8, g9⟩
    · exact .inl g1
    · exact .inr ⟨b, cap, cs, g2, .inr ⟨k, l, B, h1, h2, by rcases hst B (List.mem_of_getElem? h2) with e | e <;> omega, g2⟩, g4, g5, g6, g7, g8, g9⟩
  dist := hs.dist
  noU := hs.noU
theorem Sat.unbase {D0 : Nat → Prop} {w0 : Base} {w w' : World} {r : Bool} {ρ ρ' : List Loc} {bl bl' : List Blk} (h : Sat D0 w0 r ρ bl w) (h' : Sat D0 ⟨w, liveM ρ bl⟩ r ρ' bl' w') :
    Sat D0 w0 r ρ' bl' w' ∧ Ext (Dof D0 ρ bl) w w' ∧ (∀ b, b < w.heap.size → Dof D0 ρ' bl' b → Dof D0 ρ bl b) := by
  have hM : ∀ b, liveM ρ bl b → w0.mine b ∧ Dof D0 ρ bl b := fun b ⟨k, l, B, h1, h2, h3, h4⟩ => ⟨h.own h1 h2 (by omega) h4, .inr ⟨k, l, B, h1, h2, h3, h4⟩⟩
  refine ⟨⟨⟨h'.below.os.trans h.below.os, h'.below.tape.trans h.below.tape, h'.below.output.trans h.below.output, Nat.le_trans h.below.size h'.below.size, fun k hk hm => ?_⟩, h.d0, h'.len, fun k l B h1 h2 hb => ?_, h'.dist, h'.noU⟩, ⟨h'.below.size, fun b hb hn => h'.below.block b hb fun hm => hn (hM b hm).2⟩, fun b hb hd => ?_⟩
  · refine (h'.below.block k (Nat.lt_of_lt_of_le hk h.below.size) fun hm' => ?_).trans (h.below.block k hk hm)
    rcases (hM k hm').1 with e | e
    · omega
    · exact hm e
  · obtain ⟨g0, g1⟩ := h'.at_ k l B h1 h2 hb
    refine ⟨g0, ?_⟩
    rcases g1 with g1 | ⟨b, cap, cs, g2, g3, g4, g5, g6, g7, g8, g9⟩
    · exact .inl g1
    · refine .inr ⟨b, cap, cs, g2, ?_, g4, g5, g6, g7, g8, g9⟩
      rcases g3 with e | e
      · exact .inl (Nat.le_trans h.below.size e)
      · exact (hM b e).1
  · rcases hd with hd | ⟨k, l, B, h1, h2, h3, h4⟩
    · exact .inl hd
    · rcases h'.own h1 h2 (by omega) h4 with e | e
      · have e : w.heap.size ≤ b := e
        omega
      · exact (hM b e).2
theorem FnS.nil {P : Program} {r : Bool} {f : FuncId} {args : List V} {X Y : V} {bl' : List Blk} (h : FnS P r f [] args X bl') {σ : St} (hσ : Lax ⟨asg [(0, X)], bl'⟩ σ) (h1 : closT (closeT σ.bl (σ.tm 0)) = true) (hY : ∀ D w v, VRel D w [] (closeT σ.bl (σ.tm 0)) v → VRel D w [] Y v) : FnOK P r f args Y := by
  refine ⟨h.1, fun D w vs hD hU hargs => ?_⟩
  have hDof : ∀ b, Dof D [] [] b → D b := by
    rintro b (h | ⟨k, l, B, h1, _⟩)
    · exact h
    · simp at h1
  have hs0 : Sat D ⟨w, fun _ => False⟩ r [] [] w := ⟨⟨rfl, rfl, rfl, Nat.le_refl _, fun _ _ _ => rfl⟩, fun b hb => ⟨hD b hb, id⟩, rfl, fun k l B h1 _ => by simp at h1, fun i j li lj Bi Bj b h1 => by simp at h1, fun hr b o d hb => hU hr b o d (hDof b hb)⟩
  have hargs' : VRels (Dof D [] []) w [] args vs := VRels.step (fun b _ hb => hDof b hb) hargs
  refine (h.2 D _ [] w vs hs0 hargs').mono ?_
  rintro e w' ⟨v, ρ', rfl, hs, _, hv⟩
  have hrel : Rel ⟨D, ⟨w, fun _ => False⟩, r, 0, []⟩ ⟨asg [(0, X)], bl'⟩ ⟨#[v], []⟩ w' := by
    refine ⟨ρ', hs, ⟨Nat.zero_le _, fun i l hi => by simp at hi⟩, rfl, fun t => ?_⟩
    show VRel _ _ _ (if t = 0 then X else .c .any) _
    split
    · rename_i e; subst e; exact hv
    · trivial
  obtain ⟨ρ2, hs2, _, _, hf2⟩ := hσ _ _ _ hrel
  have h3 : VRel (Dof D ρ2 σ.bl) w' ρ2 (σ.tm 0) v := hf2 0
  have h4 := closT_rel (ρ' := []) (closeT_rel hs2 h3) h1
  exact ⟨v, rfl, hY D w' v (h4.step (Ext.refl _ _) (fun b _ hb => .inl hb) (LocsLe.refl _)), ⟨hs2.below.os, hs2.below.tape, hs2.below.output, hs2.below.size, fun k hk => hs2.below.block k hk id⟩⟩
/-- Function and captured cells of a called value. -/
def calleeX (σ : St) (g : Operand) : Option (FuncId × List Cell) := match calleeA σ g with
  | some f => some (f, [])
  | none => capsA σ g
theorem calleeX_eval {D : Nat → Prop} {w : World} {ρ : List Loc} {σ : St} {a : Act} {g : Operand} {f : FuncId} {cs : List Cell} (h : calleeX σ g = some (f, cs)) (hx : VRel D w ρ (σ.ev g) (a.eval g)) : ∃ caps : Array Value, a.eval g = .func (.func f) #[] caps ∧ CRels D w ρ cs caps.toList := by
  unfold calleeX at h
  split at h
  · rename_i f' hf
    cases h
    exact ⟨#[], callee_eval hf hx, trivial⟩
  · exact (caps_eval h hx).2
/-- A step of an operation, from one state to another. -/
def OpGo (E : Env) (o : Oper) (σ σ' : St) : Prop := ∀ {C : Ctx} {a : Act} {w : World} {next : Act → World → Prop} {Q : Exit → Act → World → Prop}, C.r = E.r → dstOK C.N o.dst → Rel C σ a w → (∀ a' w', Rel C σ' a' w' → next a' w') → o.wp E.P a w next Q
theorem OpGo.lax {E : Env} {o : Oper} {σ σ1 σ' : St} (h : Lax σ σ1) (k : OpGo E o σ1 σ') : OpGo E o σ σ' := fun hC hd hr hn => k hC hd (h _ _ _ hr) hn
theorem OpGo.aop {E : Env} (hE : EnvOK E) {o : Oper} {σ σ' : St} (h : aop E o σ fun s => s = σ') : OpGo E o σ σ' := fun hC hd hr hn => aop_sound hE hC h hd hr fun s a w hs hrel => hn a w (by rw [← hs]; exact hrel)
/-- A call that shares the caller's blocks. -/
theorem OpGo.call {E : Env} {o : Oper} {σ : St} {g : Operand} {args : Array Operand} {ts : Array TypeId} (hx : o.op = .call { callee := .value g, args, argTypes := ts }) {f : FuncId} {cs : List Cell} (hg : calleeX σ g = some (f, cs)) {X : V} {bl' : List Blk}
    (hS : FnS E.P E.r f (closeAll σ).bl ((args.toList.map fun x => closeT σ.bl (σ.ev x)) ++ cs.map fun c => V.c (St.closeC σ.bl c)) X bl') : OpGo E o σ (St.put ⟨(closeAll σ).tm, bl'⟩ o.dst X) := by
  intro C a w next Q hC hd hr hn
  obtain ⟨ρ0, hs0, hN, hdf, hf0⟩ := hr
  have hev : ∀ x, VRel (Dof C.D0 ρ0 σ.bl) w ρ0 (σ.ev x) (a.eval x) := fun x => ev_rel hf0 x
  obtain ⟨caps, hca, hcr⟩ := calleeX_eval hg (hev g)
  obtain ⟨s1, s2⟩ := closeAll_sat hs0
  have s3 := s1.rebase fun B hB => closeAll_st hB
  have hv1 : VRels (Dof C.D0 ρ0 σ.bl) w ρ0 ((args.toList.map fun x => closeT σ.bl (σ.ev x)) ++ cs.map fun c => V.c (St.closeC σ.bl c)) (args.toList.map a.eval ++ caps.toList) :=
    (VRels.map args.toList fun x _ => closeT_rel hs0 (hev x)).append (VRels.cells (closeCs_rel hs0 hcr))
  have hv2 := VRels.step (fun b _ hb => s2 b hb) hv1
  rw [← hC] at hS
  unfold Oper.wp
  rw [exec_callc hx hca hS.1, Oper.upon_enter]
  have := hS.2 _ _ _ _ _ s3 hv2
  rw [show (args.toList.map a.eval ++ caps.toList).toArray = args.map a.eval ++ caps by
    rw [← Array.toList_map, ← Array.toList_append, Array.toArray_toList]] at this
  refine this.mono ?_
  rintro e w' ⟨v, ρ', rfl, q1, q2, q3⟩
  obtain ⟨b1, b2, b3⟩ := s1.unbase q1
  refine hn _ _ ?_
  have hf1 : ∀ t, VRel (Dof C.D0 ρ' bl') w' ρ' ((closeAll σ).tm t) (a.tmps.getD t undef) := fun t =>
    ((closeT_rel hs0 (hf0 t)).step (Ext.refl _ _) (fun b _ hb => s2 b hb) (LocsLe.refl _)).step b2 b3 q2
  exact Rel.put (σ := ⟨(closeAll σ).tm, bl'⟩) b1 ⟨hN.1, hN.2.trans q2⟩ hdf hf1 hd q3
end Go.Proofs.YtmfaipklhkgieaaGreat
