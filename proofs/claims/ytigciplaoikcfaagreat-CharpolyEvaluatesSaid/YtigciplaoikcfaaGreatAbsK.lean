/- Operations that make blocks, where the order is open: a place is kept for each block. -/
import Derived.Test.YtigciplaoikcfaaGreatAbsH
namespace Go.Proofs.YtigciplaoikcfaaGreat
open Go.RowKit
def setO (bl : List Blk) : Option (Nat × Blk) → List Blk
  | none => bl
  | some (k, B) => bl.set k B
@[simp] theorem setO_length (bl : List Blk) (u : Option (Nat × Blk)) : (setO bl u).length = bl.length := by cases u <;> simp [setO]
/-- The place of a block is taken. -/
theorem Sat.revive {D0 : Nat → Prop} {w0 : Base} {w : World} {r : Bool} {ρ : List Loc} {bl : List Blk} (h : Sat D0 w0 r ρ bl w) {fr : Nat} {l0 : Loc} {Bd : Blk} (hl0 : ρ[fr]? = some l0) (hu0 : l0.u = 0) (hBd : bl[fr]? = some Bd) {cs : Array Value} {t sz n cap : Nat} {f : Nat → Nat → Cell} (hs : cs.size = cap * sz) (hn : n ≤ cap) (hc : cap ≤ maxLen)
    (hf : ∀ i j, i < n → j < sz → ∃ u, cs[i * sz + j]? = some u ∧ CRel (Dof D0 ρ bl) w ρ (f i j) u) (hU : r = true → ∀ (i : Nat) (d : Int), cs[i]? ≠ some (.int .u32 d)) :
    Sat D0 w0 r (ρ.set fr ⟨1, some w.heap.size, n, cap⟩) (bl.set fr ⟨t, sz, n, 1, 0, f⟩) (w.alloc (.cells cs t)) ∧
    (∀ b, b < w.heap.size → Dof D0 (ρ.set fr ⟨1, some w.heap.size, n, cap⟩) (bl.set fr ⟨t, sz, n, 1, 0, f⟩) b → Dof D0 ρ bl b) ∧ LocsLe ρ (ρ.set fr ⟨1, some w.heap.size, n, cap⟩) := by
  have hfl : fr < ρ.length := (List.getElem?_eq_some_iff.1 hl0).1
  have hfb : fr < bl.length := (List.getElem?_eq_some_iff.1 hBd).1
  have get : ∀ (k : Nat) (l : Loc) (B : Blk), (ρ.set fr ⟨1, some w.heap.size, n, cap⟩)[k]? = some l → (bl.set fr ⟨t, sz, n, 1, 0, f⟩)[k]? = some B → (k ≠ fr ∧ ρ[k]? = some l ∧ bl[k]? = some B) ∨ (k = fr ∧ l = ⟨1, some w.heap.size, n, cap⟩ ∧ B = ⟨t, sz, n, 1, 0, f⟩) := by
    intro k l B h1 h2
    by_cases e : k = fr
    · subst e
      rw [List.getElem?_set_self hfl] at h1
      rw [List.getElem?_set_self hfb] at h2
      cases h1; cases h2
      exact .inr ⟨rfl, rfl, rfl⟩
    · rw [List.getElem?_set_ne (fun h => e h.symm)] at h1 h2
      exact .inl ⟨e, h1, h2⟩
  have hle : LocsLe ρ (ρ.set fr ⟨1, some w.heap.size, n, cap⟩) := by
    intro k l hk
    by_cases e : k = fr
    · subst e
      rw [hl0] at hk; cases hk
      exact ⟨_, List.getElem?_set_self hfl, fun e => by simp at e; omega, by simp; omega⟩
    · exact ⟨l, by rw [List.getElem?_set_ne (fun h => e h.symm)]; exact hk, fun _ => rfl, Nat.le_refl _⟩
  have old : ∀ (k : Nat) (l : Loc) (B : Blk) (b : Nat), ρ[k]? = some l → bl[k]? = some B → B.st ≤ 1 → l.b = some b → b < w.heap.size := by
    intro k l B b e1 e2 e3 e4
    rcases (h.at_ k l B e1 e2 e3).2 with ⟨_, h5, _⟩ | ⟨b', cap', cs', h5, _, _, h6, _⟩
    · rw [h5] at e4; cases e4
    · rw [h5] at e4; cases e4; exact heap_lt h6
  have hD : ∀ b, b < w.heap.size → Dof D0 (ρ.set fr ⟨1, some w.heap.size, n, cap⟩) (bl.set fr ⟨t, sz, n, 1, 0, f⟩) b → Dof D0 ρ bl b := by
    intro b hb hx
    rcases hx with hx | ⟨k, l, B, h1, h2, h3, h4⟩
    · exact .inl hx
    · rcases get k l B h1 h2 with ⟨_, g1, g2⟩ | ⟨_, rfl, rfl⟩
      · exact .inr ⟨k, l, B, g1, g2, h3, h4⟩
      · simp at h4; omega
  have hE : Ext (Dof D0 ρ bl) w (w.alloc (.cells cs t)) := ⟨by simp, fun b hb _ => Below.heap_alloc w _ b hb⟩
  refine ⟨⟨h.below.alloc _, h.d0, by simp [h.len], ?_, ?_, ?_⟩, hD, hle⟩
  · intro k l B h1 h2
    rcases get k l B h1 h2 with ⟨_, g1, g2⟩ | ⟨_, rfl, rfl⟩
    · intro hst
      exact (h.at_ k l B g1 g2).step hE hD hle (fun b e => Below.heap_alloc w _ b (old k l B b g1 g2 hst e)) hst
    · intro _
      refine ⟨rfl, .inr ⟨_, cap, cs, rfl, .inl h.below.size, rfl, heap_alloc_new w _, hs, hn, hc, fun i j hi hj => ?_⟩⟩
      obtain ⟨u, hu, hr⟩ := hf i j hi hj
      exact ⟨u, hu, by simp only [if_true]; exact hr.step hE hD hle⟩
  · intro i j li lj Bi Bj b h1 h2 h3 h4 h5 h6 h7 h8
    rcases get i li Bi h1 h3 with ⟨_, g1, g2⟩ | ⟨e1, rfl, rfl⟩ <;> rcases get j lj Bj h2 h4 with ⟨_, g3, g4⟩ | ⟨e2, rfl, rfl⟩
    · exact h.dist i j li lj Bi Bj b g1 g3 g2 g4 h5 h6 h7 h8
    · have := old i li Bi b g1 g2 h5 h7; simp at h8; omega
    · have := old j lj Bj b g3 g4 h6 h8; simp at h7; omega
    · rw [e1, e2]
  · intro hr b o d hb
    rcases Nat.lt_or_ge b w.heap.size with hlt | hge
    · have := h.noU hr b o d (hD b hlt hb)
      simp only [World.cell?] at this ⊢
      rw [Below.heap_alloc w _ b hlt]
      exact this
    · by_cases e : b = w.heap.size
      · subst e
        simp only [World.cell?, heap_alloc_new w _]
        simp only [Option.isSome_none, Bool.false_eq_true, if_false]
        exact hU hr o d
      · simp only [World.cell?, Array.getElem?_eq_none (show (w.alloc (.cells cs t)).heap.size ≤ b by simp; omega)]
        simp
/-- Fewer blocks are remembered. -/
theorem Sat.forget {D0 : Nat → Prop} {w0 : Base} {w : World} {r : Bool} {ρ : List Loc} {bl bl' : List Blk} (h : Sat D0 w0 r ρ bl w) (hlen : bl'.length = bl.length) (hbl : ∀ (k : Nat) (B : Blk), bl'[k]? = some B → B.st ≤ 1 → bl[k]? = some B) :
    Sat D0 w0 r ρ bl' w ∧ (∀ b, Dof D0 ρ bl' b → Dof D0 ρ bl b) := by
  have hD : ∀ b, Dof D0 ρ bl' b → Dof D0 ρ bl b := by
    rintro b (hx | ⟨k, l, B, h1, h2, h3, h4⟩)
    · exact .inl hx
    · exact .inr ⟨k, l, B, h1, hbl k B h2 (by omega), h3, h4⟩
  refine ⟨⟨h.below, h.d0, by rw [hlen]; exact h.len, fun k l B h1 h2 hst => ?_, fun i j li lj Bi Bj b h1 h2 h3 h4 h5 h6 h7 h8 => h.dist i j li lj Bi Bj b h1 h2 (hbl i Bi h3 h5) (hbl j Bj h4 h6) h5 h6 h7 h8, fun hr b o d hb => h.noU hr b o d (hD b hb)⟩, hD⟩
  exact (h.at_ k l B h1 (hbl k B h2 hst)).step (Ext.refl _ _) (fun b _ hb => hD b hb) (LocsLe.refl _) (fun _ _ => rfl) hst
def isFresh : Op → Bool
  | .box .. | .alloc .. | .makeSlice .. | .buildSlice .. => true
  | .call { callee := .builtin .append, .. } => true
  | .call { callee := .value (.func f), .. } => frS f
  | _ => false
def isWr : Op → Bool
  | .store .. => true
  | .call { callee := .value (.func f), .. } => wrF f
  | .call { callee := .builtin .append, .. } => true
  | _ => false
/-- Closed, but for the one block. -/
def Cell.clos1 (k : Nat) : Cell → Bool
  | .p .. | .sl .. => false
  | .gs i _ => i == k
  | .cl F m f => (Cell.cl F m f).clos
  | _ => true
def clos1 (k : Nat) : V → Bool
  | .c x => x.clos1 k
  | .g l => l.all Cell.clos
  | _ => false
/-- An append in a region whose order is open. -/
def appS (E : Env) (σ : St) (fr : Nat) (args : List Operand) (ts : List TypeId) (K : V → Option (Nat × Blk) → Prop) : Prop := match args, ts with
  | [x, y], [T, T'] => match E.ty T with
    | some ti => match ti.elem with
      | some e => match E.ty e with
        | some te => chk (T == T' && (te.zero.length == te.size && ((1 : Nat).ble te.size && ((!E.r || te.zero.all Cell.noU) && te.bytes.ble 8388608)))) (match σ.ev x with
          | .c (.gs k u) => match σ.bl[k]?, srcA σ.bl te.size k (σ.ev y) with
            | some B, some (m, fy) => chk (B.u == u && (B.st == 0 && (B.sz == te.size && B.t == e))) (B.n + m ≤ 16777216 ∧ (∀ i j, i < m → j < te.size → St.one [] (fy i j) = true ∧ (E.r = true → (fy i j).noU = true)) ∧ K (.c (.gs k (u + 1))) (some (k, ⟨B.t, B.sz, B.n + m, B.u + 1, 0, appF B.n B.f fy⟩)))
            | _, _ => False
          | .c .nil => match srcA σ.bl te.size fr (σ.ev y) with
            | some (m, fy) => m ≤ 16777216 ∧ (∀ i j, i < m → j < te.size → St.one [] (fy i j) = true ∧ (E.r = true → (fy i j).noU = true)) ∧ K (.c (.gs fr 1)) (some (fr, ⟨e, te.size, 0 + m, 1, 0, appF 0 (fun _ _ => .any) fy⟩))
            | none => False
          | _ => False)
        | none => False
      | none => False
    | none => False
  | _, _ => False
/-- One operation of a region whose order is open: what it yields, and which block it makes or writes. -/
def sop (E : Env) (o : Oper) (σ : St) (fr : Nat) (K : V → Option (Nat × Blk) → Prop) : Prop :=
  match o.op with
  | .box T x => match cellsV σ.bl E.r (σ.ev x) with
    | some l => K (.c (.p fr 1 l.length 0 0)) (some (fr, ⟨T, l.length, 1, 1, 0, boxF l⟩))
    | none => False
  | .alloc T => match E.ty T with
    | some ti => match cellsV σ.bl E.r (.g ti.zero) with
      | some l => K (.c (.p fr 1 l.length 0 0)) (some (fr, ⟨T, l.length, 1, 1, 0, boxF l⟩))
      | none => False
    | none => False
  | .store T x y => match E.ty T, σ.ev x, cellsV σ.bl E.r (σ.ev y) with
    | some ti, .c (.p k u sz i o'), some l => match σ.bl[k]? with
      | some B => chk (B.u == u && (B.sz == sz && (B.st == 0 && (l.length == ti.size && (o' + l.length).ble sz)))) (K (.c .any) (some (k, { B with f := updF B.f i o' l })))
      | none => False
    | _, _, _ => False
  | .makeSlice T ln cp => match E.ty T with
    | some ti => match ti.elem with
      | some e => match E.ty e, σ.ev ln, σ.ev cp with
        | some te, .c (.int _ n), .c (.int _ c) => 0 ≤ n ∧ n ≤ c ∧ c ≤ 281474976710656 ∧ (te.bytes : Int) * c ≤ 281474976710656 ∧ chk (te.zero.length == te.size) (match cellsV σ.bl E.r (.g te.zero) with
          | some l => K (.c (.gs fr 1)) (some (fr, ⟨e, te.size, n.toNat, 1, 0, zeroF l⟩))
          | none => False)
        | _, _, _ => False
      | none => False
    | none => False
  | .buildSlice T len parts => match E.ty T with
    | some ti => match ti.elem with
      | some e => match E.ty e with
        | some te => chk (len.ble 16777216 && (len * te.size).ble 16777216) (match fillA σ.bl ((List.range len).map fun i => some (i * te.size, te.size)) (List.replicate (len * te.size) .any) (parts.toList.map fun q => (q.1, σ.ev q.2)) with
          | some l => match cellsV σ.bl E.r (.g l) with
            | some l => K (.c (.gs fr 1)) (some (fr, ⟨e, te.size, len, 1, 0, rowF te.size l⟩)) ∨ (l.all Cell.clos = true ∧ K (.c (.row te.size len (rowF te.size l))) none)
            | none => False
          | none => False)
        | none => False
      | none => False
    | none => False
  | .call { callee := .value (.func f), args, .. } => match wrF f with
    | true => ∃ (k : Nat) (B : Blk) (as : List V) (X : V) (B' : Blk), FnM E.P E.r f B as X B' [] ∧ σ.bl[k]? = some B ∧ B.st = 0 ∧ B.plain ∧ B'.plain ∧ B'.st = 0 ∧ B'.u = B.u ∧ as.all V.fst = true ∧ (∃ x ∈ args.toList, σ.ev x = .c (.gs k B.u)) ∧
      (args.toList.map fun x => St.close σ.bl (σ.ev x)) = as.map (renV k σ.bl.length) ∧ (args.toList.all fun x => clos1 k (St.close σ.bl (σ.ev x))) = true ∧ K (renV k σ.bl.length X) (some (k, B'))
    | false => match frS f with
      | true => ∃ X F, FnS E.P E.r f [] (args.toList.map fun x => St.close σ.bl (σ.ev x)) X [F] ∧ F.st = 0 ∧ F.plain ∧ ((args.toList.map fun x => St.close σ.bl (σ.ev x)).all V.clos) = true ∧ F.u = 0 ∧ K (renGV fr X) (some (fr, { F with u := 1 }))
      | false => dop E o σ fun v => K v none
  | .call { callee := .builtin .append, args, argTypes } => appS E σ fr args.toList argTypes.toList K
  | _ => dop E o σ fun v => K v none
/-- What such a step comes to, in whatever state reads so. -/
def Steps2 (P : Program) (D0 : Nat → Prop) (w0 : Base) (r : Bool) (o : Oper) (σ : St) (fr : Nat) (X : V) (ub : Option (Nat × Blk)) : Prop :=
  ∀ (ρ : List Loc) (bl : List Blk) (a : Act) (w : World), Sat D0 w0 r ρ bl w → Agree o σ bl → (isFresh o.op = true → ∃ l B, ρ[fr]? = some l ∧ l.u = 0 ∧ bl[fr]? = some B ∧ B.st = 2 ∧ l = phL) → (∀ x ∈ o.op.operands, VRel (Dof D0 ρ bl) w ρ (σ.ev x) (a.eval x)) → ∀ (next : Act → World → Prop) (Q : Exit → Act → World → Prop),
    (∀ v w' ρ', Sat D0 w0 r ρ' (setO bl ub) w' → Ext (Dof D0 ρ bl) w w' → (∀ b, b < w.heap.size → Dof D0 ρ' (setO bl ub) b → Dof D0 ρ bl b) → LocsLe ρ ρ' → (∀ k, (∀ B, ub ≠ some (k, B)) → ρ'[k]? = ρ[k]?) → VRel (Dof D0 ρ' (setO bl ub)) w' ρ' X v → next (a.put o.dst v) w') → o.wp P a w next Q
theorem cellsV_congr {bl bl' : List Blk} {r : Bool} {x : V} {l : List Cell} (h : AgreeV bl bl' x) (h1 : cellsV bl r x = some l) : cellsV bl' r x = some l := by
  cases x with
  | c y =>
    simp only [cellsV] at h1 ⊢
    split at h1
    · rename_i hc
      have hc' := hc
      simp only [Bool.and_eq_true] at hc'
      rw [if_pos (by simp only [Bool.and_eq_true]; exact ⟨one_congr h hc'.1, hc'.2⟩)]
      exact h1
    · cases h1
  | g l' =>
    simp only [cellsV] at h1 ⊢
    split at h1
    · rename_i hc
      have hc' := hc
      simp only [Bool.and_eq_true] at hc'
      rw [if_pos (by
        simp only [Bool.and_eq_true]
        refine ⟨List.all_eq_true.2 fun c hcm => one_congr (fun k u hm => h k u ⟨c, hcm, hm⟩) (List.all_eq_true.1 hc'.1 c hcm), hc'.2⟩)]
      exact h1
    · cases h1
  | t2 a b => exact h1
  | t3 a b d => exact h1
  | t4 a b d e => exact h1
theorem cellOf_ment (v : Value) (k u : Nat) : ¬ (cellOf v).ment k u := by
  unfold cellOf
  split <;> exact id
theorem zero_agree {bl bl' : List Blk} {zv : Value} {l : List Cell} (h : l = zv.cells.toList.map cellOf) : AgreeV bl bl' (.g l) := by
  rintro k u ⟨c, hc, hm⟩
  rw [h] at hc
  obtain ⟨v, _, rfl⟩ := List.mem_map.1 hc
  exact absurd hm (cellOf_ment v k u)
theorem fillA_ment {bl : List Blk} {offs : List (Option (Nat × Nat))} : ∀ (parts : List (Nat × V)) (cs l : List Cell), fillA bl offs cs parts = some l → ∀ c ∈ l, ∀ k u, c.ment k u → (∃ c' ∈ cs, c'.ment k u) ∨ ∃ q ∈ parts, q.2.ment k u
  | [], cs, l, h, c, hc, k, u, hm => by simp [fillA] at h; subst h; exact .inl ⟨c, hc, hm⟩
  | (i, x) :: parts, cs, l, h, c, hc, k, u, hm => by
    have step : ∀ (l0 : List Cell) (off n : Nat), fillA bl offs (cs.take off ++ l0 ++ cs.drop n) parts = some l → (∀ c' ∈ l0, c'.ment k u → x.ment k u) → (∃ c' ∈ cs, c'.ment k u) ∨ ∃ q ∈ (i, x) :: parts, q.2.ment k u := by
      intro l0 off n hf hx
      rcases fillA_ment parts _ l hf c hc k u hm with ⟨c', h1, h2⟩ | ⟨q, h1, h2⟩
      · rcases List.mem_append.1 h1 with h1 | h1
        · rcases List.mem_append.1 h1 with h1 | h1
          · exact .inl ⟨c', List.mem_of_mem_take h1, h2⟩
          · exact .inr ⟨(i, x), by simp, hx c' h1 h2⟩
        · exact .inl ⟨c', List.mem_of_mem_drop h1, h2⟩
      · exact .inr ⟨q, by simp [h1], h2⟩
    simp only [fillA] at h
    split at h
    · split at h
      · split at h
        · exact step _ _ _ h (fun c' hc' hm' => by simp at hc'; subst hc'; exact hm')
        · cases h
      · split at h
        · exact step _ _ _ h (fun c' hc' hm' => ⟨c', hc', hm'⟩)
        · cases h
      · cases h
    · cases h
/-- What is written lies where it should. -/
def SubOK (o : Oper) (σ : St) (fr : Nat) (ub : Option (Nat × Blk)) : Prop :=
  ub = none ∨ (isFresh o.op = true ∧ ∃ B, ub = some (fr, B) ∧ B.u = 1) ∨ (isWr o.op = true ∧ ∃ k B u x, ub = some (k, B) ∧ x ∈ o.op.operands ∧ (σ.ev x).ment k u ∧ ∃ B0, σ.bl[k]? = some B0 ∧ B0.st = 0 ∧ B0.u = u ∧ B0.u ≤ B.u ∧ B.st = 0)
theorem box_fin {D0 : Nat → Prop} {w0 : Base} {w : World} {r : Bool} {ρ : List Loc} {bl : List Blk} (hs : Sat D0 w0 r ρ bl w) {fr : Nat} {l0 : Loc} {Bd : Blk} (q1 : ρ[fr]? = some l0) (q2 : l0.u = 0) (q3 : bl[fr]? = some Bd) {T : TypeId} {l : List Cell} {v : Value} {dst : Option Nat} {a : Act}
    (hc : CRels (Dof D0 ρ bl) w ρ l v.cells.toList ∧ (∀ u ∈ v.cells.toList, u.oneCell' = true) ∧ (r = true → ∀ (i : Nat) (d : Int), v.cells[i]? ≠ some (.int .u32 d))) (next : Act → World → Prop)
    (hn : ∀ x w' ρ', Sat D0 w0 r ρ' (setO bl (some (fr, ⟨T, l.length, 1, 1, 0, boxF l⟩))) w' → Ext (Dof D0 ρ bl) w w' → (∀ b, b < w.heap.size → Dof D0 ρ' (setO bl (some (fr, ⟨T, l.length, 1, 1, 0, boxF l⟩))) b → Dof D0 ρ bl b) → LocsLe ρ ρ' → (∀ k, (∀ B, some (fr, (⟨T, l.length, 1, 1, 0, boxF l⟩ : Blk)) ≠ some (k, B)) → ρ'[k]? = ρ[k]?) → VRel (Dof D0 ρ' (setO bl (some (fr, ⟨T, l.length, 1, 1, 0, boxF l⟩)))) w' ρ' (.c (.p fr 1 l.length 0 0)) x → next (a.put dst x) w') :
    next (a.put dst (.pointer (some ⟨w.heap.size, 0, none⟩))) (w.alloc (.cells v.cells T)) := by
  have hsz : v.cells.size = l.length := by have := hc.1.length; simpa using this.symm
  have hrev := hs.revive q1 q2 q3 (t := T) (sz := l.length) (n := 1) (cap := 1) (f := boxF l) (by rw [hsz]; omega) (Nat.le_refl _) (by unfold maxLen; omega) (fun i j hi hj => by
    obtain rfl : i = 0 := by omega
    obtain ⟨u, hu, hur⟩ := hc.1.get j _ (getD_of (d := Cell.any) hj)
    exact ⟨u, by rw [Nat.zero_mul, Nat.zero_add]; simpa using hu, hur⟩) hc.2.2
  exact hn _ _ _ hrev.1 ⟨by simp, fun b hb _ => Below.heap_alloc w _ b hb⟩ hrev.2.1 hrev.2.2 (fun k hk => List.getElem?_set_ne (fun e => hk _ (by rw [e]))) ⟨_, List.getElem?_set_self (List.getElem?_eq_some_iff.1 q1).1, Nat.le_refl _, fun _ => ⟨by show 0 < 1; omega, w.heap.size, rfl, by simp⟩⟩
theorem srcA_congr {bl bl' : List Blk} {sz k : Nat} {y : V} (h : AgreeV bl bl' y) {p : Nat × (Nat → Nat → Cell)} (hs : srcA bl sz k y = some p) : srcA bl' sz k y = some p := by
  unfold srcA at hs ⊢
  split at hs
  · exact hs
  · exact hs
  · rename_i k' u'
    split at hs
    · rename_i B hB
      split at hs
      · rename_i hc
        have hc' := hc
        simp only [Bool.and_eq_true, beq_iff_eq, Nat.ble_eq] at hc'
        rw [h k' u' ⟨rfl, rfl⟩ B hB hc'.2.1 hc'.1]
        simp only [hc, if_true]
        exact hs
      · cases hs
    · cases hs
  · cases hs
set_option maxHeartbeats 1000000 in
theorem sop_sound {E : Env} (hE : EnvOK E) {o : Oper} {σ : St} {fr : Nat} {K : V → Option (Nat × Blk) → Prop} (h : sop E o σ fr K) : ∃ X ub, K X ub ∧ SubOK o σ fr ub ∧ ∀ D0 w0, Steps2 E.P D0 w0 E.r o σ fr X ub := by
  unfold sop at h
  split at h
  case h_1 T x hx =>
    split at h
    · rename_i l hl
      refine ⟨_, _, h, .inr (.inl ⟨by rw [hx]; rfl, _, rfl, rfl⟩), ?_⟩
      intro D0 w0 ρ bl a w hs hag hfr hr next Q hn
      obtain ⟨l0, Bd, q1, q2, q3, q4⟩ := hfr (by rw [hx]; rfl)
      have hlb : cellsV bl E.r (σ.ev x) = some l := cellsV_congr (hag (by rw [hx]; rfl) x (by rw [hx]; simp [Op.operands])) hl
      have hc := cellsV_rel hs hlb (hr x (by rw [hx]; simp [Op.operands]))
      have hex : (execOp a.eval o).run E.P w = .ok (.value (.pointer (some ⟨w.heap.size, 0, none⟩))) (w.alloc (.cells (a.eval x).cells T)) := by
        simp [execOp, hx, Instr.box, newVar, newRow, newObj]; rfl
      unfold Oper.wp
      rw [hex]
      exact box_fin hs q1 q2 q3 hc next hn
    · exact h.elim
  case h_2 T hx =>
    split at h
    · rename_i ti ht
      have ht := hE.ty _ _ ht
      split at h
      · rename_i l hl
        refine ⟨_, _, h, .inr (.inl ⟨by rw [hx]; rfl, _, rfl, rfl⟩), ?_⟩
        intro D0 w0 ρ bl a w hs hag hfr hr next Q hn
        obtain ⟨l0, Bd, q1, q2, q3, q4⟩ := hfr (by rw [hx]; rfl)
        obtain ⟨zv, hz, hzc⟩ := run_zero ht w
        have hlb : cellsV bl E.r (.g ti.zero) = some l := cellsV_congr (zero_agree hzc) hl
        have hc := cellsV_rel hs hlb (D := Dof D0 ρ bl) (v := .agg zv.cells) ⟨zv.cells, rfl, zero_rel hzc⟩
        have hex : (execOp a.eval o).run E.P w = .ok (.value (.pointer (some ⟨w.heap.size, 0, none⟩))) (w.alloc (.cells zv.cells T)) := by
          simp [execOp, hx, Instr.alloc, hz, newVar, newRow, newObj]; rfl
        unfold Oper.wp
        rw [hex]
        exact box_fin hs q1 q2 q3 hc next hn
      · exact h.elim
    · exact h.elim
  case h_3 T x y hx =>
    split at h
    · rename_i ti k u sz i o' l ht hv hl
      split at h
      · rename_i B hB
        have ht := hE.ty _ _ ht
        obtain ⟨g0, g7⟩ := chk_iff.1 h
        simp only [Bool.and_eq_true, beq_iff_eq, Nat.ble_eq] at g0
        obtain ⟨g1, g2, g3, g5, g6⟩ := g0
        refine ⟨_, _, g7, .inr (.inr ⟨by rw [hx]; rfl, k, _, u, x, rfl, by rw [hx]; simp [Op.operands], by rw [hv]; exact ⟨rfl, rfl⟩, B, hB, g3, g1, Nat.le_refl _, g3⟩), ?_⟩
        intro D0 w0 ρ bl a w hs hag _ hr next Q hn
        have hB := hag (by rw [hx]; rfl) x (by rw [hx]; simp [Op.operands]) k u (by rw [hv]; exact ⟨rfl, rfl⟩) B hB (by omega) g1
        have e1 := hr x (by rw [hx]; simp [Op.operands])
        rw [hv] at e1
        have hlb : cellsV bl E.r (σ.ev y) = some l := cellsV_congr (hag (by rw [hx]; rfl) y (by rw [hx]; simp [Op.operands])) hl
        obtain ⟨lc, hlc, hu, hp⟩ := e1
        obtain ⟨q0, q1⟩ := hs.at_ k lc B hlc hB (by omega)
        have hln := loc_n hs hlc hB (by omega)
        obtain ⟨g4, hp2⟩ := hp (by omega)
        rw [hln] at g4
        rcases q1 with ⟨q1, _, _⟩ | ⟨b, cap, cs, q1, q2, q3, q4, q5, q6, q7, q8⟩
        · omega
        obtain ⟨b', e2, e3⟩ := hp2
        rw [q1] at e2; cases e2
        obtain ⟨c1, c2, c3⟩ := cellsV_rel hs hlb (hr y (by rw [hx]; simp [Op.operands]))
        have hlen := c1.length
        simp only [Array.length_toList] at hlen
        have hfit : i * sz + o' + 0 + (a.eval y).cells.toList.length ≤ cs.size := by
          simp only [Array.length_toList, Nat.add_zero]
          rw [q5, g2]
          have : (i + 1) * sz ≤ cap * sz := Nat.mul_le_mul_right _ (by omega)
          rw [Nat.succ_mul] at this
          omega
        have hst := run_storeCells_at (P := E.P) b (i * sz + o') B.t (a.eval y).cells.toList 0 cs w q4 hfit c2
        obtain ⟨cs', hcs'⟩ : ∃ cs', cs' = (cs.toList.take (i * sz + o' + 0) ++ (a.eval y).cells.toList ++ cs.toList.drop (i * sz + o' + 0 + (a.eval y).cells.toList.length)).toArray := ⟨_, rfl⟩
        rw [← hcs'] at hst
        have hcl : cs'.size = cs.size := by
          rw [hcs']; simp at hfit ⊢; omega
        have hget : ∀ m : Nat, cs'[m]? = if i * sz + o' ≤ m ∧ m < i * sz + o' + l.length then (a.eval y).cells[m - (i * sz + o')]? else cs[m]? := by
          intro m
          rw [hcs']
          simp only [Nat.add_zero, List.getElem?_toArray, List.append_assoc]
          have ht : (cs.toList.take (i * sz + o')).length = i * sz + o' := by simp at hfit ⊢; omega
          rcases Nat.lt_or_ge m (i * sz + o') with hm | hm
          · rw [List.getElem?_append_left (by omega), if_neg (by omega), List.getElem?_take_of_lt hm]; simp
          · rw [List.getElem?_append_right (by omega), ht]
            rcases Nat.lt_or_ge (m - (i * sz + o')) l.length with hm2 | hm2
            · rw [List.getElem?_append_left (by simp; omega), if_pos (by omega)]; simp
            · rw [List.getElem?_append_right (by simp; omega), if_neg (by omega), List.getElem?_drop]
              simp
              congr 1
              omega
        have hupd := hs.update (f' := updF B.f i o' l) (w' := w.setRow b cs') hlc hB g3 q1 q4 (setRow_heap w b cs cs' B.t _ q4) hcl (fun x hx => setRow_other w b x cs' hx) (by simp) rfl rfl rfl (fun i' j hi' hj => ?_) (fun hr m d => ?_)
        · obtain ⟨s1, s2, s3⟩ := hupd
          have hex : (execOp a.eval o).run E.P w = .ok .skip (w.setRow b cs') := by
            have h1 : (storeVar T ⟨b, i * sz + o', none⟩ (a.eval y)).run E.P w = .ok () (w.setRow b cs') := by
              simp [storeVar, run_size ht, ← g5, hlen, hst, Result.andThen]
            simp [execOp, hx, e3, Instr.storeAt, Instr.sureAddr, h1]
          unfold Oper.wp
          rw [hex, Oper.upon_skip]
          exact hn undef _ ρ s1 s3 (fun x _ hx => (s2 x).1 hx) (LocsLe.refl _) (fun _ _ => rfl) trivial
        · rw [hget]
          unfold updF
          by_cases hc : i' = i ∧ o' ≤ j ∧ j < o' + l.length
          · rw [if_pos hc, if_pos (by rw [hc.1, g2]; omega)]
            obtain ⟨v, hv, hvr⟩ := c1.get (j - o') _ (getD_of (d := Cell.any) (by omega))
            exact ⟨v, by rw [hc.1, g2, show i * sz + j - (i * sz + o') = j - o' by omega]; simpa using hv, hvr⟩
          · rw [if_neg hc, if_neg]
            · obtain ⟨v, hv, hvr⟩ := q8 i' j hi' hj
              rw [if_pos g3] at hvr
              exact ⟨v, hv, hvr⟩
            · rw [g2] at hj ⊢
              intro hh
              rcases Nat.lt_trichotomy i' i with hlt | heq | hgt
              · have : (i' + 1) * sz ≤ i * sz := Nat.mul_le_mul_right _ hlt
                rw [Nat.succ_mul] at this
                omega
              · subst heq; omega
              · have : (i + 1) * sz ≤ i' * sz := Nat.mul_le_mul_right _ hgt
                rw [Nat.succ_mul] at this
                omega
        · rw [hget]
          split
          · exact c3 hr _ d
          · intro e
            have := hs.noU hr b m d (.inr ⟨k, lc, B, hlc, hB, g3, q1⟩)
            simp only [World.cell?, q4, Option.isSome_none, Bool.false_eq_true, if_false] at this
            exact this e
      · exact h.elim
    · exact h.elim
  case h_4 T ln cp hx =>
    split at h
    · rename_i ti ht
      split at h
      · rename_i e he
        split at h
        · rename_i te k1 n k2 c hte hn1 hc1
          have ht := hE.ty _ _ ht
          have hte := hE.ty _ _ hte
          obtain ⟨h0, h1, h2, h3, h⟩ := h
          obtain ⟨h4, h⟩ := chk_iff.1 h
          have h4 : te.zero.length = te.size := by simpa using h4
          split at h
          · rename_i l hl
            obtain ⟨d, i, zv, hd', hi, hz, hti⟩ := tyOf_spec hte
            have hzc : te.zero = zv.cells.toList.map cellOf := by rw [hti]; rfl
            have hss : te.size = i.size := by rw [hti]; rfl
            refine ⟨_, _, h, .inr (.inl ⟨by rw [hx]; rfl, _, rfl, rfl⟩), ?_⟩
            intro D0 w0 ρ bl a w hs hag hfr hr next Q hnx
            obtain ⟨l0, Bd, q1, q2, q3, q4⟩ := hfr (by rw [hx]; rfl)
            have hev : a.eval ln = .int k1 n ∧ a.eval cp = .int k2 c := by
              have e1 := hr ln (by rw [hx]; simp [Op.operands])
              have e2 := hr cp (by rw [hx]; simp [Op.operands])
              rw [hn1] at e1
              rw [hc1] at e2
              exact ⟨e1, e2⟩
            have hzs : zv.cells.size = te.size := by rw [← h4, hzc]; simp
            obtain ⟨cs, hcs⟩ : ∃ cs : Array Value, cs = (Array.range (c.toNat * te.size)).map fun q => zv.cells[q % zv.cells.size]! := ⟨_, rfl⟩
            have hcz : cs.size = c.toNat * te.size := by rw [hcs]; simp
            have hcg : ∀ q, q < c.toNat * te.size → cs[q]? = some (zv.cells[q % te.size]!) := by
              intro q hq
              rw [hcs, ← hzs]
              rw [← hzs] at hq
              simp [hq]
            have hbt : te.bytes = i.bytes := by rw [hti]; rfl
            have hrun : (Instr.makeSlice T (.int k1 n) (.int k2 c)).run E.P w = .ok (.slice (some ⟨w.heap.size, 0, none⟩) n.toNat c.toNat) (w.alloc (.cells cs e)) := by
              have := run_make (P := E.P) w T e i zv (under_elem ht he) hi hz k1 k2 n c h0 h1 (by rw [← hbt]; exact h3) (by omega)
              rw [this, hcs, hss]
              rfl
            have hex : (execOp a.eval o).run E.P w = .ok (.value (.slice (some ⟨w.heap.size, 0, none⟩) n.toNat c.toNat)) (w.alloc (.cells cs e)) := by
              have : execOp a.eval o = (do let z ← Instr.makeSlice T (a.eval ln) (a.eval cp); pure (.value z)) := by unfold execOp; rw [hx]
              rw [this, hev.1, hev.2, Sem.run_bind, hrun]
              rfl
            unfold Oper.wp
            rw [hex]
            have hzr : ∀ D ρ, CRels D w ρ te.zero zv.cells.toList := fun D ρ => zero_rel hzc
            have hll : l = te.zero := by
              simp only [cellsV] at hl
              split at hl
              · cases hl; rfl
              · cases hl
            have hmod : ∀ {i j : Nat}, j < te.size → (i * te.size + j) % te.size = j := by
              intro i j hj
              rw [Nat.add_comm, Nat.add_mul_mod_self_right, Nat.mod_eq_of_lt hj]
            have hrev := hs.revive q1 q2 q3 (t := e) (n := n.toNat) (f := zeroF l) hcz (by omega) (by unfold maxLen; omega) (fun i j hi hj => ?_) (fun hr' q d e => ?_)
            · exact hnx _ _ _ hrev.1 ⟨by simp, fun b hb _ => Below.heap_alloc w _ b hb⟩ hrev.2.1 hrev.2.2 (fun k hk => List.getElem?_set_ne (fun e => hk _ (by rw [e]))) ⟨_, List.getElem?_set_self (List.getElem?_eq_some_iff.1 q1).1, Nat.le_refl _, fun _ => by simp [Loc.v]⟩
            · obtain ⟨u, hu, hur⟩ := (hzr (Dof D0 ρ bl) ρ).get j _ (getD_of (d := Cell.any) (by omega))
              refine ⟨u, ?_, by simp only [zeroF, hll]; exact hur⟩
              rw [hcg _ (idx_lt hi hj (by omega)), hmod hj]
              have hj2 : j < zv.cells.size := by omega
              simp at hu
              simp [hj2] at hu ⊢
              exact hu
            · have hlb : cellsV bl E.r (.g te.zero) = some l := cellsV_congr (zero_agree hzc) hl
              have hx3 := (cellsV_rel hs hlb (D := Dof D0 ρ bl) (x := .g te.zero) (v := .agg zv.cells) ⟨zv.cells, rfl, hzr _ _⟩).2.2 hr'
              have hq : q < c.toNat * te.size := by
                have := (Array.getElem?_eq_some_iff.1 e).1
                omega
              rw [hcg q hq] at e
              have hts : 0 < te.size := by
                rcases Nat.eq_zero_or_pos te.size with h0 | h0
                · rw [h0] at hq; omega
                · exact h0
              have hlt := Nat.mod_lt q hts
              have := hx3 (q % te.size) d
              rw [show (Value.agg zv.cells).cells = zv.cells from rfl] at this
              apply this
              simp [show q % te.size < zv.cells.size by omega] at e ⊢
              exact e
          · exact h.elim
        · exact h.elim
      · exact h.elim
    · exact h.elim
  case h_5 T len parts hx =>
    split at h
    · rename_i ti ht
      split at h
      · rename_i e he
        split at h
        · rename_i te hte
          have ht := hE.ty _ _ ht
          have hte := hE.ty _ _ hte
          obtain ⟨h0, h⟩ := chk_iff.1 h
          simp only [Bool.and_eq_true, Nat.ble_eq] at h0
          obtain ⟨hl1, h1⟩ := h0
          split at h
          · rename_i l0 hl0
            split at h
            · rename_i l hl
              have hll : l = l0 := by
                simp only [cellsV] at hl
                split at hl
                · cases hl; rfl
                · cases hl
              subst hll
              have core : ∀ (D0 : Nat → Prop) (w0 : Base) (ρ : List Loc) (bl : List Blk) (a : Act) (w : World), Sat D0 w0 E.r ρ bl w → Agree o σ bl → (∀ x ∈ o.op.operands, VRel (Dof D0 ρ bl) w ρ (σ.ev x) (a.eval x)) → ∃ cells' : Array Value, CRels (Dof D0 ρ bl) w ρ l cells'.toList ∧ cells'.size = len * te.size ∧ (execOp a.eval o).run E.P w = .ok (.value (.slice (some ⟨w.heap.size, 0, none⟩) len len)) (w.alloc (.cells cells' e)) ∧ (E.r = true → ∀ (q : Nat) (d : Int), cells'[q]? ≠ some (.int .u32 d)) := by
                intro D0 w0 ρ bl a w hs hag hr
                have hpm : ∀ q ∈ parts.toList, q.2 ∈ o.op.operands := fun q hq => by rw [hx]; simp only [Op.operands]; simp; exact ⟨q.1, by simpa using hq⟩
                have hl0 := fillA_congr (bl' := bl) _ _ (fun q hq => by
                  obtain ⟨q', hq', rfl⟩ := List.mem_map.1 hq
                  exact hag (by rw [hx]; rfl) q'.2 (hpm q' hq')) hl0
                obtain ⟨d, i, zv, hd', hi, hz, hti⟩ := tyOf_spec hte
                obtain ⟨z0, hz0⟩ : ∃ z0 : Array Value, z0 = (Array.range (len * te.size)).map (fun q => (if len * te.size = 0 then #[] else zv.cells)[q % (if len * te.size = 0 then #[] else zv.cells : Array Value).size]!) := ⟨_, rfl⟩
                have hzs : z0.size = len * te.size := by rw [hz0]; simp
                obtain ⟨cells', e1, e2⟩ : ∃ cells', Instr.fill (fun i => some (i * te.size, te.size)) z0 (parts.toList.map fun q => (q.1, a.eval q.2)) = some cells' ∧ CRels (Dof D0 ρ bl) w ρ l cells'.toList := by
                  refine fill_rel hs (fun i off fsz hi => ?_) (g := σ.ev) (e := a.eval) parts.toList _ l z0 hl0 (fun q hq => hr q.2 (hpm q hq)) (any_rels _ _ (by simp [hzs]))
                  rw [List.getElem?_map] at hi
                  rcases Nat.lt_or_ge i len with h2 | h2
                  · rw [List.getElem?_range h2] at hi
                    simp at hi
                    simp [← hi.1, ← hi.2]
                  · rw [List.getElem?_eq_none (by simp; omega)] at hi; cases hi
                have hcz : cells'.size = len * te.size := by
                  have := e2.length
                  rw [fillA_length _ _ _ hl0] at this
                  simpa using this.symm
                have hex : (execOp a.eval o).run E.P w = .ok (.value (.slice (some ⟨w.heap.size, 0, none⟩) len len)) (w.alloc (.cells cells' e)) := by
                  have h3 : execOp a.eval o = (do let z ← Instr.buildSlice T len (parts.map fun (i, x) => (i, a.eval x)); pure (.value z)) := by unfold execOp; rw [hx]
                  have h4 : (Instr.buildSlice T len (parts.map fun (i, x) => (i, a.eval x))).run E.P w = .ok (.slice (some ⟨w.heap.size, 0, none⟩) len len) (w.alloc (.cells cells' e)) := by
                    have hpl : (parts.map fun (i, x) => (i, a.eval x)).toList = parts.toList.map fun q => (q.1, a.eval q.2) := by simp
                    have hsz := fun w => run_size hte w
                    have hzv : ∀ w, (zeroValue e).run E.P w = .ok zv w := fun w => by simp [zeroValue, typeInfo, hi, hz]
                    have h1' : ¬ 16777216 < len * te.size := by omega
                    have e1' : Instr.fill (fun i => some (i * te.size, te.size)) z0 (parts.toList.map fun x => (x.fst, a.eval x.snd)) = some cells' := e1
                    by_cases h0 : len * te.size = 0
                    · have hz1 : z0 = #[] := by apply Array.eq_empty_of_size_eq_zero; omega
                      rw [hz1] at e1'
                      have hz2 : Array.map (fun _ => (default : Value)) (Array.range 0) = #[] := by apply Array.eq_empty_of_size_eq_zero; simp
                      simp [Instr.buildSlice, run_underlying (under_elem ht he), hsz, h0, newRow, newObj]
                      rw [hz2, e1']
                      rfl
                    · rw [if_neg h0] at hz0
                      rw [hz0] at e1'
                      simp [Instr.buildSlice, run_underlying (under_elem ht he), hsz, h0, h1', newRow, newObj, hzv, e1']
                      rfl
                  rw [h3, Sem.run_bind, h4]
                  rfl
                refine ⟨cells', e2, hcz, hex, fun hr' q d e => ?_⟩
                have hlb : cellsV bl E.r (.g l) = some l := cellsV_congr (by
                  rintro k u ⟨c, hc, hm⟩
                  rcases fillA_ment _ _ _ hl0 c hc k u hm with ⟨c', h1, h2⟩ | ⟨q, h1, h2⟩
                  · rw [List.mem_replicate] at h1; rw [h1.2] at h2; exact h2.elim
                  · obtain ⟨q', hq', rfl⟩ := List.mem_map.1 h1
                    exact hag (by rw [hx]; rfl) q'.2 (hpm q' hq') k u h2) hl
                exact (cellsV_rel hs hlb (x := .g l) (v := .agg cells') ⟨cells', rfl, e2⟩).2.2 hr' q d (by simpa [Value.cells] using e)
              rcases h with h | ⟨hcl, h⟩
              · refine ⟨_, _, h, .inr (.inl ⟨by rw [hx]; rfl, _, rfl, rfl⟩), ?_⟩
                intro D0 w0 ρ bl a w hs hag hfr hr next Q hnx
                obtain ⟨l0', Bd, q1, q2, q3, q4⟩ := hfr (by rw [hx]; rfl)
                obtain ⟨cells', e2, hcz, hex, hU⟩ := core D0 w0 ρ bl a w hs hag hr
                unfold Oper.wp
                rw [hex]
                have hrev := hs.revive q1 q2 q3 (t := e) (n := len) (f := rowF te.size l) hcz (Nat.le_refl _) (by unfold maxLen; omega) (fun i j hi hj => ?_) hU
                · exact hnx _ _ _ hrev.1 ⟨by simp, fun b hb _ => Below.heap_alloc w _ b hb⟩ hrev.2.1 hrev.2.2 (fun k hk => List.getElem?_set_ne (fun e => hk _ (by rw [e]))) ⟨_, List.getElem?_set_self (List.getElem?_eq_some_iff.1 q1).1, Nat.le_refl _, fun _ => by simp [Loc.v]⟩
                · obtain ⟨u, hu, hur⟩ := e2.get (i * te.size + j) _ (getD_of (d := Cell.any) (by rw [fillA_length _ _ _ hl0]; simp; exact idx_lt hi hj (Nat.le_refl _)))
                  exact ⟨u, by simpa using hu, hur⟩
              · refine ⟨_, _, h, .inl rfl, ?_⟩
                intro D0 w0 ρ bl a w hs hag _ hr next Q hnx
                obtain ⟨cells', e2, hcz, hex, hU⟩ := core D0 w0 ρ bl a w hs hag hr
                unfold Oper.wp
                rw [hex]
                have hbel : Below w.heap.size w (w.alloc (.cells cells' e)) := (Below.refl w.heap.size w).alloc (Nat.le_refl _) _
                have hE := Ext.of_below (D := Dof D0 ρ bl) hbel
                refine hnx _ _ ρ (hs.ext hbel) hE (fun _ _ x => x) (LocsLe.refl _) (fun _ _ => rfl) ⟨_, len, rfl, Nat.le_refl _, fun hn => ⟨w.heap.size, 0, rfl, by simp, fun hb => ?_, fun i j hi hj => ?_⟩⟩
                · have := hs.lt hb; omega
                · have hlen : i * te.size + j < l.length := by rw [fillA_length _ _ _ hl0]; simp; exact idx_lt hi hj (Nat.le_refl _)
                  obtain ⟨u, hu, hur⟩ := e2.get (i * te.size + j) _ (getD_of (d := Cell.any) hlen)
                  refine ⟨u, ?_, ?_⟩
                  · simp only [World.cell?, heap_alloc_new w _, Nat.zero_add]
                    simpa using hu
                  · show CRel (Dof D0 ρ bl) _ [] (l.getD (i * te.size + j) .any) u
                    have hc : (l.getD (i * te.size + j) .any).clos = true := by
                      have := List.all_eq_true.1 hcl (l.getD (i * te.size + j) .any) (List.mem_of_getElem? (getD_of hlen))
                      exact this
                    exact (CRel.clos (ρ' := []) hur hc).step hE (fun _ _ x => x) (LocsLe.refl _)
            · exact h.elim
          · exact h.elim
        · exact h.elim
      · exact h.elim
    · exact h.elim
  case h_6 f args ts hx =>
    split at h
    · rename_i hwf
      obtain ⟨k, B, as, X, B', hM, hB, hst, hp, hp', hst', hu', hfst, ⟨x0, hx0, hx0v⟩, hvs, hcl, hK⟩ := h
      have hopm : ∀ x ∈ args.toList, x ∈ o.op.operands := fun x hxm => arg_mem hx hxm
      refine ⟨_, _, hK, .inr (.inr ⟨by rw [hx]; exact hwf, k, B', B.u, x0, rfl, hopm x0 hx0, by rw [hx0v]; exact ⟨rfl, rfl⟩, B, hB, hst, rfl, Nat.le_of_eq hu'.symm, hst'⟩), ?_⟩
      intro D0 w0 ρ bl a w hs hag _ hr next Q hn
      have hnb : needB o.op = true := by rw [hx]; rfl
      have h2 : bl[k]? = some B := hag hnb x0 (hopm x0 hx0) k B.u (by rw [hx0v]; exact ⟨rfl, rfl⟩) B hB (by omega) rfl
      obtain ⟨l, h1⟩ : ∃ l, ρ[k]? = some l := ⟨_, List.getElem?_eq_getElem (by rw [hs.len]; exact (List.getElem?_eq_some_iff.1 h2).1)⟩
      have hk : k < ρ.length := (List.getElem?_eq_some_iff.1 h1).1
      have hceq : (args.toList.map fun x => St.close bl (σ.ev x)) = args.toList.map fun x => St.close σ.bl (σ.ev x) := by
        refine List.map_congr_left fun x hxm => ?_
        have hc1 := List.all_eq_true.1 hcl x hxm
        have hagx := hag hnb x (hopm x hxm)
        cases hv : σ.ev x with
        | c c =>
          rw [hv] at hc1 hagx
          have fin : (St.closeC σ.bl c).clos = true → St.close bl (.c c) = St.close σ.bl (.c c) := fun h => close_congr hagx h
          by_cases hclos : (St.closeC σ.bl c).clos = true
          · exact fin hclos
          · have hg : ∃ u, c = .gs k u := by
              simp only [St.close, clos1] at hc1
              cases c with
              | gs i u =>
                simp only [St.closeC] at hc1 hclos
                split at hc1
                · rename_i B1 hB1
                  split at hc1
                  · rename_i hst1
                    rw [hB1] at hclos; simp [hst1, Cell.clos] at hclos
                  · simp only [Cell.clos1, beq_iff_eq] at hc1; exact ⟨u, by rw [hc1]⟩
                · simp only [Cell.clos1, beq_iff_eq] at hc1; exact ⟨u, by rw [hc1]⟩
              | sl i u sz o' n =>
                simp only [St.closeC] at hc1 hclos
                split at hc1
                · rename_i B1 hB1
                  split at hc1
                  · rename_i hst1
                    rw [hB1] at hclos; simp [hst1, Cell.clos] at hclos
                  · simp [Cell.clos1] at hc1
                · simp [Cell.clos1] at hc1
              | p i u sz x y =>
                simp only [St.closeC] at hc1 hclos
                split at hc1
                · rename_i B1 hB1
                  split at hc1
                  · rename_i hst1
                    rw [hB1] at hclos; simp [hst1, Cell.clos] at hclos
                  · simp [Cell.clos1] at hc1
                · simp [Cell.clos1] at hc1
              | cl F m f => exact absurd hc1 hclos
              | _ => exact absurd rfl hclos
            obtain ⟨u, rfl⟩ := hg
            simp only [St.close, St.closeC, h2, hB]
        | g l => rw [hv] at hc1 hagx; exact close_congr hagx hc1
        | t2 a b => rfl
        | t3 a b d => rfl
        | t4 a b d e => rfl
      obtain ⟨s1, s2⟩ := hs.hand h1 h2 (.inl hst) hp
      unfold Oper.wp
      rw [exec_call hx rfl hM.1, Oper.upon_enter]
      have hv : VRels (Dof D0 ρ bl) w ρ (args.toList.map fun x => St.close bl (σ.ev x)) (args.toList.map a.eval) :=
        VRels.map args.toList fun x hxm => close_rel hs (hr x (hopm x hxm))
      rw [hceq, hvs] at hv
      have hv2 := VRels.step (D' := Dof (fun b => Dof D0 ρ bl b ∧ ¬ handed l B b) [l] [B]) (fun b _ hb => s2 b hb) (VRels.unren h1 hfst hv)
      have := hM.2 _ _ l w _ s1 hv2
      rw [show (args.toList.map a.eval).toArray = args.map a.eval by rw [← Array.toList_map, Array.toArray_toList]] at this
      refine this.mono ?_
      rintro e w' ⟨v, l', ρf, rfl, q1, q2, q3⟩
      have hρf : ρf = [] := by have := q1.len; simpa using this
      subst hρf
      obtain ⟨b1, b2, b3, b4, b5⟩ := hs.back h1 h2 q2 hp' (fun F hF => by simp at hF) q1
      simp only [List.append_nil] at b1 b3 b4 b5
      refine hn v w' (ρ.set k l') b1 b2 b3 b4 (fun k' hk' => List.getElem?_set_ne (fun e => hk' B' (by rw [e]))) ?_
      exact (VRel.ren0 hk q3).step (Ext.refl _ _) (fun b _ hb => b5 b hb) (LocsLe.refl _)
    · rename_i hwf
      split at h
      · rename_i hfs
        obtain ⟨X, F, hS, hF0, hFp, hcl, hFu, hK⟩ := h
        refine ⟨_, _, hK, .inr (.inl ⟨by rw [hx]; exact hfs, _, rfl, rfl⟩), ?_⟩
        intro D0 w0 ρ bl a w hs hag hfr hr next Q hn
        obtain ⟨l0, Bd, q1, q2, q3, q4⟩ := hfr (by rw [hx]; exact hfs)
        have hcl2 : (args.toList.map fun x => St.close bl (σ.ev x)) = args.toList.map fun x => St.close σ.bl (σ.ev x) := List.map_congr_left fun x hxm => close_congr (hag (by rw [hx]; rfl) x (arg_mem hx hxm)) (List.all_eq_true.1 hcl _ (List.mem_map_of_mem hxm))
        have hvs : VRels (Dof D0 ρ bl) w [] (args.toList.map fun x => St.close σ.bl (σ.ev x)) (args.toList.map a.eval) := by
          rw [← hcl2] at hcl ⊢
          exact (VRels.map args.toList fun x hxm => close_rel hs (hr x (arg_mem hx hxm))).clos hcl
        have hDof : ∀ b, Dof (Dof D0 ρ bl) [] [] b → Dof D0 ρ bl b := by
          rintro b (h | ⟨k, l, B, h1, _⟩)
          · exact h
          · simp at h1
        have hs0 : Sat (Dof D0 ρ bl) ⟨w, fun _ => False⟩ E.r [] [] w := ⟨⟨rfl, rfl, rfl, Nat.le_refl _, fun _ _ _ => rfl⟩, fun b hb => ⟨hs.lt hb, id⟩, rfl, fun k l B h1 _ => by simp at h1, fun i j li lj Bi Bj b h1 => by simp at h1, fun hr b o d hb => hs.noU hr b o d (hDof b hb)⟩
        have hvs' := VRels.step (D' := Dof (Dof D0 ρ bl) [] []) (fun b _ hb => hDof b hb) hvs
        unfold Oper.wp
        rw [exec_call hx rfl hS.1, Oper.upon_enter]
        have := hS.2 _ _ _ w _ hs0 hvs'
        rw [show (args.toList.map a.eval).toArray = args.map a.eval by rw [← Array.toList_map, Array.toArray_toList]] at this
        refine this.mono ?_
        rintro e w' ⟨v, ρf, rfl, q5, _, q7⟩
        match ρf, q5, q7 with
        | [], q5, _ => have := q5.len; simp at this
        | [lf], q5, q7 =>
          obtain ⟨b1, b2, b3, b4, b5⟩ := hs.backS q1 q2 q3 hF0 hFp q5
          refine hn v w' _ b1 b2 b3 b4 (fun k hk => List.getElem?_set_ne (fun e => hk _ (by rw [e]))) ?_
          have hlu : lf.u = 0 := by rw [← hFu]; exact (q5.at_ 0 lf F rfl rfl (by omega)).1
          exact (renGV_rel (List.getElem?_eq_some_iff.1 q1).1 hlu q7).step (Ext.refl _ _) (fun b _ hb => b5 b hb) (LocsLe.refl _)
        | _ :: _ :: _, q5, _ => have := q5.len; simp at this
      · obtain ⟨X, hX, hst⟩ := dop_sound hE h
        refine ⟨X, none, hX, .inl rfl, ?_⟩
        intro D0 w0 ρ bl a w hs hag _ hr next Q hn
        exact hst D0 w0 ρ bl a w hs hag hr next Q fun v w' hb hv => hn v w' ρ (hs.ext hb) (Ext.of_below hb) (fun _ _ x => x) (LocsLe.refl _) (fun _ _ => rfl) hv
  case h_7 args ts hx =>
    unfold appS at h
    split at h
    · rename_i x y T T' hargs hts
      split at h
      · rename_i ti hti
        split at h
        · rename_i e he
          split at h
          · rename_i te hte
            obtain ⟨g, hh⟩ := chk_iff.1 h
            clear h
            simp only [Bool.and_eq_true, beq_iff_eq, Nat.ble_eq, Bool.or_eq_true, Bool.not_eq_true'] at g
            obtain ⟨rfl, g1, g2, g3, g4⟩ := g
            have hti := hE.ty _ _ hti
            have hte := hE.ty _ _ hte
            have ha : args = #[x, y] := by rw [← Array.toList_inj]; simpa using hargs
            have hts' : ts = #[T, T] := by rw [← Array.toList_inj]; simpa using hts
            subst ha; subst hts'
            have hox : x ∈ o.op.operands := arg_mem hx (by simp)
            have hoy : y ∈ o.op.operands := arg_mem hx (by simp)
            have hnb : needB o.op = true := by rw [hx]; rfl
            have hex : ∀ (a : Act) (w : World) (vx : Value) (l' : Value) (w' : World), a.eval x = vx → (Builtin.append_ #[T, T] o.type #[vx, a.eval y]).run E.P w = .ok l' w' → ∀ (next : Act → World → Prop) (Q : Exit → Act → World → Prop), next (a.put o.dst l') w' → o.wp E.P a w next Q := by
              intro a w vx l' w' e1 e2 next Q hn
              unfold Oper.wp execOp
              simp only [hx, resolve, invoke, builtin, Sem.run_bind, Sem.run_pure, Result.andThen_ok, List.map_toArray, List.map_cons, List.map_nil, e1, e2]
              exact hn
            split at hh
            · rename_i k u hv
              split at hh
              · rename_i B m fy hB hsrc
                obtain ⟨q, q4, q5, q6⟩ := chk_iff.1 hh
                simp only [Bool.and_eq_true, beq_iff_eq] at q
                obtain ⟨q0, q1, q2, q3⟩ := q
                subst q3
                refine ⟨_, _, q6, .inr (.inr ⟨by rw [hx]; rfl, k, _, u, x, rfl, hox, by rw [hv]; exact ⟨rfl, rfl⟩, B, hB, q1, q0, Nat.le_succ _, rfl⟩), ?_⟩
                intro D0 w0 ρ bl a w hs hag _ hr next Q hn
                have hB := hag hnb x hox k u (by rw [hv]; exact ⟨rfl, rfl⟩) B hB (by omega) q0
                have hsrc := srcA_congr (hag hnb y hoy) hsrc
                have hvx := hr x hox
                rw [hv] at hvx
                obtain ⟨l, h1, h2, h3⟩ := hvx
                obtain ⟨g0, _⟩ := hs.at_ k l B h1 hB (by omega)
                have hvl := h3 (by omega)
                obtain ⟨l', w', p1, p2, p3, p4, p5, p6⟩ := grow_core (P := E.P) (ty := o.type) hs h1 hB q1 (src_rel hs (by omega) (hr y hoy) (by rw [← q2] at hsrc; exact hsrc)) hti he hte q2.symm g1 (fun hr => by
                  rcases g3 with g3 | g3
                  · rw [hr] at g3; cases g3
                  · exact g3) g4 q4 (fun i j hi hj => ⟨one_nil (q5 i j hi (by omega)).1, (q5 i j hi (by omega)).2⟩)
                exact hex a w _ _ _ hvl p1 next Q (hn _ _ _ p3 p4 p5 p6 (fun k' hk' => List.getElem?_set_ne (fun e => hk' _ (by rw [e]))) ⟨l', List.getElem?_set_self (List.getElem?_eq_some_iff.1 h1).1, by omega, fun _ => rfl⟩)
              · exact hh.elim
            · rename_i hv
              split at hh
              · rename_i m fy hsrc
                obtain ⟨q4, q5, q6⟩ := hh
                refine ⟨_, _, q6, .inr (.inl ⟨by rw [hx]; rfl, _, rfl, rfl⟩), ?_⟩
                intro D0 w0 ρ bl a w hs hag hfr hr next Q hn
                obtain ⟨l0, Bd, p1, p2, p3, p4, rfl⟩ := hfr (by rw [hx]; rfl)
                have hsrc := srcA_congr (hag hnb y hoy) hsrc
                have hvx := hr x hox
                rw [hv] at hvx
                have hvx : a.eval x = .slice none 0 0 := hvx
                obtain ⟨s1, s2⟩ := hs.nilplace p1 p3 p4 e te.size fun _ _ => .any
                have hsr := src_rel hs (sz := te.size) (by omega) (hr y hoy) hsrc
                have hfl : fr < bl.length := (List.getElem?_eq_some_iff.1 p3).1
                have st : ∀ {c : Cell} {v : Value}, CRel (Dof D0 ρ bl) w ρ c v → CRel (Dof D0 ρ (bl.set fr ⟨e, te.size, 0, 0, 0, fun _ _ => .any⟩)) w ρ c v := fun h => h.step (Ext.refl _ _) (fun b _ hb => (s2 b).1 hb) (LocsLe.refl _)
                obtain ⟨A, c, news, n0, n1, n2, n3, n4⟩ := hsr
                obtain ⟨l', w', t1, t2, t3, t4, t5, t6⟩ := grow_core (P := E.P) (ty := o.type) (B := ⟨e, te.size, 0, 0, 0, fun _ _ => .any⟩) s1 p1 (by rw [List.getElem?_set_self hfl]) rfl (vy := a.eval y) (fy := fy) (m := m) ⟨A, c, news, n0, n1, n2, fun a b ha hb => by obtain ⟨u, hu, hur⟩ := n3 a b ha hb; exact ⟨u, hu, st hur⟩, fun x u hx => by obtain ⟨a, b, ha, hb, hur⟩ := n4 x u hx; exact ⟨a, b, ha, hb, st hur⟩⟩ hti he hte rfl g1 (fun hr => by
                  rcases g3 with g3 | g3
                  · rw [hr] at g3; cases g3
                  · exact g3) g4 (by show 0 + m ≤ _; omega) (fun i j hi hj => ⟨one_nil (q5 i j hi hj).1, (q5 i j hi hj).2⟩)
                rw [List.set_set] at t3 t5
                exact hex a w _ _ _ hvx t1 next Q (hn _ _ _ t3 ⟨t4.size, fun b hb hd => t4.block b hb fun h => hd ((s2 b).1 h)⟩ (fun b hb hd => (s2 b).1 (t5 b hb hd)) t6 (fun k' hk' => List.getElem?_set_ne (fun e => hk' _ (by rw [e]))) ⟨l', List.getElem?_set_self (List.getElem?_eq_some_iff.1 p1).1, by rw [t2]; exact Nat.le_refl _, fun _ => rfl⟩)
              · exact hh.elim
            · exact hh.elim
          · exact h.elim
        · exact h.elim
      · exact h.elim
    · exact h.elim
  case h_8 h1 h2 h3 h4 h5 h6 h7 =>
    obtain ⟨X, hX, hst⟩ := dop_sound hE h
    refine ⟨X, none, hX, .inl rfl, ?_⟩
    intro D0 w0 ρ bl a w hs hag _ hr next Q hn
    exact hst D0 w0 ρ bl a w hs hag hr next Q fun v w' hb hv => hn v w' ρ (hs.ext hb) (Ext.of_below hb) (fun _ _ x => x) (LocsLe.refl _) (fun _ _ => rfl) hv
end Go.Proofs.YtigciplaoikcfaaGreat
