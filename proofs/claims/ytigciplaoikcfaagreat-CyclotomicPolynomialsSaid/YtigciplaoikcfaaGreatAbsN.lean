/- A slice of one's own that grows: its block gets a new version. -/
import Derived.Test.YtigciplaoikcfaaGreatAbsM
import Derived.ArgAppend
namespace Go.Proofs.YtigciplaoikcfaaGreat
open Go.RowKit
/-- Where a block lies behind its growth. -/
def Grown (w w' : World) (l l' : Loc) (t sz n' : Nat) (D : Nat → Prop) (ρ : List Loc) (r : Bool) (f' : Nat → Nat → Cell) : Prop :=
  (n' = 0 ∧ l' = ⟨l.u + 1, none, 0, 0⟩) ∨ ∃ (g cap' : Nat) (cs' : Array Value), l' = ⟨l.u + 1, some g, n', cap'⟩ ∧ (l.b = some g ∨ w.heap.size ≤ g) ∧ w'.heap[g]? = some (.cells cs' t (0, 0)) ∧ cs'.size = cap' * sz ∧ n' ≤ cap' ∧ cap' ≤ maxLen ∧
    (∀ i j, i < n' → j < sz → ∃ u, cs'[i * sz + j]? = some u ∧ CRel D w ρ (f' i j) u) ∧ (r = true → ∀ (i : Nat) (d : Int), cs'[i]? ≠ some (.int .u32 d))
theorem Sat.bump {D0 : Nat → Prop} {w0 : Base} {w w' : World} {r : Bool} {ρ : List Loc} {bl : List Blk} (h : Sat D0 w0 r ρ bl w) {k n' : Nat} {l l' : Loc} {B : Blk} {f' : Nat → Nat → Cell} (h1 : ρ[k]? = some l) (h2 : bl[k]? = some B) (h3 : B.st = 0)
    (hg : Grown w w' l l' B.t B.sz n' (Dof D0 ρ bl) ρ r f') (ho : ∀ x, x < w.heap.size → l.b ≠ some x → w'.heap[x]? = w.heap[x]?) (hw : w.heap.size ≤ w'.heap.size) (hos : w'.os = w.os) (htp : w'.tape = w.tape) (hout : w'.output = w.output) :
    Sat D0 w0 r (ρ.set k l') (bl.set k ⟨B.t, B.sz, n', B.u + 1, 0, f'⟩) w' ∧ Ext (Dof D0 ρ bl) w w' ∧ (∀ x, x < w.heap.size → Dof D0 (ρ.set k l') (bl.set k ⟨B.t, B.sz, n', B.u + 1, 0, f'⟩) x → Dof D0 ρ bl x) ∧ LocsLe ρ (ρ.set k l') := by
  have hk : k < ρ.length := (List.getElem?_eq_some_iff.1 h1).1
  have hkb : k < bl.length := (List.getElem?_eq_some_iff.1 h2).1
  have hlu : l'.u = l.u + 1 := by
    rcases hg with ⟨_, e⟩ | ⟨g, cap', cs', e, _⟩ <;> rw [e]
  have hDl : ∀ b, l.b = some b → Dof D0 ρ bl b := fun b hb => .inr ⟨k, l, B, h1, h2, h3, hb⟩
  have hE : Ext (Dof D0 ρ bl) w w' := ⟨hw, fun x hx hd => ho x hx fun e => hd (hDl x e)⟩
  have get : ∀ (j : Nat) (lj : Loc) (Bj : Blk), (ρ.set k l')[j]? = some lj → (bl.set k ⟨B.t, B.sz, n', B.u + 1, 0, f'⟩)[j]? = some Bj → (j ≠ k ∧ ρ[j]? = some lj ∧ bl[j]? = some Bj) ∨ (j = k ∧ lj = l' ∧ Bj = ⟨B.t, B.sz, n', B.u + 1, 0, f'⟩) := by
    intro j lj Bj e1 e2
    by_cases e : j = k
    · subst e
      rw [List.getElem?_set_self hk] at e1
      rw [List.getElem?_set_self hkb] at e2
      cases e1; cases e2
      exact .inr ⟨rfl, rfl, rfl⟩
    · rw [List.getElem?_set_ne (fun h => e h.symm)] at e1 e2
      exact .inl ⟨e, e1, e2⟩
  have newb : ∀ b, l'.b = some b → l.b = some b ∨ w.heap.size ≤ b := by
    intro b hb
    rcases hg with ⟨_, e⟩ | ⟨g, cap', cs', e, e1, _⟩
    · rw [e] at hb; cases hb
    · rw [e] at hb; cases hb; exact e1
  have hD : ∀ x, x < w.heap.size → Dof D0 (ρ.set k l') (bl.set k ⟨B.t, B.sz, n', B.u + 1, 0, f'⟩) x → Dof D0 ρ bl x := by
    rintro x hx (hd | ⟨j, lj, Bj, e1, e2, e3, e4⟩)
    · exact .inl hd
    · rcases get j lj Bj e1 e2 with ⟨_, g1, g2⟩ | ⟨_, rfl, rfl⟩
      · exact .inr ⟨j, lj, Bj, g1, g2, e3, e4⟩
      · rcases newb x e4 with e | e
        · exact hDl x e
        · omega
  have hle : LocsLe ρ (ρ.set k l') := by
    intro j lj e1
    by_cases e : j = k
    · subst e
      rw [h1] at e1; cases e1
      exact ⟨l', List.getElem?_set_self hk, fun e => by omega, by omega⟩
    · exact ⟨lj, by rw [List.getElem?_set_ne (fun h => e h.symm)]; exact e1, fun _ => rfl, Nat.le_refl _⟩
  have notk : ∀ (j : Nat) (lj : Loc) (Bj : Blk) (b : Nat), j ≠ k → ρ[j]? = some lj → bl[j]? = some Bj → Bj.st ≤ 1 → lj.b = some b → l.b ≠ some b := fun j lj Bj b hj e1 e2 e3 e4 e5 =>
    hj (h.dist j k lj l Bj B b e1 h1 e2 h2 e3 (by omega) e4 e5)
  refine ⟨⟨⟨hos.trans h.below.os, htp.trans h.below.tape, hout.trans h.below.output, Nat.le_trans h.below.size hw, fun x hx hm => ?_⟩, h.d0, by simp [h.len], ?_, ?_, ?_⟩, hE, hD, hle⟩
  · refine (ho x (Nat.lt_of_lt_of_le hx h.below.size) fun e => ?_).trans (h.below.block x hx hm)
    rcases h.own h1 h2 (by omega) e with e5 | e5
    · omega
    · exact hm e5
  · intro j lj Bj e1 e2 hst
    rcases get j lj Bj e1 e2 with ⟨hjk, g1, g2⟩ | ⟨rfl, rfl, rfl⟩
    · exact (h.at_ j lj Bj g1 g2).step hE hD hle (fun b e => ho b (h.old g1 g2 hst e) (notk j lj Bj b hjk g1 g2 hst e)) hst
    · obtain ⟨q0, _⟩ := h.at_ j l B h1 h2 (by omega)
      refine ⟨by rw [hlu, q0], ?_⟩
      rcases hg with ⟨e, e'⟩ | ⟨g, cap', cs', e, e3, e4, e5, e6, e7, e8, e9⟩
      · exact .inl ⟨e, by rw [e'], by rw [e']; rfl⟩
      · refine .inr ⟨g, cap', cs', by rw [e], ?_, by rw [e]; rfl, e4, e5, e6, e7, fun x y hx hy => ?_⟩
        · rcases e3 with e3 | e3
          · exact h.own h1 h2 (by omega) e3
          · exact .inl (Nat.le_trans h.below.size e3)
        · obtain ⟨u, hu, hr⟩ := e8 x y hx hy
          exact ⟨u, hu, by simp only [if_true]; exact hr.step hE hD hle⟩
  · intro i j li lj Bi Bj b e1 e2 e3 e4 e5 e6 e7 e8
    rcases get i li Bi e1 e3 with ⟨hik, g1, g2⟩ | ⟨rfl, rfl, rfl⟩ <;> rcases get j lj Bj e2 e4 with ⟨hjk, g3, g4⟩ | ⟨rfl, rfl, rfl⟩
    · exact h.dist i j li lj Bi Bj b g1 g3 g2 g4 e5 e6 e7 e8
    · exfalso
      rcases newb b e8 with q | q
      · exact notk i li Bi b hik g1 g2 e5 e7 q
      · have := h.old g1 g2 e5 e7; omega
    · exfalso
      rcases newb b e7 with q | q
      · exact notk j lj Bj b hjk g3 g4 e6 e8 q
      · have := h.old g3 g4 e6 e8; omega
    · rfl
  · intro hr b o d hb
    rcases hb with hb | ⟨j, lj, Bj, e1, e2, e3, e4⟩
    · have hlt := h.lt (Or.inl hb : Dof D0 ρ bl b)
      have hnl : l.b ≠ some b := fun e => by
        have q := h.d0 b hb
        rcases h.own h1 h2 (by omega) e with e5 | e5
        · omega
        · exact q.2 e5
      have := h.noU hr b o d (.inl hb)
      simp only [World.cell?, ho b hlt hnl] at this ⊢
      exact this
    · rcases get j lj Bj e1 e2 with ⟨hjk, g1, g2⟩ | ⟨rfl, rfl, rfl⟩
      · have hlt := h.old g1 g2 (by omega) e4
        have := h.noU hr b o d (.inr ⟨j, lj, Bj, g1, g2, e3, e4⟩)
        simp only [World.cell?, ho b hlt (notk j lj Bj b hjk g1 g2 (by omega) e4)] at this ⊢
        exact this
      · rcases hg with ⟨_, e⟩ | ⟨g, cap', cs', e, e3, e4', e5, e6, e7, e8, e9⟩
        · rw [e] at e4; cases e4
        · rw [e] at e4; cases e4
          simp only [World.cell?, e4', Option.isSome_none, Bool.false_eq_true, if_false]
          exact e9 hr o d
/-- The elements of one row behind those of another. -/
def appF (n : Nat) (f g : Nat → Nat → Cell) (i j : Nat) : Cell := if i < n then f i j else g (i - n) j
/-- The type of what is appended does not matter, as long as it is a slice's. -/
theorem append_like {P : Program} {T T' ty e e' : TypeId} (h : P.underlying T = some (.slice e)) (h' : P.underlying T' = some (.slice e')) (x y : Value) (w : World) : (Builtin.append_ #[T, T'] ty #[x, y]).run P w = (Builtin.append_ #[T, T] ty #[x, y]).run P w := by
  cases x <;> simp [Builtin.append_, run_underlying h, run_underlying h']
theorem run_append_zero {P : Program} {w : World} {t ty e : TypeId} {i : TypeInfo} (ht : P.underlying t = some (.slice e)) (hi : P.info? e = some i) (b : Option Addr) (n cap c : Nat) (A : Option Addr) (hn : n ≤ cap) :
    (Builtin.append_ #[t, t] ty #[.slice b n cap, .slice A 0 c]).run P w = .ok (.slice b n cap) w := by
  cases A with
  | none => cases b <;> simp [Builtin.append_, run_underlying ht, sizeOf, typeInfo, hi, Builtin.lenOf, Builtin.firstCells, hn, storeCells]
  | some a =>
    have hf := run_firstCells_some (P := P) w i.size 0 a 0 c [] (by simp) (fun j v h => by simp at h)
    cases b <;> simp [Builtin.append_, run_underlying ht, sizeOf, typeInfo, hi, Builtin.lenOf, hf, hn, storeCells]
theorem idx_split {n m sz i j : Nat} (hi : i < n + m) (hj : j < sz) : (i < n ∧ i * sz + j < n * sz) ∨ (n ≤ i ∧ i - n < m ∧ n * sz ≤ i * sz + j ∧ i * sz + j - n * sz = (i - n) * sz + j ∧ (i - n) * sz + j < m * sz) := by
  rcases Nat.lt_or_ge i n with h | h
  · exact .inl ⟨h, idx_lt h hj (Nat.le_refl _)⟩
  · obtain ⟨d, rfl⟩ := Nat.exists_eq_add_of_le h
    have e : (n + d) * sz = n * sz + d * sz := Nat.add_mul _ _ _
    refine .inr ⟨h, by omega, by omega, by rw [e, Nat.add_sub_cancel_left]; omega, ?_⟩
    rw [Nat.add_sub_cancel_left]
    exact idx_lt (show d < m by omega) hj (Nat.le_refl _)
set_option maxHeartbeats 1000000 in
theorem append_run {P : Program} {D0 : Nat → Prop} {w0 : Base} {w : World} {r : Bool} {ρ : List Loc} {bl : List Blk} (h : Sat D0 w0 r ρ bl w) {k : Nat} {l : Loc} {B : Blk} (h1 : ρ[k]? = some l) (h2 : bl[k]? = some B) (h3 : B.st = 0)
    {t ty : TypeId} {i : TypeInfo} {z : Value} (ht : P.underlying t = some (.slice B.t)) (hi : P.info? B.t = some i) (hz : i.zero = some z) (hsz : i.size = B.sz) (hzs : z.cells.size = B.sz) (hzU : r = true → ∀ (x : Nat) (d : Int), z.cells[x]? ≠ some (.int .u32 d))
    {m c : Nat} {A : Option Addr} {news : List Value} (hl : news.length = m * B.sz) (hA : 0 < m → ∃ a, A = some a ∧ ∀ j u, news[j]? = some u → w.cell? (a.add j) = some u) (h1c : ∀ u ∈ news, u.oneCell' = true) (hnU : r = true → ∀ (x : Nat) (d : Int), news[x]? ≠ some (.int .u32 d))
    (hmax : B.n + m ≤ maxLen) (hbytes : (B.n + m) * i.bytes ≤ 140737488355328) {fy : Nat → Nat → Cell} (hfy : ∀ a b, a < m → b < B.sz → ∃ u, news[a * B.sz + b]? = some u ∧ CRel (Dof D0 ρ bl) w ρ (fy a b) u) :
    ∃ w' l', (Builtin.append_ #[t, t] ty #[l.v, .slice A m c]).run P w = .ok l'.v w' ∧ Grown w w' l l' B.t B.sz (B.n + m) (Dof D0 ρ bl) ρ r (appF B.n B.f fy) ∧ (∀ x, x < w.heap.size → l.b ≠ some x → w'.heap[x]? = w.heap[x]?) ∧ w.heap.size ≤ w'.heap.size ∧ w'.os = w.os ∧ w'.tape = w.tape ∧ w'.output = w.output := by
  obtain ⟨q0, q1⟩ := h.at_ k l B h1 h2 (by omega)
  have hm63 : ((B.n + m : Nat) : Int) ≤ 9223372036854775807 := by simp only [maxLen] at hmax; omega
  have zU : r = true → ∀ (n x : Nat) (d : Int), (Builtin.zeroCells z.cells n)[x]? ≠ some (.int .u32 d) := by
    intro hr n x d e
    have hx : x < (Builtin.zeroCells z.cells n).size := (Array.getElem?_eq_some_iff.1 e).1
    rw [size_zeroCells] at hx
    have hp : 0 < z.cells.size := by
      rcases Nat.eq_zero_or_pos z.cells.size with e0 | e0
      · rw [e0] at hx; simp at hx
      · exact e0
    have hlt : x % z.cells.size < z.cells.size := Nat.mod_lt _ hp
    simp only [Builtin.zeroCells] at e
    rw [Array.getElem?_map, Array.getElem?_range, if_pos (by simpa using hx)] at e
    simp only [Option.map_some, Option.some.injEq] at e
    rw [getElem!_pos z.cells _ hlt] at e
    exact hzU hr (x % z.cells.size) d (by rw [Array.getElem?_eq_getElem hlt, e])
  rcases q1 with ⟨n0, b0, v0⟩ | ⟨g, cap, cs, gb, gm, gv, gh, gs, gn, gc, gf⟩
  · rcases Nat.eq_zero_or_pos m with hm | hm
    · subst hm
      refine ⟨w, ⟨l.u + 1, none, 0, 0⟩, ?_, .inl ⟨by omega, rfl⟩, fun _ _ _ => rfl, Nat.le_refl _, rfl, rfl, rfl⟩
      rw [v0]; exact run_append_zero ht hi none 0 0 c A (Nat.le_refl _)
    · obtain ⟨a, rfl, hnews⟩ := hA hm
      have hr := run_append_nil (P := P) w t ty B.t i z ht hi hz a m c news (by rw [hsz]; exact hl) hnews hm (by omega) (by rw [n0] at hbytes; simp only [Nat.zero_add] at hbytes; omega)
      have hge := grownCap_ge w m 0 B.t
      have hcm : grownCap w m 0 B.t ≤ maxLen := grownCap_le_maxLen w m 0 B.t (by omega)
      refine ⟨_, ⟨l.u + 1, some w.heap.size, m, grownCap w m 0 B.t⟩, by rw [v0]; exact hr, .inr ⟨_, _, _, by rw [n0, Nat.zero_add], .inr (Nat.le_refl _), heap_alloc_new w.drew _, ?_, by omega, hcm, fun x y hx hy => ?_, fun hr' x d e => ?_⟩, fun x hx _ => heap_alloc_old w.drew _ hx, by simp, rfl, rfl, rfl⟩
      · rw [Array.size_append, List.size_toArray, hl, size_zeroCells, hzs, ← Nat.add_mul]; congr 1; omega
      · rw [n0, Nat.zero_add] at hx
        obtain ⟨u, hu, hur⟩ := hfy x y hx hy
        refine ⟨u, ?_, by unfold appF; rw [n0, if_neg (by omega)]; exact hur⟩
        rw [Array.getElem?_append_left (by rw [List.size_toArray]; exact (List.getElem?_eq_some_iff.1 hu).1)]
        simpa using hu
      · rcases Nat.lt_or_ge x news.length with hx | hx
        · rw [Array.getElem?_append_left (by simpa using hx)] at e
          exact hnU hr' x d (by simpa using e)
        · rw [Array.getElem?_append_right (by simpa using hx)] at e
          exact zU hr' _ _ d e
  · have hnoU : r = true → ∀ (x : Nat) (d : Int), cs[x]? ≠ some (.int .u32 d) := by
      intro hr x d e
      refine h.noU hr g x d (.inr ⟨k, l, B, h1, h2, h3, gb⟩) ?_
      simp only [World.cell?, gh, Option.isSome_none, Bool.false_eq_true, if_false]
      exact e
    have hsmall : B.n * B.sz ≤ cs.size := by rw [gs]; exact Nat.mul_le_mul_right _ gn
    rcases Nat.eq_zero_or_pos m with hm | hm
    · subst hm
      refine ⟨w, ⟨l.u + 1, some g, B.n, cap⟩, ?_, .inr ⟨g, cap, cs, rfl, .inl gb, gh, gs, gn, gc, fun x y hx hy => ?_, hnoU⟩, fun _ _ _ => rfl, Nat.le_refl _, rfl, rfl, rfl⟩
      · rw [gv]; exact run_append_zero ht hi _ _ _ c A gn
      · obtain ⟨u, hu, hur⟩ := gf x y hx hy
        rw [if_pos h3] at hur
        exact ⟨u, hu, by unfold appF; rw [if_pos (show x < B.n by omega)]; exact hur⟩
    · obtain ⟨a, rfl, hnews⟩ := hA hm
      by_cases hroom : B.n + m ≤ cap
      · have hfit : B.n * i.size + news.length ≤ cs.size := by rw [hsz, hl, gs, ← Nat.add_mul]; exact Nat.mul_le_mul_right _ hroom
        have hr := run_append_room (P := P) (ty := ty) w t B.t i ht hi g B.n cap cs gh a m c news (by rw [hsz]; exact hl) hnews h1c hroom hfit
        rw [hsz] at hr hfit
        have hget : ∀ x : Nat, (cs.toList.take (B.n * B.sz) ++ news ++ cs.toList.drop (B.n * B.sz + news.length)).toArray[x]? = if x < B.n * B.sz then cs[x]? else if x < B.n * B.sz + news.length then news[x - B.n * B.sz]? else cs[x]? := by
          intro x
          simp only [List.getElem?_toArray, List.append_assoc]
          have htl : (cs.toList.take (B.n * B.sz)).length = B.n * B.sz := by simp; omega
          rcases Nat.lt_or_ge x (B.n * B.sz) with hx | hx
          · rw [List.getElem?_append_left (by omega), if_pos hx, List.getElem?_take_of_lt hx]; simp
          · rw [List.getElem?_append_right (by omega), htl, if_neg (by omega)]
            rcases Nat.lt_or_ge (x - B.n * B.sz) news.length with hx2 | hx2
            · rw [List.getElem?_append_left hx2, if_pos (by omega)]
            · rw [List.getElem?_append_right hx2, if_neg (by omega), List.getElem?_drop]
              simp
              congr 1
              omega
        refine ⟨_, ⟨l.u + 1, some g, B.n + m, cap⟩, by rw [gv]; exact hr, .inr ⟨g, cap, _, rfl, .inl gb, setRow_heap w g cs _ B.t _ gh, ?_, hroom, gc, fun x y hx hy => ?_, fun hr' x d e => ?_⟩, fun x _ hne => setRow_other w g x _ (fun e => hne (by rw [e]; exact gb)), by simp, rfl, rfl, rfl⟩
        · simp only [List.size_toArray, List.length_append, List.length_take, List.length_drop, Array.length_toList]
          omega
        · rw [hget]
          rcases idx_split hx hy with ⟨e1, e2⟩ | ⟨e1, e2, e3, e4, e5⟩
          · obtain ⟨u, hu, hur⟩ := gf x y e1 hy
            rw [if_pos h3] at hur
            exact ⟨u, by rw [if_pos e2]; exact hu, by unfold appF; rw [if_pos e1]; exact hur⟩
          · obtain ⟨u, hu, hur⟩ := hfy (x - B.n) y e2 hy
            exact ⟨u, by rw [if_neg (by omega), if_pos (by omega), e4]; exact hu, by unfold appF; rw [if_neg (by omega)]; exact hur⟩
        · rw [hget] at e
          split at e
          · exact hnoU hr' x d e
          · split at e
            · exact hnU hr' _ d e
            · exact hnoU hr' x d e
      · have holds : ∀ j u, (cs.toList.take (B.n * B.sz))[j]? = some u → w.cell? ((⟨g, 0, none⟩ : Addr).add j) = some u := by
          intro j u hj
          have hjl : j < B.n * B.sz := by have := (List.getElem?_eq_some_iff.1 hj).1; simp at this; omega
          rw [List.getElem?_take_of_lt hjl] at hj
          rw [Addr.add_lit, Nat.zero_add]
          simp only [World.cell?, gh, Option.isSome_none, Bool.false_eq_true, if_false]
          simpa using hj
        have hlo : (cs.toList.take (B.n * B.sz)).length = B.n * B.sz := by simp; omega
        have hr := run_append_grow (P := P) (ty := ty) w t B.t i z ht hi hz ⟨g, 0, none⟩ B.n cap _ (by rw [hsz]; exact hlo) holds a m c news (by rw [hsz]; exact hl) hnews (by omega) (by omega) (growslice_fits (by omega) hbytes)
        have hge := grownCap_ge w (B.n + m) cap B.t
        have hcm : grownCap w (B.n + m) cap B.t ≤ maxLen := grownCap_le_maxLen w (B.n + m) cap B.t hmax
        have hget : ∀ x : Nat, x < (B.n + m) * B.sz → ((cs.toList.take (B.n * B.sz)).toArray ++ news.toArray ++ Builtin.zeroCells z.cells (grownCap w (B.n + m) cap B.t - (B.n + m)))[x]? = if x < B.n * B.sz then cs[x]? else news[x - B.n * B.sz]? := by
          intro x hx
          rw [Nat.add_mul] at hx
          rw [Array.getElem?_append_left (by simp; omega)]
          rcases Nat.lt_or_ge x (B.n * B.sz) with hx1 | hx1
          · rw [Array.getElem?_append_left (by simp; omega), if_pos hx1]
            simp [List.getElem?_take_of_lt hx1]
          · rw [Array.getElem?_append_right (by simp; omega), if_neg (by omega)]
            simp only [List.size_toArray, hlo, List.getElem?_toArray]
        refine ⟨_, ⟨l.u + 1, some w.heap.size, B.n + m, grownCap w (B.n + m) cap B.t⟩, by rw [gv]; exact hr, .inr ⟨_, _, _, rfl, .inr (Nat.le_refl _), heap_alloc_new w.drew _, ?_, by omega, hcm, fun x y hx hy => ?_, fun hr' x d e => ?_⟩, fun x hx _ => heap_alloc_old w.drew _ hx, by simp, rfl, rfl, rfl⟩
        · rw [Array.size_append, Array.size_append, List.size_toArray, List.size_toArray, hlo, hl, size_zeroCells, hzs, ← Nat.add_mul, ← Nat.add_mul]; congr 1; omega
        · rw [hget _ (idx_lt hx hy (Nat.le_refl _))]
          rcases idx_split hx hy with ⟨e1, e2⟩ | ⟨e1, e2, e3, e4, e5⟩
          · obtain ⟨u, hu, hur⟩ := gf x y e1 hy
            rw [if_pos h3] at hur
            exact ⟨u, by rw [if_pos e2]; exact hu, by unfold appF; rw [if_pos e1]; exact hur⟩
          · obtain ⟨u, hu, hur⟩ := hfy (x - B.n) y e2 hy
            exact ⟨u, by rw [if_neg (by omega), e4]; exact hu, by unfold appF; rw [if_neg (by omega)]; exact hur⟩
        · rcases Nat.lt_or_ge x ((B.n + m) * B.sz) with hx | hx
          · rw [hget x hx] at e
            split at e
            · exact hnoU hr' x d e
            · exact hnU hr' _ d e
          · rw [Nat.add_mul] at hx
            rw [Array.getElem?_append_right (by simp; omega)] at e
            exact zU hr' _ _ d e
/-- The elements that are appended: none of the block's own. -/
def srcA (bl : List Blk) (sz k : Nat) : V → Option (Nat × (Nat → Nat → Cell))
  | .c (.row s n f) => if s == sz then some (n, f) else none
  | .c .nil => some (0, fun _ _ => .any)
  | .c (.gs k' u') => match bl[k']? with
    | some B => if (B.u == u' && (B.st.ble 1 && (B.sz == sz && !(k' == k)))) then some (B.n, B.f) else none
    | none => none
  | _ => none
theorem cells_list {w : World} {b o N : Nat} {p : Nat → Value → Prop} (h : ∀ x, x < N → ∃ u, w.cell? ⟨b, o + x, none⟩ = some u ∧ p x u) : ∃ news : List Value, news.length = N ∧ (∀ j u, news[j]? = some u → w.cell? ((⟨b, o, none⟩ : Addr).add j) = some u ∧ p j u) ∧ ∀ x, x < N → ∃ u, news[x]? = some u ∧ p x u := by
  induction N with
  | zero => exact ⟨[], rfl, fun j u h => by simp at h, fun x hx => by omega⟩
  | succ N ih =>
    obtain ⟨l, e1, e2, e3⟩ := ih fun x hx => h x (by omega)
    obtain ⟨u, hu, hp⟩ := h N (by omega)
    refine ⟨l ++ [u], by simp [e1], fun j v hj => ?_, fun x hx => ?_⟩
    · rcases Nat.lt_or_ge j l.length with hl | hl
      · rw [List.getElem?_append_left hl] at hj; exact e2 j v hj
      · rw [List.getElem?_append_right hl] at hj
        rcases Nat.eq_zero_or_pos (j - l.length) with e | e
        · rw [e] at hj; simp at hj; subst hj
          rw [show j = N by omega, Addr.add_lit]; exact ⟨hu, hp⟩
        · rw [List.getElem?_eq_none (by simp; omega)] at hj; cases hj
    · rcases Nat.lt_or_ge x l.length with hl | hl
      · obtain ⟨v, hv, hpv⟩ := e3 x (by omega)
        exact ⟨v, by rw [List.getElem?_append_left hl]; exact hv, hpv⟩
      · exact ⟨u, by rw [List.getElem?_append_right hl, show x - l.length = 0 by omega]; rfl, by rw [show x = N by omega]; exact hp⟩
theorem src_rel {D0 : Nat → Prop} {w0 : Base} {w : World} {r : Bool} {ρ : List Loc} {bl : List Blk} (h : Sat D0 w0 r ρ bl w) {sz k m : Nat} (hsz : 0 < sz) {y : V} {v : Value} {fy : Nat → Nat → Cell} (hy : VRel (Dof D0 ρ bl) w ρ y v) (hs : srcA bl sz k y = some (m, fy)) :
    ∃ (A : Option Addr) (c : Nat) (news : List Value), v = .slice A m c ∧ news.length = m * sz ∧ (0 < m → ∃ a, A = some a ∧ ∀ j u, news[j]? = some u → w.cell? (a.add j) = some u) ∧ (∀ a b, a < m → b < sz → ∃ u, news[a * sz + b]? = some u ∧ CRel (Dof D0 ρ bl) w ρ (fy a b) u) ∧ ∀ (x : Nat) (u : Value), news[x]? = some u → ∃ a b, a < m ∧ b < sz ∧ CRel (Dof D0 ρ bl) w ρ (fy a b) u := by
  have fin : ∀ (A : Option Addr) (c : Nat), v = .slice A m c → (0 < m → ∃ b o, A = some ⟨b, o, none⟩ ∧ ∀ i j, i < m → j < sz → ∃ u, w.cell? ⟨b, o + (i * sz + j), none⟩ = some u ∧ CRel (Dof D0 ρ bl) w ρ (fy i j) u) →
      ∃ (A : Option Addr) (c : Nat) (news : List Value), v = .slice A m c ∧ news.length = m * sz ∧ (0 < m → ∃ a, A = some a ∧ ∀ j u, news[j]? = some u → w.cell? (a.add j) = some u) ∧ (∀ a b, a < m → b < sz → ∃ u, news[a * sz + b]? = some u ∧ CRel (Dof D0 ρ bl) w ρ (fy a b) u) ∧ ∀ (x : Nat) (u : Value), news[x]? = some u → ∃ a b, a < m ∧ b < sz ∧ CRel (Dof D0 ρ bl) w ρ (fy a b) u := by
    intro A c hv hc
    rcases Nat.eq_zero_or_pos m with hm | hm
    · subst hm
      exact ⟨A, c, [], hv, by simp, fun h => by omega, fun a b h => by omega, fun x u h => by simp at h⟩
    · obtain ⟨b, o, rfl, hcell⟩ := hc hm
      obtain ⟨news, e1, e2, e3⟩ := cells_list (w := w) (b := b) (o := o) (N := m * sz) (p := fun x u => CRel (Dof D0 ρ bl) w ρ (fy (x / sz) (x % sz)) u) fun x hx => by
        have := hcell (x / sz) (x % sz) ((Nat.div_lt_iff_lt_mul hsz).2 hx) (Nat.mod_lt _ hsz)
        rw [show x / sz * sz + x % sz = x by rw [Nat.mul_comm]; exact Nat.div_add_mod x sz] at this
        exact this
      refine ⟨_, c, news, hv, e1, fun _ => ⟨_, rfl, fun j u hj => (e2 j u hj).1⟩, fun a d ha hd => ?_, fun x u hx => ?_⟩
      · obtain ⟨u, hu, hur⟩ := e3 (a * sz + d) (idx_lt ha hd (Nat.le_refl _))
        have q1 : (a * sz + d) / sz = a := by rw [Nat.mul_comm, Nat.mul_add_div hsz, Nat.div_eq_of_lt hd]; rfl
        have q2 : (a * sz + d) % sz = d := by rw [Nat.mul_comm, Nat.mul_add_mod, Nat.mod_eq_of_lt hd]
        rw [q1, q2] at hur
        exact ⟨u, hu, hur⟩
      · have hlt : x < m * sz := by rw [← e1]; exact (List.getElem?_eq_some_iff.1 hx).1
        exact ⟨x / sz, x % sz, (Nat.div_lt_iff_lt_mul hsz).2 hlt, Nat.mod_lt _ hsz, (e2 x u hx).2⟩
  unfold srcA at hs
  split at hs
  · split at hs
    · rename_i e
      cases hs
      obtain ⟨A, c, rfl, h1, h3⟩ := hy
      have e := beq_iff_eq.1 e
      subst e
      refine fin A c rfl fun hm => ?_
      obtain ⟨b, o, hA, _, _, hc⟩ := h3 hm
      refine ⟨b, o, hA, fun i j hi hj => ?_⟩
      obtain ⟨u, hu, hr⟩ := hc i j hi hj
      exact ⟨u, hu, hr.step (Ext.refl _ _) (fun _ _ x => x) (fun k l hk => by simp at hk)⟩
    · cases hs
  · cases hs
    have hy : v = .slice none 0 0 := hy
    exact fin none 0 hy fun h => by omega
  · split at hs
    · rename_i B hB
      split at hs
      · rename_i e
        cases hs
        simp only [Bool.and_eq_true, beq_iff_eq, Nat.ble_eq] at e
        obtain ⟨e1, e2, e3, e4⟩ := e
        obtain ⟨l, hl, hu, hv⟩ := hy
        obtain ⟨g0, g1⟩ := h.at_ _ l B hl hB e2
        have hv := hv (by omega)
        rcases g1 with ⟨g1, g2, g3⟩ | ⟨b, cap, cs, g1, g2, g3, g4, g5, g6, g7, g8⟩
        · exact fin none 0 (by rw [hv, g3, g1]) fun h => by omega
        · refine fin _ cap (hv.trans g3) fun _ => ⟨b, 0, rfl, fun i j hi hj => ?_⟩
          obtain ⟨u, hu, hr⟩ := g8 i j hi (by omega)
          rw [e3] at hu
          refine ⟨u, by simp only [World.cell?, g4, Nat.zero_add]; simpa using hu, ?_⟩
          by_cases hz : B.st = 0
          · rw [if_pos hz] at hr; exact hr
          · rw [if_neg hz] at hr; exact hr.step (Ext.refl _ _) (fun _ _ x => x) (fun k l hk => by simp at hk)
      · cases hs
    · cases hs
  · cases hs
theorem app_core {P : Program} {C : Ctx} {σ : St} {a : Act} {w : World} {ρ : List Loc} (hs : Sat C.D0 C.w0 C.r ρ σ.bl w) (hN : C.N ≤ a.tmps.size ∧ LocsLe C.ρ0 ρ) (hdf : a.defers = []) (hf : ∀ t, VRel (Dof C.D0 ρ σ.bl) w ρ (σ.tm t) (a.tmps.getD t undef))
    {k u m : Nat} {B : Blk} (hB : σ.bl[k]? = some B) (hu : B.u = u) (h0 : B.st = 0) {vx vy : Value} (hvx : CRel (Dof C.D0 ρ σ.bl) w ρ (.gs k u) vx) {y : V} (hvy : VRel (Dof C.D0 ρ σ.bl) w ρ y vy) {fy : Nat → Nat → Cell} (hsrc : srcA σ.bl B.sz k y = some (m, fy))
    {T ty : TypeId} {ti te : TI} (ht : tyOf P T = some ti) (he : ti.elem = some B.t) (hte : tyOf P B.t = some te) (hsz : te.size = B.sz) (hzl : te.zero.length = te.size) (hpos : 0 < te.size) (hzU : C.r = true → te.zero.all Cell.noU = true) (hby : te.bytes ≤ 8388608) (hmax : B.n + m ≤ 16777216)
    (hone : ∀ i j, i < m → j < B.sz → St.one σ.bl (fy i j) = true ∧ (C.r = true → (fy i j).noU = true)) {dst : Option Nat} (hd : dstOK C.N dst) :
    ∃ v' w', (Builtin.append_ #[T, T] ty #[vx, vy]).run P w = .ok v' w' ∧ Rel C (St.put { σ with bl := σ.bl.set k ⟨B.t, B.sz, B.n + m, B.u + 1, 0, appF B.n B.f fy⟩ } dst (.c (.gs k (u + 1)))) (a.put dst v') w' := by
  obtain ⟨l, h1, h2, h3⟩ := hvx
  obtain ⟨g0, _⟩ := hs.at_ k l B h1 hB (by omega)
  have hvl := h3 (by omega)
  obtain ⟨A, c, news, rfl, n1, n2, n3, n4⟩ := src_rel hs (by omega) hvy hsrc
  obtain ⟨d, i, zv, hdd, hi, hz, rfl⟩ := tyOf_spec hte
  obtain ⟨w', l', r1, r2, r3, r4, r5, r6, r7⟩ := append_run (P := P) (ty := ty) hs h1 hB h0 (under_elem ht he) hi hz hsz (by rw [← hsz, ← hzl]; simp [tiOf]) (fun hr x dd e => by
      have := List.all_eq_true.1 (hzU hr) (cellOf (.int .u32 dd)) (List.mem_map.2 ⟨_, by rw [Array.mem_toList_iff]; exact Array.mem_of_getElem? e, rfl⟩)
      simp [cellOf, Cell.noU] at this) n1 n2 (fun x hx => by
      obtain ⟨j, hj⟩ := List.getElem?_of_mem hx
      obtain ⟨p, q, hp, hq, hr⟩ := n4 j x hj
      exact (one_rel hs (hone p q hp hq).1 hr).1) (fun hr x dd e => by
      obtain ⟨p, q, hp, hq, hrr⟩ := n4 x _ e
      exact noU_rel hs (hone p q hp hq).1 ((hone p q hp hq).2 hr) hrr dd rfl) (by unfold maxLen; omega) (by
      have : (B.n + m) * i.bytes ≤ 16777216 * 8388608 := Nat.mul_le_mul hmax hby
      omega) n3
  obtain ⟨s1, s2, s3, s4⟩ := hs.bump h1 hB h0 r2 r3 r4 r5 r6 r7
  refine ⟨l'.v, w', by rw [hvl]; exact r1, Rel.put (σ := { σ with bl := σ.bl.set k ⟨B.t, B.sz, B.n + m, B.u + 1, 0, appF B.n B.f fy⟩ }) s1 ⟨hN.1, hN.2.trans s4⟩ hdf (frame_step s2 s3 s4 hf) hd ?_⟩
  have hlu : l'.u = l.u + 1 := by
    rcases r2 with ⟨_, e⟩ | ⟨g, cap', cs', e, _⟩ <;> rw [e]
  exact ⟨l', List.getElem?_set_self (List.getElem?_eq_some_iff.1 h1).1, by omega, fun _ => rfl⟩
/-- A slice that is nil, as a block of no elements. -/
theorem Sat.nilblk {D0 : Nat → Prop} {w0 : Base} {w : World} {r : Bool} {ρ : List Loc} {bl : List Blk} (h : Sat D0 w0 r ρ bl w) (t sz : Nat) (f : Nat → Nat → Cell) : Sat D0 w0 r (ρ ++ [⟨0, none, 0, 0⟩]) (bl ++ [⟨t, sz, 0, 0, 0, f⟩]) w ∧ (∀ b, Dof D0 (ρ ++ [⟨0, none, 0, 0⟩]) (bl ++ [⟨t, sz, 0, 0, 0, f⟩]) b → Dof D0 ρ bl b) := by
  have get : ∀ (k : Nat) (l : Loc) (B : Blk), (ρ ++ [⟨0, none, 0, 0⟩])[k]? = some l → (bl ++ [⟨t, sz, 0, 0, 0, f⟩])[k]? = some B → (ρ[k]? = some l ∧ bl[k]? = some B) ∨ (l = ⟨0, none, 0, 0⟩ ∧ B = ⟨t, sz, 0, 0, 0, f⟩) := by
    intro k l B h1 h2
    rcases Nat.lt_or_ge k ρ.length with hk | hk
    · rw [List.getElem?_append_left hk] at h1
      rw [List.getElem?_append_left (by rw [← h.len]; exact hk)] at h2
      exact .inl ⟨h1, h2⟩
    · rw [List.getElem?_append_right hk] at h1
      rw [List.getElem?_append_right (by rw [← h.len]; exact hk), ← h.len] at h2
      rcases Nat.eq_zero_or_pos (k - ρ.length) with e | e
      · rw [e] at h1 h2; simp at h1 h2; exact .inr ⟨h1.symm, h2.symm⟩
      · rw [List.getElem?_eq_none (by simp; omega)] at h1; cases h1
  have hD : ∀ b, Dof D0 (ρ ++ [⟨0, none, 0, 0⟩]) (bl ++ [⟨t, sz, 0, 0, 0, f⟩]) b → Dof D0 ρ bl b := by
    rintro b (hx | ⟨k, l, B, h1, h2, h3, h4⟩)
    · exact .inl hx
    · rcases get k l B h1 h2 with ⟨g1, g2⟩ | ⟨rfl, rfl⟩
      · exact .inr ⟨k, l, B, g1, g2, h3, h4⟩
      · cases h4
  refine ⟨⟨h.below, h.d0, by simp [h.len], fun k l B h1 h2 => ?_, fun i j li lj Bi Bj b h1 h2 h3 h4 h5 h6 h7 h8 => ?_, fun hr b o d hb => h.noU hr b o d (hD b hb)⟩, hD⟩
  · rcases get k l B h1 h2 with ⟨g1, g2⟩ | ⟨rfl, rfl⟩
    · exact (h.at_ k l B g1 g2).step (Ext.refl _ _) (fun b _ hb => hD b hb) (LocsLe.append _ _) (fun _ _ => rfl)
    · intro _; exact ⟨rfl, .inl ⟨rfl, rfl, rfl⟩⟩
  · rcases get i li Bi h1 h3 with ⟨g1, g2⟩ | ⟨rfl, rfl⟩
    · rcases get j lj Bj h2 h4 with ⟨g3, g4⟩ | ⟨rfl, rfl⟩
      · exact h.dist i j li lj Bi Bj b g1 g3 g2 g4 h5 h6 h7 h8
      · cases h8
    · cases h7
/-- An append to the block k. -/
def appK (E : Env) (dst : Option Nat) (σ : St) (k u : Nat) (e : TypeId) (te : TI) (y : V) (K : St → Prop) : Prop :=
  match σ.bl[k]?, srcA σ.bl te.size k y with
  | some B, some (m, fy) => chk (B.u == u && (B.st == 0 && (B.sz == te.size && B.t == e))) (B.n + m ≤ 16777216 ∧ (∀ i j, i < m → j < te.size → St.one σ.bl (fy i j) = true ∧ (E.r = true → (fy i j).noU = true)) ∧ K (St.put { σ with bl := σ.bl.set k ⟨B.t, B.sz, B.n + m, B.u + 1, 0, appF B.n B.f fy⟩ } dst (.c (.gs k (u + 1)))))
  | _, _ => False
def nilB (σ : St) (e : TypeId) (sz : Nat) : St := { σ with bl := σ.bl ++ [⟨e, sz, 0, 0, 0, fun _ _ => .any⟩] }
def appA (E : Env) (dst : Option Nat) (σ : St) (args : List Operand) (ts : List TypeId) (K : St → Prop) : Prop := match args, ts with
  | [x, y], [T, T'] => match E.ty T with
    | some ti => match ti.elem with
      | some e => match E.ty e with
        | some te => chk (((E.ty T').bind (·.elem) == some e) && (te.zero.length == te.size && ((1 : Nat).ble te.size && ((!E.r || te.zero.all Cell.noU) && te.bytes.ble 8388608)))) (match σ.ev x with
          | .c (.gs k u) => appK E dst σ k u e te (σ.ev y) K
          | .c .nil => appK E dst (nilB σ e te.size) σ.bl.length 0 e te (σ.ev y) K
          | _ => False)
        | none => False
      | none => False
    | none => False
  | _, _ => False
theorem appA_sound {E : Env} (hE : EnvOK E) {C : Ctx} (hC : C.r = E.r) {o : Oper} {σ : St} {a : Act} {w : World} {K : St → Prop} {args : Array Operand} {ts : Array TypeId} (hx : o.op = .call { callee := .builtin .append, args, argTypes := ts }) (h : appA E o.dst σ args.toList ts.toList K) (hd : dstOK C.N o.dst) (hr : Rel C σ a w) {next : Act → World → Prop} {Q : Exit → Act → World → Prop}
    (hn : ∀ σ' a' w', K σ' → Rel C σ' a' w' → next a' w') : o.wp E.P a w next Q := by
  unfold appA at h
  split at h
  · rename_i x y T T' hargs hts
    split at h
    · rename_i ti hti
      split at h
      · rename_i e he
        split at h
        · rename_i te hte
          obtain ⟨g, hh⟩ := chk_iff.1 h
          clear h
          simp only [Bool.and_eq_true, beq_iff_eq, Nat.ble_eq, Bool.or_eq_true, Bool.not_eq_true'] at g
          obtain ⟨g0, g1, g2, g3, g4⟩ := g
          obtain ⟨ti', ht1, ht2⟩ := Option.bind_eq_some_iff.1 g0
          have hti' := hE.ty _ _ ht1
          have hti := hE.ty _ _ hti
          have hte := hE.ty _ _ hte
          have ha : args = #[x, y] := by rw [← Array.toList_inj]; simpa using hargs
          have hts' : ts = #[T, T'] := by rw [← Array.toList_inj]; simpa using hts
          subst ha; subst hts'
          have fin : ∀ (σ1 : St) (k u : Nat), appK E o.dst σ1 k u e te (σ1.ev y) K → (∃ ρ, Sat C.D0 C.w0 C.r ρ σ1.bl w ∧ (C.N ≤ a.tmps.size ∧ LocsLe C.ρ0 ρ) ∧ a.defers = [] ∧ (∀ t, VRel (Dof C.D0 ρ σ1.bl) w ρ (σ1.tm t) (a.tmps.getD t undef)) ∧ CRel (Dof C.D0 ρ σ1.bl) w ρ (.gs k u) (a.eval x)) → o.wp E.P a w next Q := by
            intro σ1 k u hk hex
            unfold appK at hk
            split at hk
            · rename_i B m fy hB hsrc
              obtain ⟨q, q4, q5, q6⟩ := chk_iff.1 hk
              simp only [Bool.and_eq_true, beq_iff_eq] at q
              obtain ⟨q0, q1, q2, q3⟩ := q
              obtain ⟨ρ, hs, hN, hdf, hf, hvx⟩ := hex
              subst q3
              obtain ⟨v', w', p1, p2⟩ := app_core (P := E.P) (ty := o.type) hs hN hdf hf hB q0 q1 hvx (ev_rel hf y) (by rw [q2]; exact hsrc) hti he hte q2.symm g1 (by omega) (fun hr => by
                rcases g3 with g3 | g3
                · rw [hC] at hr; rw [hr] at g3; cases g3
                · exact g3) g4 q4 (fun i j hi hj => ⟨(q5 i j hi (by omega)).1, fun hr => (q5 i j hi (by omega)).2 (by rw [← hC]; exact hr)⟩) hd
              unfold Oper.wp execOp
              simp only [hx, resolve, invoke, builtin, Sem.run_bind, Sem.run_pure, Result.andThen_ok, List.map_toArray, List.map_cons, List.map_nil, append_like (under_elem hti he) (under_elem hti' ht2), p1]
              exact hn _ _ _ q6 p2
            · exact hk.elim
          split at hh
          · rename_i k u hv
            obtain ⟨ρ, hs, hN, hdf, hf⟩ := id hr
            refine fin σ k u hh ⟨ρ, hs, hN, hdf, hf, ?_⟩
            have := ev_rel hf x
            rw [hv] at this
            exact this
          · rename_i hv
            obtain ⟨ρ, hs, hN, hdf, hf⟩ := id hr
            obtain ⟨s1, s2⟩ := hs.nilblk e te.size fun _ _ => .any
            have hf' : ∀ t, VRel (Dof C.D0 (ρ ++ [⟨0, none, 0, 0⟩]) (nilB σ e te.size).bl) w (ρ ++ [⟨0, none, 0, 0⟩]) ((nilB σ e te.size).tm t) (a.tmps.getD t undef) := fun t => (hf t).step (Ext.refl _ _) (fun b _ hb => s2 b hb) (LocsLe.append _ _)
            have hev : (nilB σ e te.size).ev y = σ.ev y := by cases y <;> rfl
            refine fin (nilB σ e te.size) σ.bl.length 0 (by rw [hev]; exact hh) ⟨_, s1, ⟨hN.1, hN.2.trans (LocsLe.append _ _)⟩, hdf, hf', ?_⟩
            have := ev_rel hf x
            rw [hv] at this
            have this : a.eval x = .slice none 0 0 := this
            exact ⟨⟨0, none, 0, 0⟩, by rw [← hs.len]; simp, Nat.le_refl _, fun _ => this⟩
          · exact hh.elim
        · exact h.elim
      · exact h.elim
    · exact h.elim
  · exact h.elim
/-- What is known of the elements that are appended. -/
def SrcOK (D : Nat → Prop) (w : World) (ρ : List Loc) (sz m : Nat) (fy : Nat → Nat → Cell) (v : Value) : Prop :=
  ∃ (A : Option Addr) (c : Nat) (news : List Value), v = .slice A m c ∧ news.length = m * sz ∧ (0 < m → ∃ a, A = some a ∧ ∀ j u, news[j]? = some u → w.cell? (a.add j) = some u) ∧ (∀ a b, a < m → b < sz → ∃ u, news[a * sz + b]? = some u ∧ CRel D w ρ (fy a b) u) ∧ ∀ (x : Nat) (u : Value), news[x]? = some u → ∃ a b, a < m ∧ b < sz ∧ CRel D w ρ (fy a b) u
theorem grow_core {P : Program} {D0 : Nat → Prop} {w0 : Base} {w : World} {r : Bool} {ρ : List Loc} {bl : List Blk} (hs : Sat D0 w0 r ρ bl w) {k m : Nat} {l : Loc} {B : Blk} (h1 : ρ[k]? = some l) (hB : bl[k]? = some B) (h0 : B.st = 0) {vy : Value} {fy : Nat → Nat → Cell} (hsrc : SrcOK (Dof D0 ρ bl) w ρ B.sz m fy vy)
    {T ty : TypeId} {ti te : TI} (ht : tyOf P T = some ti) (he : ti.elem = some B.t) (hte : tyOf P B.t = some te) (hsz : te.size = B.sz) (hzl : te.zero.length = te.size) (hzU : r = true → te.zero.all Cell.noU = true) (hby : te.bytes ≤ 8388608) (hmax : B.n + m ≤ 16777216)
    (hone : ∀ i j, i < m → j < B.sz → St.one bl (fy i j) = true ∧ (r = true → (fy i j).noU = true)) :
    ∃ l' w', (Builtin.append_ #[T, T] ty #[l.v, vy]).run P w = .ok l'.v w' ∧ l'.u = l.u + 1 ∧ Sat D0 w0 r (ρ.set k l') (bl.set k ⟨B.t, B.sz, B.n + m, B.u + 1, 0, appF B.n B.f fy⟩) w' ∧ Ext (Dof D0 ρ bl) w w' ∧ (∀ x, x < w.heap.size → Dof D0 (ρ.set k l') (bl.set k ⟨B.t, B.sz, B.n + m, B.u + 1, 0, appF B.n B.f fy⟩) x → Dof D0 ρ bl x) ∧ LocsLe ρ (ρ.set k l') := by
  obtain ⟨A, c, news, rfl, n1, n2, n3, n4⟩ := hsrc
  obtain ⟨d, i, zv, hdd, hi, hz, rfl⟩ := tyOf_spec hte
  obtain ⟨w', l', r1, r2, r3, r4, r5, r6, r7⟩ := append_run (P := P) (ty := ty) hs h1 hB h0 (under_elem ht he) hi hz hsz (by rw [← hsz, ← hzl]; simp [tiOf]) (fun hr x dd e => by
      have := List.all_eq_true.1 (hzU hr) (cellOf (.int .u32 dd)) (List.mem_map.2 ⟨_, by rw [Array.mem_toList_iff]; exact Array.mem_of_getElem? e, rfl⟩)
      simp [cellOf, Cell.noU] at this) n1 n2 (fun x hx => by
      obtain ⟨j, hj⟩ := List.getElem?_of_mem hx
      obtain ⟨p, q, hp, hq, hr⟩ := n4 j x hj
      exact (one_rel hs (hone p q hp hq).1 hr).1) (fun hr x dd e => by
      obtain ⟨p, q, hp, hq, hrr⟩ := n4 x _ e
      exact noU_rel hs (hone p q hp hq).1 ((hone p q hp hq).2 hr) hrr dd rfl) (by unfold maxLen; omega) (by
      have : (B.n + m) * i.bytes ≤ 16777216 * 8388608 := Nat.mul_le_mul hmax hby
      omega) n3
  obtain ⟨s1, s2, s3, s4⟩ := hs.bump h1 hB h0 r2 r3 r4 r5 r6 r7
  have hlu : l'.u = l.u + 1 := by
    rcases r2 with ⟨_, e⟩ | ⟨g, cap', cs', e, _⟩ <;> rw [e]
  exact ⟨l', w', r1, hlu, s1, s2, s3, s4⟩
/-- A place that is told as a block of no elements. -/
theorem Sat.nilplace {D0 : Nat → Prop} {w0 : Base} {w : World} {r : Bool} {ρ : List Loc} {bl : List Blk} (h : Sat D0 w0 r ρ bl w) {fr : Nat} {Bd : Blk} (h1 : ρ[fr]? = some phL) (h2 : bl[fr]? = some Bd) (h3 : Bd.st = 2) (t sz : Nat) (f : Nat → Nat → Cell) : Sat D0 w0 r ρ (bl.set fr ⟨t, sz, 0, 0, 0, f⟩) w ∧ (∀ b, Dof D0 ρ (bl.set fr ⟨t, sz, 0, 0, 0, f⟩) b ↔ Dof D0 ρ bl b) := by
  have hkb : fr < bl.length := (List.getElem?_eq_some_iff.1 h2).1
  have get : ∀ (k : Nat) (l : Loc) (B : Blk), ρ[k]? = some l → (bl.set fr ⟨t, sz, 0, 0, 0, f⟩)[k]? = some B → (k ≠ fr ∧ bl[k]? = some B) ∨ (l = phL ∧ B = ⟨t, sz, 0, 0, 0, f⟩) := by
    intro k l B e1 e2
    by_cases e : k = fr
    · subst e
      rw [List.getElem?_set_self hkb] at e2
      rw [h1] at e1
      cases e1; cases e2
      exact .inr ⟨rfl, rfl⟩
    · rw [List.getElem?_set_ne (fun h => e h.symm)] at e2
      exact .inl ⟨e, e2⟩
  have hD : ∀ b, Dof D0 ρ (bl.set fr ⟨t, sz, 0, 0, 0, f⟩) b ↔ Dof D0 ρ bl b := by
    intro b
    constructor
    · rintro (hx | ⟨k, l, B, e1, e2, e3, e4⟩)
      · exact .inl hx
      · rcases get k l B e1 e2 with ⟨_, g⟩ | ⟨rfl, rfl⟩
        · exact .inr ⟨k, l, B, e1, g, e3, e4⟩
        · cases e4
    · rintro (hx | ⟨k, l, B, e1, e2, e3, e4⟩)
      · exact .inl hx
      · refine .inr ⟨k, l, B, e1, ?_, e3, e4⟩
        rw [List.getElem?_set_ne (fun e => by subst e; rw [h2] at e2; cases e2; omega)]; exact e2
  refine ⟨⟨h.below, h.d0, by simp [h.len], fun k l B e1 e2 => ?_, fun i j li lj Bi Bj b e1 e2 e3 e4 e5 e6 e7 e8 => ?_, fun hr b o d hb => h.noU hr b o d ((hD b).1 hb)⟩, hD⟩
  · rcases get k l B e1 e2 with ⟨_, g⟩ | ⟨rfl, rfl⟩
    · exact (h.at_ k l B e1 g).step (Ext.refl _ _) (fun b _ hb => (hD b).1 hb) (LocsLe.refl _) (fun _ _ => rfl)
    · intro _; exact ⟨rfl, .inl ⟨rfl, rfl, rfl⟩⟩
  · rcases get i li Bi e1 e3 with ⟨_, g1⟩ | ⟨rfl, rfl⟩
    · rcases get j lj Bj e2 e4 with ⟨_, g2⟩ | ⟨rfl, rfl⟩
      · exact h.dist i j li lj Bi Bj b e1 e2 g1 g2 e5 e6 e7 e8
      · cases e8
    · cases e7
theorem one_nil {bl : List Blk} {c : Cell} (h : St.one [] c = true) : St.one bl c = true := by
  cases c <;> first | exact h | (simp [St.one] at h)
end Go.Proofs.YtigciplaoikcfaaGreat
