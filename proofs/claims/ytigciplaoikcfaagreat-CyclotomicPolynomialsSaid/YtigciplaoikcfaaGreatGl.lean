/- Lists of machine integers: what is remembered of a state at a loop's head. -/
import Derived.Test.YtigciplaoikcfaaGreatAbsJ
namespace Go.Proofs.YtigciplaoikcfaaGreat
open Go.RowKit
/-- A list of machine integers, as a cell that is closed, and as a block of one's own. -/
abbrev il (n : Nat) (a : Nat → Int) : Cell := .row 1 n fun i _ => .int .i64 (a i)
abbrev ib (x : Nat × Nat × (Nat → Int)) : Blk := ⟨x.1, 1, x.2.1, 0, 0, fun i _ => .int .i64 (x.2.2 i)⟩
/-- A state of a loop: the slots that count, and the blocks. -/
abbrev ist (tl : List (Nat × V)) (xs : List (Nat × Nat × (Nat → Int))) : St := ⟨asg tl, xs.map ib⟩
def srcB (bl : List Blk) (x : Nat × Nat × (Nat → Int)) : Option Nat → Prop
  | some k => ∃ B, bl[k]? = some B ∧ B.t = x.1 ∧ B.sz = 1 ∧ B.n = x.2.1 ∧ B.st = 0 ∧ ∀ i, i < x.2.1 → B.f i 0 = .int .i64 (x.2.2 i)
  | none => x.2.1 = 0
def srcs (bl : List Blk) : List (Option Nat) → List (Nat × Nat × (Nat → Int)) → Prop
  | [], [] => True
  | k :: ks, x :: xs => srcB bl x k ∧ srcs bl ks xs
  | _, _ => False
theorem srcs_get {bl : List Blk} : ∀ {ks : List (Option Nat)} {xs : List (Nat × Nat × (Nat → Int))}, srcs bl ks xs → ks.length = xs.length ∧ ∀ (j : Nat) x, xs[j]? = some x → ∃ k, ks[j]? = some k ∧ srcB bl x k
  | [], [], _ => ⟨rfl, fun j x h => by simp at h⟩
  | k :: ks, x :: xs, h => by
    obtain ⟨h1, h2⟩ := srcs_get h.2
    refine ⟨by simp [h1], fun j y hj => ?_⟩
    cases j with
    | zero => simp at hj; subst hj; exact ⟨k, rfl, h.1⟩
    | succ j => exact h2 j y (by simpa using hj)
  | [], _ :: _, h => h.elim
  | _ :: _, [], h => h.elim
def injK : List (Option Nat) → Bool
  | [] => true
  | none :: l => injK l
  | some k :: l => !(l.any fun x => x == some k) && injK l
theorem injK_eq : ∀ {ks : List (Option Nat)} (_ : injK ks = true) {i j k : Nat}, ks[i]? = some (some k) → ks[j]? = some (some k) → i = j
  | [], _, i, j, k, h1, _ => by simp at h1
  | none :: l, h, i, j, k, h1, h2 => by
    cases i with
    | zero => simp at h1
    | succ i =>
      cases j with
      | zero => simp at h2
      | succ j => exact congrArg Nat.succ (injK_eq (ks := l) (k := k) h (by simpa using h1) (by simpa using h2))
  | some m :: l, h, i, j, k, h1, h2 => by
    simp only [injK, Bool.and_eq_true, Bool.not_eq_true'] at h
    cases i with
    | zero =>
      cases j with
      | zero => rfl
      | succ j =>
        simp at h1 h2; subst h1
        have := List.any_eq_false.1 h.1 (some m) (List.mem_of_getElem? h2)
        simp at this
    | succ i =>
      cases j with
      | zero =>
        simp at h1 h2; subst h2
        have := List.any_eq_false.1 h.1 (some m) (List.mem_of_getElem? h1)
        simp at this
      | succ j => exact congrArg Nat.succ (injK_eq (ks := l) (k := k) h.2 (by simpa using h1) (by simpa using h2))
/-- What a slot is remembered as, behind q blocks that are kept. -/
def regB (q : Nat) (bl : List Blk) (ks : List (Option Nat)) (v : V) : V → Prop
  | .c (.gs j 0) => match q.ble j, ks[j - q]? with
    | true, some (some k) => ∃ B, bl[k]? = some B ∧ v = .c (.gs k B.u) ∧ B.st = 0
    | true, some none => v = .c .nil
    | _, _ => False
  | .c (.sl j 0 sz o n) => match q.ble j, ks[j - q]? with
    | true, some (some k) => ∃ B n', bl[k]? = some B ∧ v = .c (.sl k B.u sz o n') ∧ B.st = 0 ∧ n' = n
    | _, _ => False
  | .c (.int K m) => ∃ n, v = .c (.int K n) ∧ n = m
  | .c (.row sz n f) => ∃ n' f', v = .c (.row sz n' f') ∧ n' = n ∧ ∀ i j, i < n → j < sz → f' i j = f i j
  | y => v = y ∧ y.clos = true
def locK (ρ : List Loc) : Option Nat → Loc
  | some k => { ρ.getD k ⟨0, none, 0, 0⟩ with u := 0 }
  | none => ⟨0, none, 0, 0⟩
theorem Weak.intsG {tm : Nat → V} {bl : List Blk} {tl : List (Nat × V)} {xs : List (Nat × Nat × (Nat → Int))} (pre : List Blk) (hpre : bl.take pre.length = pre) (hst2 : pre.all (fun B => Nat.ble 2 B.st) = true) (ks : List (Option Nat)) (hi : injK ks = true) (hb : srcs bl ks xs) (hl : allP tl fun p => regB pre.length bl ks (tm p.1) p.2) : Weak pre.length ⟨tm, bl⟩ ⟨asg tl, pre ++ xs.map ib⟩ := by
  rintro C a w hm0 ⟨ρ, hs, hN, hdf, hf⟩
  obtain ⟨hlen, hget⟩ := srcs_get hb
  have hlb : bl.length = ρ.length := hs.len.symm
  have hq : pre.length ≤ ρ.length := by
    have := congrArg List.length hpre
    rw [List.length_take] at this
    omega
  have hql : (ρ.take pre.length).length = pre.length := by rw [List.length_take]; omega
  -- where each block comes from
  have get : ∀ (j : Nat) (l : Loc) (B : Blk), (ρ.take pre.length ++ ks.map (locK ρ))[j]? = some l → (pre ++ xs.map ib)[j]? = some B → 2 ≤ B.st ∨ pre.length ≤ j ∧ ((∃ (k : Nat) (lk : Loc) (Bk : Blk), ks[j - pre.length]? = some (some k) ∧ ρ[k]? = some lk ∧ bl[k]? = some Bk ∧ l = { lk with u := 0 } ∧ B.t = Bk.t ∧ B.sz = 1 ∧ Bk.sz = 1 ∧ B.n = Bk.n ∧ Bk.st = 0 ∧ B.u = 0 ∧ ∀ i, i < B.n → Bk.f i 0 = B.f i 0 ∧ ∃ n, B.f i 0 = .int .i64 n) ∨ (l = ⟨0, none, 0, 0⟩ ∧ B.n = 0 ∧ B.u = 0)) := by
    intro j l B e1 e2
    rcases Nat.lt_or_ge j pre.length with hj | hj
    · left
      rw [List.getElem?_append_left hj] at e2
      exact Nat.le_of_ble_eq_true (List.all_eq_true.1 hst2 B (List.mem_of_getElem? e2))
    right
    refine ⟨hj, ?_⟩
    rw [List.getElem?_append_right (by omega), hql, List.getElem?_map] at e1
    rw [List.getElem?_append_right hj, List.getElem?_map] at e2
    cases hx : xs[j - pre.length]? with
    | none => rw [hx] at e2; cases e2
    | some x =>
      rw [hx] at e2
      simp at e2
      obtain ⟨k, hk, hsrc⟩ := hget _ x hx
      rw [hk] at e1
      simp at e1
      subst e1 e2
      cases k with
      | none => exact .inr ⟨rfl, hsrc, rfl⟩
      | some k =>
        obtain ⟨Bk, q1, q2, q3, q4, q5, q6⟩ := hsrc
        have hkl : k < ρ.length := by rw [hs.len]; exact (List.getElem?_eq_some_iff.1 q1).1
        refine .inl ⟨k, ρ[k], Bk, hk, List.getElem?_eq_getElem hkl, q1, ?_, q2.symm, rfl, q3, q4.symm, q5, rfl, fun i hi => ⟨q6 i hi, _, rfl⟩⟩
        simp [locK, List.getD, List.getElem?_eq_getElem hkl]
  have hD : ∀ b, Dof C.D0 (ρ.take pre.length ++ ks.map (locK ρ)) (pre ++ xs.map ib) b → Dof C.D0 ρ bl b := by
    rintro b (hx | ⟨j, l, B, e1, e2, e3, e4⟩)
    · exact .inl hx
    · rcases get j l B e1 e2 with q0 | ⟨_, ⟨k, lk, Bk, q1, q2, q3, q4, q5, q6, q7, q8, q9, q10⟩ | ⟨q1, q2⟩⟩
      · omega
      · subst q4
        exact .inr ⟨k, lk, Bk, q2, q3, q9, e4⟩
      · subst q1; cases e4
  refine ⟨ρ.take pre.length ++ ks.map (locK ρ), ⟨hs.below, hs.d0, by rw [List.length_append, hql]; simp [hlen], fun j l B e1 e2 hst => ?_, fun i j li lj Bi Bj b e1 e2 e3 e4 e5 e6 e7 e8 => ?_, fun hr b o d hb => hs.noU hr b o d (hD b hb)⟩, ⟨hN.1, fun k l h => ?_⟩, hdf, fun t => ?_⟩
  · rcases get j l B e1 e2 with q0 | ⟨_, ⟨k, lk, Bk, q1, q2, q3, q4, q5, q6, q7, q8, q9, q10, q11⟩ | ⟨q1, q2, q3⟩⟩
    · omega
    · subst q4
      refine ⟨q10.symm, ?_⟩
      rcases (hs.at_ k lk Bk q2 q3 (by omega)).2 with ⟨g1, g2, g3⟩ | ⟨b, cap, cs, g2, g3, g4, g5, g6, g7, g8, g9⟩
      · exact .inl ⟨q8.trans g1, g2, g3⟩
      · refine .inr ⟨b, cap, cs, g2, g3, by rw [q8]; exact g4, by rw [q5]; exact g5, by rw [q6, ← q7]; exact g6, by rw [q8]; exact g7, g8, fun x y hx hy => ?_⟩
        obtain rfl : y = 0 := by omega
        obtain ⟨u, hu, hur⟩ := g9 x 0 (by omega) (by omega)
        refine ⟨u, by rw [q6, ← q7]; exact hu, ?_⟩
        obtain ⟨h1, n, hn⟩ := q11 x hx
        rw [h1, hn] at hur
        rw [hn]
        have hur : u = .int .i64 n := hur
        subst hur
        split <;> rfl
    · subst q1
      exact ⟨q3.symm, .inl ⟨q2, rfl, rfl⟩⟩
  · rcases get i li Bi e1 e3 with q0 | ⟨hi1, ⟨k, lk, Bk, q1, q2, q3, q4, q5, q6, q7, q8, q9, q10⟩ | ⟨q1, q2⟩⟩
    · omega
    · rcases get j lj Bj e2 e4 with p0 | ⟨hj1, ⟨k', lk', Bk', p1, p2, p3, p4, p5, p6, p7, p8, p9, p10⟩ | ⟨p1, p2⟩⟩
      · omega
      · subst q4 p4
        have := hs.dist k k' lk lk' Bk Bk' b q2 p2 q3 p3 (by omega) (by omega) e7 e8
        subst this
        have := injK_eq hi q1 p1
        omega
      · subst p1; cases e8
    · subst q1; cases e7
  · obtain ⟨l', h1, h2⟩ := hN.2 k l h
    have hk : k < pre.length := Nat.lt_of_lt_of_le (List.getElem?_eq_some_iff.1 h).1 hm0
    exact ⟨l', by rw [List.getElem?_append_left (by omega), List.getElem?_take_of_lt hk]; exact h1, h2⟩
  · rcases asg_mem tl t with e | e
    · show VRel _ _ _ (asg tl t) _
      rw [e]; trivial
    · have e1 := allP_mem hl _ e
      have e2 : VRel (Dof C.D0 ρ bl) w ρ (tm t) (a.tmps.getD t undef) := hf t
      show VRel _ _ _ (asg tl t) _
      generalize asg tl t = y at e1 ⊢
      have e1 : regB pre.length bl ks (tm t) y := e1
      have fin : ∀ y : V, tm t = y ∧ y.clos = true → VRel (Dof C.D0 (ρ.take pre.length ++ ks.map (locK ρ)) (pre ++ xs.map ib)) w (ρ.take pre.length ++ ks.map (locK ρ)) y (a.tmps.getD t undef) := fun y h => by
        rw [h.1] at e2
        exact (e2.clos h.2).step (Ext.refl _ _) (fun b _ hb => hD b hb) (LocsLe.refl _)
      have at_j : ∀ j k, pre.length.ble j = true → ks[j - pre.length]? = some k → (ρ.take pre.length ++ ks.map (locK ρ))[j]? = some (locK ρ k) := fun j k h1 h2 => by
        have := Nat.le_of_ble_eq_true h1
        rw [List.getElem?_append_right (by omega), hql, List.getElem?_map, h2]; rfl
      match y, e1 with
      | .c (.gs j 0), e1 =>
        simp only [regB] at e1
        split at e1
        · rename_i k hb hk
          obtain ⟨B, g1, g2, g3⟩ := e1
          rw [g2] at e2
          obtain ⟨l, l1, l2, l3⟩ := e2
          refine ⟨{ l with u := 0 }, ?_, Nat.zero_le _, fun _ => l3 (hs.at_ k l B l1 g1 (by omega)).1⟩
          rw [at_j _ _ hb hk]
          simp [locK, List.getD, l1]
        · rename_i hb hk
          rw [e1] at e2
          have e2 : a.tmps.getD t undef = .slice none 0 0 := e2
          exact ⟨⟨0, none, 0, 0⟩, by rw [at_j _ _ hb hk]; rfl, Nat.zero_le _, fun _ => e2⟩
        · exact e1.elim
      | .c (.sl j 0 sz o n), e1 =>
        simp only [regB] at e1
        split at e1
        · rename_i k hb hk
          obtain ⟨B, n', g1, g2, g3, rfl⟩ := e1
          rw [g2] at e2
          obtain ⟨l, l1, l2, l3⟩ := e2
          refine ⟨{ l with u := 0 }, ?_, Nat.zero_le _, fun _ => l3 (hs.at_ k l B l1 g1 (by omega)).1⟩
          rw [at_j _ _ hb hk]
          simp [locK, List.getD, l1]
        · exact e1.elim
      | .c (.int K m), e1 =>
        obtain ⟨n, g1, g2⟩ := e1
        subst g2
        exact fin _ ⟨g1, rfl⟩
      | .c (.row sz n f), e1 =>
        obtain ⟨n', f', g1, rfl, g2⟩ := e1
        have e3 := fin _ ⟨g1, rfl⟩
        obtain ⟨A, c, s1, s2, s3⟩ := e3
        refine ⟨A, c, s1, s2, fun hn => ?_⟩
        obtain ⟨b, o, r1, r2, r3, r4⟩ := s3 hn
        exact ⟨b, o, r1, r2, r3, fun i j hi hj => by rw [← g2 i j hi hj]; exact r4 i j hi hj⟩
      | .c .any, e1 => exact fin _ e1
      | .c (.bool _), e1 => exact fin _ e1
      | .c .nil, e1 => exact fin _ e1
      | .c (.p ..), e1 => exact fin _ e1
      | .c (.gs _ (_ + 1)), e1 => exact fin _ e1
      | .c (.sl _ (_ + 1) ..), e1 => exact fin _ e1
      | .c (.xp ..), e1 => exact fin _ e1
      | .c (.fn _), e1 => exact fin _ e1
      | .c (.str _), e1 => exact fin _ e1
      | .c (.cl ..), e1 => exact fin _ e1
      | .g _, e1 => exact fin _ e1
      | .t2 .., e1 => exact fin _ e1
      | .t3 .., e1 => exact fin _ e1
      | .t4 .., e1 => exact fin _ e1
theorem Weak.ints {tm : Nat → V} {bl : List Blk} {tl : List (Nat × V)} {xs : List (Nat × Nat × (Nat → Int))} (ks : List (Option Nat)) (hi : injK ks = true) (hb : srcs bl ks xs) (hl : allP tl fun p => regB 0 bl ks (tm p.1) p.2) : Weak 0 ⟨tm, bl⟩ (ist tl xs) :=
  Weak.intsG [] rfl rfl ks hi hb hl
/-- The same behind a place that is kept. -/
abbrev ist1 (tl : List (Nat × V)) (xs : List (Nat × Nat × (Nat → Int))) : St := ⟨asg tl, phB :: xs.map ib⟩
theorem Weak.ints1 {tm : Nat → V} {bl : List Blk} {tl : List (Nat × V)} {xs : List (Nat × Nat × (Nat → Int))} (ks : List (Option Nat)) (h0 : bl.take 1 = [phB]) (hi : injK ks = true) (hb : srcs bl ks xs) (hl : allP tl fun p => regB 1 bl ks (tm p.1) p.2) : Weak 1 ⟨tm, bl⟩ (ist1 tl xs) :=
  Weak.intsG [phB] h0 rfl ks hi hb hl
/-- A place of a list is written. -/
theorem updI {f g : Nat → Int} {k j : Nat} {v : Int} (h : (if j = k then v else f j) = g j) : updF (fun i _ => .int .i64 (f i)) k 0 [.int .i64 v] j 0 = .int .i64 (g j) := by
  rw [← h]
  unfold updF
  by_cases e : j = k
  · rw [if_pos ⟨e, Nat.le_refl _, by simp⟩, if_pos e]; rfl
  · rw [if_neg (fun h => e h.1), if_neg e]
/-- A place is added at the end. -/
theorem appI {f g : Nat → Int} {k j m : Nat} {v : Int} (h : (if j = k then v else f j) = g j) (hm : m ≤ k + 1) (hj : j < m) : appF k (fun i _ => .int .i64 (f i)) (rowF 1 [.int .i64 v]) j 0 = .int .i64 (g j) := by
  rw [← h]
  unfold appF
  by_cases e : j = k
  · subst e; rw [if_neg (Nat.lt_irrefl _), if_pos rfl, Nat.sub_self]; rfl
  · rw [if_pos (by omega), if_neg e]
theorem subRowG {sz n m : Nat} {f g : Nat → Nat → Cell} (h : n = m) (h2 : ∀ i j, i < m → j < sz → f i j = g i j) : Sub (.c (.row sz n f)) (.c (.row sz m g)) := by
  subst h
  rintro D w v ⟨A, c, rfl, h1, h3⟩
  refine ⟨A, c, rfl, h1, fun hn => ?_⟩
  obtain ⟨b', o, hA, hb, hD, hc⟩ := h3 hn
  refine ⟨b', o, hA, hb, hD, fun i j hi hj => ?_⟩
  rw [← h2 i j hi hj]
  exact hc i j hi hj
theorem subRow {n m : Nat} {a b : Nat → Int} (h : n = m) (h2 : ∀ i, i < m → a i = b i) : Sub (.c (il n a)) (.c (il m b)) :=
  subRowG h fun i _ hi _ => congrArg (Cell.int .i64) (h2 i hi)
theorem subT2 {a b a' b' : V} (h1 : Sub a a') (h2 : Sub b b') : Sub (.t2 a b) (.t2 a' b') := by
  rintro D w v ⟨x, y, rfl, hx, hy⟩
  exact ⟨x, y, rfl, h1 D w x hx, h2 D w y hy⟩
theorem subT3 {a b c a' b' c' : V} (h1 : Sub a a') (h2 : Sub b b') (h3 : Sub c c') : Sub (.t3 a b c) (.t3 a' b' c') := by
  rintro D w v ⟨x, y, z, rfl, hx, hy, hz⟩
  exact ⟨x, y, z, rfl, h1 D w x hx, h2 D w y hy, h3 D w z hz⟩
/-- A loop: its states by a parameter, what holds of it, and what falls. -/
theorem loop_ints {E : Env} {c : Code} {σ : St} {R : Exit → St → Prop} {α : Type} (S : α → St) (m : α → Nat) (I : α → Prop) (x0 : α) (hm : E.m0 = 0) (h0 : Weak 0 σ (S x0)) (hI : I x0) (hr : ∀ x, I x → awp E c (S x) (seqR (fun σ2 => ∃ x', m x' < m x ∧ Weak 0 σ2 (S x') ∧ I x') R)) : awp E (.loop c) σ R := by
  refine loop_inv (fun k σ => ∃ x, k = m x ∧ I x ∧ σ = S x) (m x0) ⟨S x0, by rw [hm]; exact h0, x0, rfl, hI, rfl⟩ ?_
  rintro k σ' ⟨x, rfl, hx, rfl⟩
  have h := hr x hx
  have e : (fun σ2 => ∃ x', m x' < m x ∧ Weak 0 σ2 (S x') ∧ I x') = (fun σ2 => ∃ n', n' < m x ∧ ∃ σ3, Weak E.m0 σ2 σ3 ∧ ∃ x, n' = m x ∧ I x ∧ σ3 = S x) := by
    funext σ2
    refine propext ⟨?_, ?_⟩
    · rintro ⟨x', h1, h2, h3⟩
      exact ⟨m x', h1, S x', by rw [hm]; exact h2, x', rfl, h3, rfl⟩
    · rintro ⟨n', h1, σ3, h2, x', rfl, h3, rfl⟩
      exact ⟨x', h1, by rw [hm] at h2; exact h2, h3⟩
  rw [e] at h
  exact h
/-- The same where a place is kept. -/
theorem loop_ints1 {E : Env} {c : Code} {σ : St} {R : Exit → St → Prop} {α : Type} (S : α → St) (m : α → Nat) (I : α → Prop) (x0 : α) (hm : E.m0 = 1) (h0 : Weak 1 σ (S x0)) (hI : I x0) (hr : ∀ x, I x → awp E c (S x) (seqR (fun σ2 => ∃ x', m x' < m x ∧ Weak 1 σ2 (S x') ∧ I x') R)) : awp E (.loop c) σ R := by
  refine loop_inv (fun k σ => ∃ x, k = m x ∧ I x ∧ σ = S x) (m x0) ⟨S x0, by rw [hm]; exact h0, x0, rfl, hI, rfl⟩ ?_
  rintro k σ' ⟨x, rfl, hx, rfl⟩
  have h := hr x hx
  have e : (fun σ2 => ∃ x', m x' < m x ∧ Weak 1 σ2 (S x') ∧ I x') = (fun σ2 => ∃ n', n' < m x ∧ ∃ σ3, Weak E.m0 σ2 σ3 ∧ ∃ x, n' = m x ∧ I x ∧ σ3 = S x) := by
    funext σ2
    refine propext ⟨?_, ?_⟩
    · rintro ⟨x', h1, h2, h3⟩
      exact ⟨m x', h1, S x', by rw [hm]; exact h2, x', rfl, h3, rfl⟩
    · rintro ⟨n', h1, σ3, h2, x', rfl, h3, rfl⟩
      exact ⟨x', h1, by rw [hm] at h2; exact h2, h3⟩
  rw [e] at h
  exact h
end Go.Proofs.YtigciplaoikcfaaGreat
/- Lists of any closed cells: what is remembered of a state at a loop's head. -/
namespace Go.Proofs.YtigciplaoikcfaaGreat
open Go.RowKit
/-- A block of one's own, as a list of so many cells an element. -/
structure Gx where
  t : Nat
  sz : Nat
  n : Nat
  f : Nat → Nat → Cell
abbrev gb (x : Gx) : Blk := ⟨x.t, x.sz, x.n, 0, 0, x.f⟩
abbrev gst (tl : List (Nat × V)) (xs : List Gx) : St := ⟨asg tl, xs.map gb⟩
abbrev gst1 (tl : List (Nat × V)) (xs : List Gx) : St := ⟨asg tl, phB :: xs.map gb⟩
/-- What a cell is remembered as, behind q blocks that are kept: e tells what it was. -/
def regC (q : Nat) (bl : List Blk) (ks : List (Option Nat)) : Cell → (Cell → Prop) → Prop
  | .gs j 0, e => match q.ble j, ks[j - q]? with
    | true, some (some k) => ∃ B, bl[k]? = some B ∧ e (.gs k B.u) ∧ B.st = 0
    | true, some none => e .nil
    | _, _ => False
  | .sl j 0 sz o n, e => match q.ble j, ks[j - q]? with
    | true, some (some k) => ∃ B n', bl[k]? = some B ∧ e (.sl k B.u sz o n') ∧ B.st = 0 ∧ n' = n
    | _, _ => False
  | .p j 0 sz i o, e => match q.ble j, ks[j - q]? with
    | true, some (some k) => ∃ B, bl[k]? = some B ∧ e (.p k B.u sz i o) ∧ B.st = 0
    | _, _ => False
  | .int K m, e => ∃ n, e (.int K n) ∧ n = m
  | .bool b, e => ∃ c, e (.bool c) ∧ c = b
  | .row sz n f, e => (∃ n' f', e (.row sz n' f') ∧ n' = n ∧ ∀ i j, i < n → j < sz → f' i j = f i j) ∨ (n = 0 ∧ e .nil) ∨ ∃ k B, bl[k]? = some B ∧ e (.gs k B.u) ∧ q.ble k = true ∧ (ks.any fun x => x == some k) = false ∧ B.st ≤ 1 ∧ B.sz = sz ∧ B.n = n ∧ ∀ i j, i < n → j < sz → B.f i j = f i j ∧ (f i j).clos = true
  | .cl F m f, e => ∃ f', e (.cl F m f') ∧ ∀ j, j < m → regC q bl ks (f j) fun x => f' j = x
  | y, e => e y ∧ y.clos = true
/-- The same of a list of cells. -/
def regL (q : Nat) (bl : List Blk) (ks : List (Option Nat)) : List Cell → List Cell → Prop
  | [], [] => True
  | y :: l, x :: l' => regC q bl ks y (fun z => x = z) ∧ regL q bl ks l l'
  | _, _ => False
def regV (q : Nat) (bl : List Blk) (ks : List (Option Nat)) (v : V) : V → Prop
  | .c y => regC q bl ks y fun x => v = .c x
  | .g l => (v = .g l ∧ (l.all Cell.clos) = true) ∨ ∃ l', v = .g l' ∧ regL q bl ks l l'
  | y => v = y ∧ y.clos = true
theorem regE {q : Nat} {bl : List Blk} {ks : List (Option Nat)} : ∀ {y : Cell} {e : Cell → Prop}, e y → y.clos = true → regC q bl ks y e
  | .any, _, h, hc => ⟨h, hc⟩
  | .nil, _, h, hc => ⟨h, hc⟩
  | .fn _, _, h, hc => ⟨h, hc⟩
  | .str _, _, h, hc => ⟨h, hc⟩
  | .xp _ _, _, h, hc => ⟨h, hc⟩
  | .int _ _, _, h, _ => ⟨_, h, rfl⟩
  | .bool _, _, h, _ => ⟨_, h, rfl⟩
  | .row _ _ _, _, h, _ => .inl ⟨_, _, h, rfl, fun _ _ _ _ => rfl⟩
  | .cl F m f, _, h, hc => ⟨f, h, fun j hj => regE rfl (by simp only [Cell.clos, List.all_eq_true, List.mem_range] at hc; exact hc j hj)⟩
  | .p .., _, _, hc => by simp [Cell.clos] at hc
  | .gs .., _, _, hc => by simp [Cell.clos] at hc
  | .sl .., _, _, hc => by simp [Cell.clos] at hc
def srcG (q : Nat) (bl : List Blk) (ks : List (Option Nat)) (x : Gx) : Option Nat → Prop
  | some k => ∃ B, bl[k]? = some B ∧ B.t = x.t ∧ B.sz = x.sz ∧ B.n = x.n ∧ B.st = 0 ∧ ∀ i j, i < x.n → j < x.sz → regC q bl ks (x.f i j) fun y => B.f i j = y
  | none => x.n = 0
def srcsG (q : Nat) (bl : List Blk) (ks0 : List (Option Nat)) : List (Option Nat) → List Gx → Prop
  | [], [] => True
  | k :: ks, x :: xs => srcG q bl ks0 x k ∧ srcsG q bl ks0 ks xs
  | _, _ => False
theorem srcsG_get {q : Nat} {bl : List Blk} {ks0 : List (Option Nat)} : ∀ {ks : List (Option Nat)} {xs : List Gx}, srcsG q bl ks0 ks xs → ks.length = xs.length ∧ ∀ (j : Nat) x, xs[j]? = some x → ∃ k, ks[j]? = some k ∧ srcG q bl ks0 x k
  | [], [], _ => ⟨rfl, fun j x h => by simp at h⟩
  | k :: ks, x :: xs, h => by
    obtain ⟨h1, h2⟩ := srcsG_get h.2
    refine ⟨by simp [h1], fun j y hj => ?_⟩
    cases j with
    | zero => simp at hj; subst hj; exact ⟨k, rfl, h.1⟩
    | succ j => exact h2 j y (by simpa using hj)
  | [], _ :: _, h => h.elim
  | _ :: _, [], h => h.elim
/-- A cell is carried over. -/
theorem regC_rel {q : Nat} {bl : List Blk} {ks : List (Option Nat)} {D0 : Nat → Prop} {w0 : Base} {r : Bool} {ρ ρ' : List Loc} {w : World} (hs : Sat D0 w0 r ρ bl w) {D' : Nat → Prop} (hD : ∀ b, D' b → Dof D0 ρ bl b)
    (at_j : ∀ j k, q.ble j = true → ks[j - q]? = some k → ρ'[j]? = some (locK ρ k))
    (out : ∀ (k : Nat) (l : Loc) (B : Blk) (b : Nat), ρ[k]? = some l → bl[k]? = some B → B.st ≤ 1 → l.b = some b → q.ble k = true → (ks.any fun x => x == some k) = false → ¬ D' b) :
    ∀ {y : Cell} {e : Cell → Prop} {v : Value}, regC q bl ks y e → (∀ x, e x → CRel (Dof D0 ρ bl) w ρ x v) → CRel D' w ρ' y v
  | .gs j 0, e, v, h, hv => by
    simp only [regC] at h
    split at h
    · rename_i k hb hk
      obtain ⟨B, g1, g2, g3⟩ := h
      obtain ⟨l, l1, l2, l3⟩ := hv _ g2
      refine ⟨{ l with u := 0 }, ?_, Nat.zero_le _, fun _ => l3 (hs.at_ k l B l1 g1 (by omega)).1⟩
      rw [at_j _ _ hb hk]
      simp [locK, List.getD, l1]
    · rename_i hb hk
      have e2 : v = .slice none 0 0 := hv _ h
      exact ⟨⟨0, none, 0, 0⟩, by rw [at_j _ _ hb hk]; rfl, Nat.zero_le _, fun _ => e2⟩
    · exact h.elim
  | .sl j 0 sz o n, e, v, h, hv => by
    simp only [regC] at h
    split at h
    · rename_i k hb hk
      obtain ⟨B, n', g1, g2, g3, rfl⟩ := h
      obtain ⟨l, l1, l2, l3⟩ := hv _ g2
      refine ⟨{ l with u := 0 }, ?_, Nat.zero_le _, fun _ => l3 (hs.at_ k l B l1 g1 (by omega)).1⟩
      rw [at_j _ _ hb hk]
      simp [locK, List.getD, l1]
    · exact h.elim
  | .p j 0 sz i o, e, v, h, hv => by
    simp only [regC] at h
    split at h
    · rename_i k hb hk
      obtain ⟨B, g1, g2, g3⟩ := h
      obtain ⟨l, l1, l2, l3⟩ := hv _ g2
      refine ⟨{ l with u := 0 }, ?_, Nat.zero_le _, fun _ => l3 (hs.at_ k l B l1 g1 (by omega)).1⟩
      rw [at_j _ _ hb hk]
      simp [locK, List.getD, l1]
    · exact h.elim
  | .int K m, e, v, h, hv => by
    obtain ⟨n, g1, rfl⟩ := h
    exact hv _ g1
  | .bool K, e, v, h, hv => by
    obtain ⟨n, g1, rfl⟩ := h
    exact hv _ g1
  | .row sz n f, e, v, h, hv => by
    rcases h with ⟨n', f', g1, rfl, g2⟩ | ⟨rfl, g1⟩ | ⟨k, B, g1, g2, g3, g4, g5, rfl, rfl, g8⟩
    · have e3 := ((hv _ g1).clos (ρ' := ρ') rfl).step (D' := D') (Ext.refl _ _) (fun b _ hb => hD b hb) (LocsLe.refl ρ')
      obtain ⟨A, c, s1, s2, s3⟩ := e3
      refine ⟨A, c, s1, s2, fun hn => ?_⟩
      obtain ⟨b, o, r1, r2, r3, r4⟩ := s3 hn
      exact ⟨b, o, r1, r2, r3, fun i j hi hj => by rw [← g2 i j hi hj]; exact r4 i j hi hj⟩
    · exact ⟨none, 0, hv _ g1, Nat.le_refl _, fun h => absurd h (Nat.lt_irrefl _)⟩
    · obtain ⟨l, l1, l2, l3⟩ := hv _ g2
      have hat := hs.at_ k l B l1 g1 g5
      have ev := l3 hat.1
      rcases hat.2 with ⟨p1, p2, p3⟩ | ⟨b, cap, cs, p2, p3, p4, p5, p6, p7, p8, p9⟩
      · exact ⟨none, 0, by rw [ev, p3, p1], by omega, fun h => by omega⟩
      · refine ⟨some ⟨b, 0, none⟩, cap, by rw [ev, p4], p7, fun hn => ⟨b, 0, rfl, heap_lt p5, out k l B b l1 g1 g5 p2 g3 g4, fun i j hi hj => ?_⟩⟩
        obtain ⟨u, hu, hr⟩ := p9 i j hi hj
        obtain ⟨c1, c2⟩ := g8 i j hi hj
        refine ⟨u, ?_, ?_⟩
        · have := idx_lt hi hj p7
          simp only [World.cell?, p5]
          simp [hu]
        · rw [c1] at hr
          exact (hr.clos c2).step (Ext.refl _ _) (fun b _ hb => hD b hb) (LocsLe.refl _)
  | .cl F m f, e, v, h, hv => by
    obtain ⟨f', g1, g2⟩ := h
    obtain ⟨caps, rfl, c1, c2⟩ := hv _ g1
    refine ⟨caps, rfl, c1, fun j hj => ?_⟩
    obtain ⟨u, hu, hr⟩ := c2 j hj
    refine ⟨u, hu, regC_rel hs hD at_j out (g2 j hj) fun x hx => ?_⟩
    subst hx
    exact hr
  | .any, e, v, h, hv => trivial
  | .nil, e, v, h, hv => hv _ h.1
  | .fn _, e, v, h, hv => hv _ h.1
  | .str _, e, v, h, hv => hv _ h.1
  | .xp m f, e, v, h, hv => ((hv _ h.1).clos rfl).step (Ext.refl _ _) (fun b _ hb => hD b hb) (LocsLe.refl _)
  | .gs _ (_ + 1), _, _, h, _ => by simp [regC, Cell.clos] at h
  | .sl _ (_ + 1) .., _, _, h, _ => by simp [regC, Cell.clos] at h
  | .p _ (_ + 1) .., _, _, h, _ => by simp [regC, Cell.clos] at h
theorem regL_rel {q : Nat} {bl : List Blk} {ks : List (Option Nat)} {D0 : Nat → Prop} {w0 : Base} {r : Bool} {ρ ρ' : List Loc} {w : World} (hs : Sat D0 w0 r ρ bl w) {D' : Nat → Prop} (hD : ∀ b, D' b → Dof D0 ρ bl b)
    (at_j : ∀ j k, q.ble j = true → ks[j - q]? = some k → ρ'[j]? = some (locK ρ k))
    (out : ∀ (k : Nat) (l : Loc) (B : Blk) (b : Nat), ρ[k]? = some l → bl[k]? = some B → B.st ≤ 1 → l.b = some b → q.ble k = true → (ks.any fun x => x == some k) = false → ¬ D' b) :
    ∀ {l l' : List Cell} {vs : List Value}, regL q bl ks l l' → CRels (Dof D0 ρ bl) w ρ l' vs → CRels D' w ρ' l vs
  | [], [], [], _, _ => trivial
  | _ :: _, _ :: _, _ :: _, h, hv => ⟨regC_rel hs hD at_j out h.1 fun x hx => by subst hx; exact hv.1, regL_rel hs hD at_j out h.2 hv.2⟩
  | [], [], _ :: _, _, hv => hv.elim
  | [], _ :: _, _, h, _ => h.elim
  | _ :: _, [], _, h, _ => h.elim
  | _ :: _, _ :: _, [], _, hv => hv.elim
theorem Weak.genG {tm : Nat → V} {bl : List Blk} {tl : List (Nat × V)} {xs : List Gx} (pre : List Blk) (hpre : bl.take pre.length = pre) (hst2 : pre.all (fun B => Nat.ble 2 B.st) = true) (ks : List (Option Nat)) (hi : injK ks = true) (hb : srcsG pre.length bl ks ks xs) (hl : allP tl fun p => regV pre.length bl ks (tm p.1) p.2) : Weak pre.length ⟨tm, bl⟩ ⟨asg tl, pre ++ xs.map gb⟩ := by
  rintro C a w hm0 ⟨ρ, hs, hN, hdf, hf⟩
  obtain ⟨hlen, hget⟩ := srcsG_get hb
  have hlb : bl.length = ρ.length := hs.len.symm
  have hq : pre.length ≤ ρ.length := by
    have := congrArg List.length hpre
    rw [List.length_take] at this
    omega
  have hql : (ρ.take pre.length).length = pre.length := by rw [List.length_take]; omega
  have get : ∀ (j : Nat) (l : Loc) (B : Blk), (ρ.take pre.length ++ ks.map (locK ρ))[j]? = some l → (pre ++ xs.map gb)[j]? = some B → 2 ≤ B.st ∨ pre.length ≤ j ∧ ((∃ (k : Nat) (lk : Loc) (Bk : Blk), ks[j - pre.length]? = some (some k) ∧ ρ[k]? = some lk ∧ bl[k]? = some Bk ∧ l = { lk with u := 0 } ∧ B.t = Bk.t ∧ B.sz = Bk.sz ∧ B.n = Bk.n ∧ Bk.st = 0 ∧ B.st = 0 ∧ B.u = 0 ∧ ∀ i j, i < B.n → j < B.sz → regC pre.length bl ks (B.f i j) fun y => Bk.f i j = y) ∨ (l = ⟨0, none, 0, 0⟩ ∧ B.n = 0 ∧ B.u = 0)) := by
    intro j l B e1 e2
    rcases Nat.lt_or_ge j pre.length with hj | hj
    · left
      rw [List.getElem?_append_left hj] at e2
      exact Nat.le_of_ble_eq_true (List.all_eq_true.1 hst2 B (List.mem_of_getElem? e2))
    right
    refine ⟨hj, ?_⟩
    rw [List.getElem?_append_right (by omega), hql, List.getElem?_map] at e1
    rw [List.getElem?_append_right hj, List.getElem?_map] at e2
    cases hx : xs[j - pre.length]? with
    | none => rw [hx] at e2; cases e2
    | some x =>
      rw [hx] at e2
      simp at e2
      obtain ⟨k, hk, hsrc⟩ := hget _ x hx
      rw [hk] at e1
      simp at e1
      subst e1 e2
      cases k with
      | none => exact .inr ⟨rfl, hsrc, rfl⟩
      | some k =>
        obtain ⟨Bk, q1, q2, q3, q4, q5, q6⟩ := hsrc
        have hkl : k < ρ.length := by rw [hs.len]; exact (List.getElem?_eq_some_iff.1 q1).1
        refine .inl ⟨k, ρ[k], Bk, hk, List.getElem?_eq_getElem hkl, q1, ?_, q2.symm, q3.symm, q4.symm, q5, rfl, rfl, q6⟩
        simp [locK, List.getD, List.getElem?_eq_getElem hkl]
  have hD : ∀ b, Dof C.D0 (ρ.take pre.length ++ ks.map (locK ρ)) (pre ++ xs.map gb) b → Dof C.D0 ρ bl b := by
    rintro b (hx | ⟨j, l, B, e1, e2, e3, e4⟩)
    · exact .inl hx
    · rcases get j l B e1 e2 with q0 | ⟨_, ⟨k, lk, Bk, q1, q2, q3, q4, q5, q6, q7, q8, q9, q10⟩ | ⟨q1, q2⟩⟩
      · omega
      · subst q4
        exact .inr ⟨k, lk, Bk, q2, q3, q8, e4⟩
      · subst q1; cases e4
  have at_j : ∀ j k, pre.length.ble j = true → ks[j - pre.length]? = some k → (ρ.take pre.length ++ ks.map (locK ρ))[j]? = some (locK ρ k) := fun j k h1 h2 => by
    have := Nat.le_of_ble_eq_true h1
    rw [List.getElem?_append_right (by omega), hql, List.getElem?_map, h2]; rfl
  have out : ∀ (k : Nat) (l : Loc) (B : Blk) (b : Nat), ρ[k]? = some l → bl[k]? = some B → B.st ≤ 1 → l.b = some b → pre.length.ble k = true → (ks.any fun x => x == some k) = false → ¬ Dof C.D0 (ρ.take pre.length ++ ks.map (locK ρ)) (pre ++ xs.map gb) b := by
    rintro k l B b p1 p2 p3 p4 p5 p6 (hx | ⟨j, l', B', e1, e2, e3, e4⟩)
    · have h1 := hs.own p1 p2 p3 p4
      have h2 := hs.d0 b hx
      rcases h1 with h1 | h1
      · have := h2.1
        have h3 : C.w0.heap.size ≤ b := h1
        omega
      · exact h2.2 h1
    · rcases get j l' B' e1 e2 with q0 | ⟨_, ⟨k', lk, Bk, q1, q2, q3, q4, q5, q6, q7, q8, q9, q10⟩ | ⟨q1, q2⟩⟩
      · omega
      · subst q4
        have := hs.dist k k' l lk B Bk b p1 q2 p2 q3 p3 (by omega) p4 e4
        subst this
        have := List.any_eq_false.1 p6 (some k) (List.mem_of_getElem? q1)
        simp at this
      · subst q1; cases e4
  refine ⟨ρ.take pre.length ++ ks.map (locK ρ), ⟨hs.below, hs.d0, by rw [List.length_append, hql]; simp [hlen], fun j l B e1 e2 hst => ?_, fun i j li lj Bi Bj b e1 e2 e3 e4 e5 e6 e7 e8 => ?_, fun hr b o d hb => hs.noU hr b o d (hD b hb)⟩, ⟨hN.1, fun k l h => ?_⟩, hdf, fun t => ?_⟩
  · rcases get j l B e1 e2 with q0 | ⟨_, ⟨k, lk, Bk, q1, q2, q3, q4, q5, q6, q7, q8, q9, q10, q11⟩ | ⟨q1, q2, q3⟩⟩
    · omega
    · subst q4
      refine ⟨q10.symm, ?_⟩
      rcases (hs.at_ k lk Bk q2 q3 (by omega)).2 with ⟨g1, g2, g3⟩ | ⟨b, cap, cs, g2, g3, g4, g5, g6, g7, g8, g9⟩
      · exact .inl ⟨q7.trans g1, g2, g3⟩
      · refine .inr ⟨b, cap, cs, g2, g3, by rw [q7]; exact g4, by rw [q5]; exact g5, by rw [q6]; exact g6, by rw [q7]; exact g7, g8, fun x y hx hy => ?_⟩
        obtain ⟨u, hu, hur⟩ := g9 x y (by omega) (by omega)
        refine ⟨u, by rw [q6]; exact hu, ?_⟩
        rw [if_pos q8] at hur
        rw [if_pos q9]
        exact regC_rel hs hD at_j out (q11 x y hx hy) fun z hz => by subst hz; exact hur
    · subst q1
      exact ⟨q3.symm, .inl ⟨q2, rfl, rfl⟩⟩
  · rcases get i li Bi e1 e3 with q0 | ⟨hi1, ⟨k, lk, Bk, q1, q2, q3, q4, q5, q6, q7, q8, q9, q10⟩ | ⟨q1, q2⟩⟩
    · omega
    · rcases get j lj Bj e2 e4 with p0 | ⟨hj1, ⟨k', lk', Bk', p1, p2, p3, p4, p5, p6, p7, p8, p9, p10⟩ | ⟨p1, p2⟩⟩
      · omega
      · subst q4 p4
        have := hs.dist k k' lk lk' Bk Bk' b q2 p2 q3 p3 (by omega) (by omega) e7 e8
        subst this
        have := injK_eq hi q1 p1
        omega
      · subst p1; cases e8
    · subst q1; cases e7
  · obtain ⟨l', h1, h2⟩ := hN.2 k l h
    have hk : k < pre.length := Nat.lt_of_lt_of_le (List.getElem?_eq_some_iff.1 h).1 hm0
    exact ⟨l', by rw [List.getElem?_append_left (by omega), List.getElem?_take_of_lt hk]; exact h1, h2⟩
  · rcases asg_mem tl t with e | e
    · show VRel _ _ _ (asg tl t) _
      rw [e]; trivial
    · have e1 := allP_mem hl _ e
      have e2 : VRel (Dof C.D0 ρ bl) w ρ (tm t) (a.tmps.getD t undef) := hf t
      show VRel _ _ _ (asg tl t) _
      generalize asg tl t = y at e1 ⊢
      have e1 : regV pre.length bl ks (tm t) y := e1
      have fin : ∀ y : V, tm t = y ∧ y.clos = true → VRel (Dof C.D0 (ρ.take pre.length ++ ks.map (locK ρ)) (pre ++ xs.map gb)) w (ρ.take pre.length ++ ks.map (locK ρ)) y (a.tmps.getD t undef) := fun y h => by
        rw [h.1] at e2
        exact (e2.clos h.2).step (Ext.refl _ _) (fun b _ hb => hD b hb) (LocsLe.refl _)
      match y, e1 with
      | .c y, e1 =>
        exact regC_rel hs hD at_j out e1 fun x hx => by
          have hx : tm t = .c x := hx
          rw [hx] at e2
          exact e2
      | .g l, e1 =>
        rcases e1 with ⟨h1, h2⟩ | ⟨l', h1, h2⟩
        · exact fin _ ⟨h1, h2⟩
        · rw [h1] at e2
          obtain ⟨vs, h3, h4⟩ := e2
          exact ⟨vs, h3, regL_rel hs hD at_j out h2 h4⟩
      | .t2 .., e1 => exact fin _ e1
      | .t3 .., e1 => exact fin _ e1
      | .t4 .., e1 => exact fin _ e1
theorem Weak.gen {tm : Nat → V} {bl : List Blk} {tl : List (Nat × V)} {xs : List Gx} (ks : List (Option Nat)) (hi : injK ks = true) (hb : srcsG 0 bl ks ks xs) (hl : allP tl fun p => regV 0 bl ks (tm p.1) p.2) : Weak 0 ⟨tm, bl⟩ (gst tl xs) :=
  Weak.genG [] rfl rfl ks hi hb hl
theorem Weak.gen1 {tm : Nat → V} {bl : List Blk} {tl : List (Nat × V)} {xs : List Gx} (ks : List (Option Nat)) (h0 : bl.take 1 = [phB]) (hi : injK ks = true) (hb : srcsG 1 bl ks ks xs) (hl : allP tl fun p => regV 1 bl ks (tm p.1) p.2) : Weak 1 ⟨tm, bl⟩ (gst1 tl xs) :=
  Weak.genG [phB] h0 rfl ks hi hb hl
/-- A struct of a list is written. -/
theorem updG {sz : Nat} {g g' : Nat → List Cell} {k i j : Nat} {l : List Cell} (hl : l.length = sz) (hj : j < sz) (h : (if i = k then l else g i) = g' i) : updF (fun i j => (g i).getD j .any) k 0 l i j = (g' i).getD j .any := by
  rw [← h]
  unfold updF
  by_cases e : i = k
  · rw [if_pos ⟨e, Nat.zero_le _, by omega⟩, if_pos e]; rfl
  · rw [if_neg (fun h => e h.1), if_neg e]
/-- A struct is added at the end. -/
theorem appG {sz : Nat} {g g' : Nat → List Cell} {k i j m : Nat} {l : List Cell} (h : (if i = k then l else g i) = g' i) (hm : m ≤ k + 1) (hi : i < m) : appF k (fun i j => (g i).getD j .any) (rowF sz l) i j = (g' i).getD j .any := by
  rw [← h]
  unfold appF
  by_cases e : i = k
  · subst e; rw [if_neg (Nat.lt_irrefl _), if_pos rfl, Nat.sub_self]; unfold rowF; rw [Nat.zero_mul, Nat.zero_add]
  · rw [if_pos (by omega), if_neg e]
end Go.Proofs.YtigciplaoikcfaaGreat
