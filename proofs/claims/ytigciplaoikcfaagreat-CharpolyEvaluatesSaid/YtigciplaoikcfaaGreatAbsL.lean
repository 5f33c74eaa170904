/- A region whose order is open: one walk in the order of the text serves every order. -/
import Derived.Test.YtigciplaoikcfaaGreatAbsK
import Derived.Orders
namespace Go.Proofs.YtigciplaoikcfaaGreat
open Go.RowKit
/-- Whether a value may name a block. -/
def Cell.mentB : Cell → Nat → Bool
  | .p k .., k' => k == k'
  | .gs k _, k' => k == k'
  | .sl k .., k' => k == k'
  | .cl _ n f, k' => (List.range n).any fun j => (f j).mentB k'
  | _, _ => false
def V.mentB : V → Nat → Bool
  | .c x, k => x.mentB k
  | .g l, k => l.any fun c => c.mentB k
  | _, _ => true
theorem Cell.mentB_of : ∀ {c : Cell} {k u : Nat}, c.ment k u → c.mentB k = true
  | .p .., _, _, h => by obtain ⟨h, _⟩ := h; simp [Cell.mentB, h]
  | .gs .., _, _, h => by obtain ⟨h, _⟩ := h; simp [Cell.mentB, h]
  | .sl .., _, _, h => by obtain ⟨h, _⟩ := h; simp [Cell.mentB, h]
  | .cl F n f, _, _, h => by
    obtain ⟨j, hj, h⟩ := h
    simp only [Cell.mentB, List.any_eq_true, List.mem_range]
    exact ⟨j, hj, Cell.mentB_of h⟩
  | .any, _, _, h => h.elim
  | .bool _, _, _, h => h.elim
  | .int _ _, _, _, h => h.elim
  | .nil, _, _, h => h.elim
  | .fn _, _, _, h => h.elim
  | .str _, _, _, h => h.elim
  | .row .., _, _, h => h.elim
  | .xp .., _, _, h => h.elim
theorem V.mentB_of : ∀ {x : V} {k u : Nat}, x.ment k u → x.mentB k = true
  | .c _, _, _, h => Cell.mentB_of h
  | .g _, _, _, h => by
    obtain ⟨c, h1, h2⟩ := h
    exact List.any_eq_true.2 ⟨c, h1, Cell.mentB_of h2⟩
  | .t2 .., _, _, _ => rfl
  | .t3 .., _, _, _ => rfl
  | .t4 .., _, _, _ => rfl
/-- A write that waits for an operation. -/
def lateD (ops : Array Oper) : Nat → Oper → Nat → Bool
  | 0, o, i => o.after.toList.any fun e => Region.binds .any e && e.on == i
  | n + 1, o, i => (o.after.toList.any fun e => Region.binds .any e && e.on == i) || o.after.toList.any fun e => Region.binds .any e && (match ops[e.on]? with
    | some o' => lateD ops n o' i
    | none => false)
/-- A write told behind an operation, that need not wait for it. -/
def lateE (ops : Array Oper) (o : Oper) (i : Nat) : Bool := (o.after.toList.any fun e => !Region.binds .any e && e.on == i) && !lateD ops 2 o i
/-- No operation from i on writes the slot. -/
def slotB (ops : Array Oper) (i : Nat) : Operand → Bool
  | .tmp t => (ops.toList.drop i).all fun o => match o.dst with
    | some d => !(d == t)
    | none => true
  | _ => true
/-- What a write does not wait for does not look into the block that it writes. -/
def lateB (ops : Array Oper) (o : Oper) (σ : St) (ub : Option (Nat × Blk)) : Bool := match isWr o.op with
  | false => true
  | true => match ub with
    | none => true
    | some (k, _) => o.after.toList.all fun e => Region.binds .any e || ((match ops[e.on]? with
      | some oi => !(needB oi.op || isWr oi.op) || oi.op.operands.toList.all fun x => !((σ.ev x).mentB k) && slotB ops e.on x
      | none => true) || lateD ops 2 o e.on)
theorem lateB_none {ops : Array Oper} {o : Oper} {σ : St} : lateB ops o σ none = true := by
  unfold lateB; split <;> rfl
/-- The operations one after the other; the block of operation i has the place n0 + i. -/
def ahead (E : Env) (ops : Array Oper) (n0 : Nat) (l : List Oper) : Nat → St → (St → Prop) → Prop :=
  List.rec (motive := fun _ => Nat → St → (St → Prop) → Prop) (fun _ σ K => K σ) (fun o _ go i σ K => match o.guard with
    | none => sop E o σ (n0 + i) fun v ub => chk (lateB ops o σ ub) (go (i + 1) (St.put { σ with bl := setO σ.bl ub } o.dst v) K)
    | some (g, want) => match guardV σ ops g with
      | some (d, b) => cs (gw want b) (sop E o (σ.put (some d) (.c (.bool want))) (n0 + i) fun v ub => chk (lateB ops o (σ.put (some d) (.c (.bool want))) ub) (go (i + 1) (St.put { (σ.put (some d) (.c (.bool want))) with bl := setO σ.bl ub } o.dst v) K)) (go (i + 1) ((σ.put (some d) (.c (.bool !want))).put o.dst (.c .any)) K)
      | none => False) l
theorem ahead_eq {E : Env} {ops : Array Oper} {n0 i : Nat} {o : Oper} {rest : List Oper} {σ : St} {K : St → Prop} : ahead E ops n0 (o :: rest) i σ K = match o.guard with
    | none => sop E o σ (n0 + i) fun v ub => chk (lateB ops o σ ub) (ahead E ops n0 rest (i + 1) (St.put { σ with bl := setO σ.bl ub } o.dst v) K)
    | some (g, want) => match guardV σ ops g with
      | some (d, b) => cs (gw want b) (sop E o (σ.put (some d) (.c (.bool want))) (n0 + i) fun v ub => chk (lateB ops o (σ.put (some d) (.c (.bool want))) ub) (ahead E ops n0 rest (i + 1) (St.put { (σ.put (some d) (.c (.bool want))) with bl := setO σ.bl ub } o.dst v) K)) (ahead E ops n0 rest (i + 1) ((σ.put (some d) (.c (.bool !want))).put o.dst (.c .any)) K)
      | none => False := rfl
def OpRes (P : Program) (r : Bool) (ops : Array Oper) (o : Oper) (σ : St) (fr : Nat) (v : V) (ub : Option (Nat × Blk)) : Prop :=
  match o.guard with
  | none => SubOK o σ fr ub ∧ ∀ D0 w0, Steps2 P D0 w0 r o σ fr v ub
  | some (g, want) => ∃ d b, guardV σ ops g = some (d, b) ∧ ((b = want ∧ SubOK o σ fr ub ∧ ∀ D0 w0, Steps2 P D0 w0 r o σ fr v ub) ∨ (b = !want ∧ v = .c .any ∧ ub = none))
/-- What a guard reads stands in its slot. -/
theorem guard_same {σ : St} {ops : Array Oper} {g d : Nat} {b : Bool} (hgv : guardV σ ops g = some (d, b)) : σ.put (some d) (.c (.bool b)) = σ := by
  have hd : σ.tm d = .c (.bool b) := by
    unfold guardV at hgv
    split at hgv
    · split at hgv
      · rename_i hv
        cases hgv
        exact hv
      · cases hgv
    · cases hgv
  show (⟨upd σ.tm d (.c (.bool b)), σ.bl⟩ : St) = σ
  have : upd σ.tm d (.c (.bool b)) = σ.tm := funext fun t => by
    unfold upd
    split
    · rename_i e; subst e; exact hd.symm
    · rfl
  rw [this]
theorem ahead_cons {E : Env} (hE : EnvOK E) {ops : Array Oper} {n0 i : Nat} {o : Oper} {rest : List Oper} {σ : St} {K : St → Prop} (h : ahead E ops n0 (o :: rest) i σ K) : ∃ v ub, OpRes E.P E.r ops o σ (n0 + i) v ub ∧ lateB ops o σ ub = true ∧ ahead E ops n0 rest (i + 1) (St.put { σ with bl := setO σ.bl ub } o.dst v) K := by
  rw [ahead_eq] at h
  unfold OpRes
  split at h
  · rename_i hg
    obtain ⟨X, ub, h1, h2, h3⟩ := sop_sound hE h
    obtain ⟨h0, h1⟩ := chk_iff.1 h1
    exact ⟨X, ub, ⟨h2, h3⟩, h0, h1⟩
  · rename_i g want hg
    split at h
    · rename_i d b hgv
      have same := guard_same hgv
      have h := cs_iff.1 h
      rw [gw_true, gw_false] at h
      by_cases e : b = want
      · have h1 := h.1 e
        rw [← e, same] at h1
        obtain ⟨X, ub, h1, h2, h3⟩ := sop_sound hE h1
        obtain ⟨h0, h1⟩ := chk_iff.1 h1
        exact ⟨X, ub, ⟨d, b, hgv, .inl ⟨e, h2, h3⟩⟩, h0, h1⟩
      · have e' : b = !want := by cases b <;> cases want <;> simp_all
        have h1 := h.2 e'
        rw [← e', same] at h1
        exact ⟨_, none, ⟨d, b, hgv, .inr ⟨e', rfl, rfl⟩⟩, lateB_none, h1⟩
    · exact h.elim
theorem St.put_ne {σ : St} {dst : Option Nat} {v : V} {t : Nat} (h : dst ≠ some t) : (σ.put dst v).tm t = σ.tm t := by
  cases dst with
  | none => rfl
  | some d => simp only [St.put, upd]; rw [if_neg (fun e => h (by rw [e]))]
theorem St.put_eq {σ : St} {dst : Option Nat} {v : V} {t : Nat} (h : dst = some t) : (σ.put dst v).tm t = v := by
  subst h; simp [St.put, upd]
/-- The walk in the order of the text, as states. -/
structure Chain (P : Program) (r : Bool) (ops : Array Oper) (n0 : Nat) (l : List Oper) (i0 : Nat) (sts : Nat → St) (vs : Nat → V) (ub : Nat → Option (Nat × Blk)) : Prop where
  tm : ∀ (j : Nat) (o : Oper), l[j]? = some o → ∀ t : Nat, (sts (j + 1)).tm t = if o.dst = some t then vs j else (sts j).tm t
  bl : ∀ j, j < l.length → (sts (j + 1)).bl = setO (sts j).bl (ub j)
  res : ∀ (j : Nat) (o : Oper), l[j]? = some o → OpRes P r ops o (sts j) (n0 + (i0 + j)) (vs j) (ub j)
  late : ∀ (j : Nat) (o : Oper), l[j]? = some o → lateB ops o (sts j) (ub j) = true
theorem ahead_chain {E : Env} (hE : EnvOK E) {ops : Array Oper} {n0 : Nat} {K : St → Prop} : ∀ (l : List Oper) (i0 : Nat) (σ : St), ahead E ops n0 l i0 σ K → ∃ sts vs ub, sts 0 = σ ∧ K (sts l.length) ∧ Chain E.P E.r ops n0 l i0 sts vs ub
  | [], i0, σ, h => ⟨fun _ => σ, fun _ => .c .any, fun _ => none, rfl, h, ⟨fun j o hj => by simp at hj, fun j hj => by simp at hj, fun j o hj => by simp at hj, fun j o hj => by simp at hj⟩⟩
  | o :: rest, i0, σ, h => by
    obtain ⟨v, u, hres, hlt, h'⟩ := ahead_cons hE h
    obtain ⟨sts, vs, ub, h0, hK, hc⟩ := ahead_chain hE rest (i0 + 1) _ h'
    refine ⟨fun j => match j with | 0 => σ | j + 1 => sts j, fun j => match j with | 0 => v | j + 1 => vs j, fun j => match j with | 0 => u | j + 1 => ub j, rfl, hK, ⟨fun j oj hj t => ?_, fun j hj => ?_, fun j oj hj => ?_, fun j oj hj => ?_⟩⟩
    · cases j with
      | zero =>
        simp at hj; subst hj
        show (sts 0).tm t = if o.dst = some t then v else σ.tm t
        rw [h0]
        split
        · rename_i e; exact St.put_eq e
        · rename_i e; exact St.put_ne e
      | succ j => exact hc.tm j oj (by simpa using hj) t
    · cases j with
      | zero => show (sts 0).bl = setO σ.bl u; rw [h0, St.put_bl]
      | succ j => exact hc.bl j (by simpa using hj)
    · cases j with
      | zero => simp at hj; subst hj; exact hres
      | succ j =>
        have := hc.res j oj (by simpa using hj)
        rw [show i0 + 1 + j = i0 + (j + 1) by omega] at this
        exact this
    · cases j with
      | zero => simp at hj; subst hj; exact hlt
      | succ j => exact hc.late j oj (by simpa using hj)
/-! ### The order -/
def uni (l s : List Nat) : List Nat := l.foldl (fun s x => if s.contains x then s else x :: s) s
theorem mem_uni : ∀ (l s : List Nat) (x : Nat), x ∈ uni l s → x ∈ l ∨ x ∈ s
  | [], s, x, h => .inr h
  | y :: l, s, x, h => by
    have h' : x ∈ uni l (if s.contains y then s else y :: s) := h
    rcases mem_uni l _ x h' with h1 | h1
    · exact .inl (by simp [h1])
    · split at h1
      · exact .inr h1
      · rcases List.mem_cons.1 h1 with h2 | h2
        · exact .inl (by simp [h2])
        · exact .inr h2
def clRow (tab : List (List Nat)) (o : Oper) : List Nat := o.after.toList.foldl (fun s e => if Region.binds .any e then uni (e.on :: tab.getD e.on []) s else s) []
def clTab (ops : List Oper) : List (List Nat) := ops.foldl (fun tab o => tab ++ [clRow tab o]) []
theorem clTab_snoc (l : List Oper) (o : Oper) : clTab (l ++ [o]) = clTab l ++ [clRow (clTab l) o] := by simp [clTab, List.foldl_append]
theorem snoc_ind {α : Type} {p : List α → Prop} (h0 : p []) (h1 : ∀ l o, p l → p (l ++ [o])) (l : List α) : p l := by
  have key : ∀ n, ∀ l : List α, l.length = n → p l := by
    intro n
    induction n with
    | zero => intro l hl; rw [List.length_eq_zero_iff.1 hl]; exact h0
    | succ n ih =>
      intro l hl
      have hne : l ≠ [] := by intro e; rw [e] at hl; simp at hl
      rw [← List.dropLast_concat_getLast hne]
      exact h1 _ _ (ih _ (by simp; omega))
  exact key _ l rfl
theorem clTab_length : ∀ l : List Oper, (clTab l).length = l.length := by
  intro l
  refine snoc_ind (p := fun l => (clTab l).length = l.length) rfl (fun l o ih => ?_) l
  rw [clTab_snoc]; simp [ih]
theorem mem_clRow {tab : List (List Nat)} {o : Oper} {j : Nat} (h : j ∈ clRow tab o) : ∃ e ∈ o.after.toList, Region.binds .any e = true ∧ (j = e.on ∨ j ∈ tab.getD e.on []) := by
  have key : ∀ (es : List Edge) (s : List Nat), j ∈ es.foldl (fun s e => if Region.binds .any e then uni (e.on :: tab.getD e.on []) s else s) s → j ∈ s ∨ ∃ e ∈ es, Region.binds .any e = true ∧ (j = e.on ∨ j ∈ tab.getD e.on []) := by
    intro es
    induction es with
    | nil => intro s h; exact .inl h
    | cons e es ih =>
      intro s h
      simp only [List.foldl_cons] at h
      rcases ih _ h with h1 | ⟨e', he, h1⟩
      · split at h1
        · rename_i hb
          rcases mem_uni _ _ _ h1 with h2 | h2
          · rcases List.mem_cons.1 h2 with h3 | h3
            · exact .inr ⟨e, by simp, hb, .inl h3⟩
            · exact .inr ⟨e, by simp, hb, .inr h3⟩
          · exact .inl h2
        · exact .inl h1
      · exact .inr ⟨e', by simp [he], h1⟩
  rcases key _ _ h with h1 | h1
  · simp at h1
  · exact h1
/-- A set of operations that holds whatever its members wait for. -/
def ClosedS (ops : List Oper) (S : Nat → Prop) : Prop := ∀ (i : Nat) (o : Oper), ops[i]? = some o → S i → ∀ e ∈ o.after, Region.binds .any e = true → S e.on
theorem clTab_closed (S : Nat → Prop) : ∀ l : List Oper, ClosedS l S → ∀ (i : Nat) (o : Oper), l[i]? = some o → (∀ e ∈ o.after, Region.binds .any e = true → S e.on) → ∀ j ∈ (clTab l).getD i [], S j := by
  refine snoc_ind (fun _ i o h => by simp at h) fun l o ih => ?_
  · intro hc i oi hi haf j hj
    have hcl : ClosedS l S := fun i o h => hc i o (by rw [List.getElem?_append_left (List.getElem?_eq_some_iff.1 h).1]; exact h)
    rw [clTab_snoc] at hj
    rcases Nat.lt_or_ge i l.length with h | h
    · rw [List.getElem?_append_left h] at hi
      rw [List.getD, List.getElem?_append_left (by rw [clTab_length]; exact h)] at hj
      exact ih hcl i oi hi haf j hj
    · rw [List.getElem?_append_right h] at hi
      rcases Nat.eq_zero_or_pos (i - l.length) with e | e
      · rw [e] at hi; simp at hi; subst hi
        rw [List.getD, List.getElem?_append_right (by rw [clTab_length]; exact h), clTab_length, e] at hj
        simp only [List.getElem?_cons_zero, Option.getD_some] at hj
        obtain ⟨ed, hed, hb, h1⟩ := mem_clRow hj
        have hS := haf ed (Array.mem_toList_iff.1 hed) hb
        rcases h1 with h1 | h1
        · rw [h1]; exact hS
        · rcases Nat.lt_or_ge ed.on l.length with h2 | h2
          · exact ih hcl ed.on l[ed.on] (List.getElem?_eq_getElem h2) (fun e' he' hb' => hcl ed.on _ (List.getElem?_eq_getElem h2) hS e' he' hb') j h1
          · rw [List.getD, List.getElem?_eq_none (by rw [clTab_length]; exact h2)] at h1; simp at h1
      · rw [List.getElem?_eq_none (by simp; omega)] at hi; cases hi
/-- Whatever shares a slot or a block comes in one order. -/
def drawB (ops : Array Oper) : Bool :=
  let tab := clTab ops.toList
  (List.range ops.size).all fun i => match ops[i]? with
    | none => true
    | some o => (o.after.toList.all fun e => !Region.binds .any e || decide (e.on < i)) &&
      (List.range ops.size).all fun j => match ops[j]? with
        | none => true
        | some oj => j == i || (
          (match oj.dst with
            | some d => !((o.looksAt ops).contains d) || ((decide (j < i) && (tab.getD i []).contains j) || (decide (i < j) && (tab.getD j []).contains i))
            | none => true) &&
          ((match o.dst, oj.dst with
            | some d, some d' => !(d == d')
            | _, _ => true) &&
          (!(isWr oj.op) || (!(needB o.op || isWr o.op) || ((decide (j < i) && (tab.getD i []).contains j) || (decide (i < j) && ((tab.getD j []).contains i || lateE ops oj i)))))))
structure DrawOK (ops : Array Oper) : Prop where
  down : ∀ (i : Nat) (o : Oper), ops[i]? = some o → ∀ e ∈ o.after, Region.binds .any e = true → e.on < i
  looks : ∀ (i j : Nat) (o oj : Oper), ops[i]? = some o → ops[j]? = some oj → j ≠ i → ∀ d, oj.dst = some d → d ∈ o.looksAt ops → (j < i ∧ j ∈ (clTab ops.toList).getD i []) ∨ (i < j ∧ i ∈ (clTab ops.toList).getD j [])
  own : ∀ (i j : Nat) (o oj : Oper), ops[i]? = some o → ops[j]? = some oj → j ≠ i → ∀ d, o.dst = some d → oj.dst ≠ some d
  wrs : ∀ (i j : Nat) (o oj : Oper), ops[i]? = some o → ops[j]? = some oj → j ≠ i → isWr oj.op = true → (needB o.op || isWr o.op) = true → (j < i ∧ j ∈ (clTab ops.toList).getD i []) ∨ (i < j ∧ (i ∈ (clTab ops.toList).getD j [] ∨ lateE ops oj i = true))
theorem drawB_ok {ops : Array Oper} (h : drawB ops = true) : DrawOK ops := by
  have get : ∀ (i : Nat) (o : Oper), ops[i]? = some o → (o.after.toList.all fun e => !Region.binds .any e || decide (e.on < i)) = true ∧ ∀ (j : Nat) (oj : Oper), ops[j]? = some oj → j ≠ i →
      ((match oj.dst with
            | some d => !((o.looksAt ops).contains d) || ((decide (j < i) && ((clTab ops.toList).getD i []).contains j) || (decide (i < j) && ((clTab ops.toList).getD j []).contains i))
            | none => true) = true ∧
          (match o.dst, oj.dst with
            | some d, some d' => !(d == d')
            | _, _ => true) = true ∧
          (!(isWr oj.op) || (!(needB o.op || isWr o.op) || ((decide (j < i) && ((clTab ops.toList).getD i []).contains j) || (decide (i < j) && (((clTab ops.toList).getD j []).contains i || lateE ops oj i))))) = true) := by
    intro i o ho
    have hi : i < ops.size := (Array.getElem?_eq_some_iff.1 ho).1
    unfold drawB at h
    have := List.all_eq_true.1 h i (List.mem_range.2 hi)
    rw [ho] at this
    simp only [Bool.and_eq_true] at this
    refine ⟨this.1, fun j oj hoj hne => ?_⟩
    have hj : j < ops.size := (Array.getElem?_eq_some_iff.1 hoj).1
    have h2 := List.all_eq_true.1 this.2 j (List.mem_range.2 hj)
    rw [hoj] at h2
    simp only [Bool.or_eq_true, beq_iff_eq, Bool.and_eq_true] at h2
    rcases h2 with h2 | h2
    · exact absurd h2 hne
    · simpa only [Bool.or_eq_true, beq_iff_eq, Bool.and_eq_true] using h2
  constructor
  · intro i o ho e he hb
    have := List.all_eq_true.1 (get i o ho).1 e (Array.mem_toList_iff.2 he)
    rw [hb] at this
    simpa using this
  · intro i j o oj ho hoj hne d hd hm
    have := ((get i o ho).2 j oj hoj hne).1
    rw [hd] at this
    simp only [List.contains_iff_mem, Bool.or_eq_true, Bool.not_eq_true', Bool.and_eq_true, decide_eq_true_eq] at this
    rcases this with h1 | h1
    · rw [List.contains_iff_mem.2 hm] at h1; cases h1
    · exact h1
  · intro i j o oj ho hoj hne d hd hd'
    have := ((get i o ho).2 j oj hoj hne).2.1
    rw [hd, hd'] at this
    simp at this
  · intro i j o oj ho hoj hne hw hn
    have := ((get i o ho).2 j oj hoj hne).2.2
    rw [hw, hn] at this
    simp only [Bool.not_true, Bool.false_or, List.contains_iff_mem, Bool.or_eq_true, Bool.and_eq_true, decide_eq_true_eq] at this
    exact this

theorem ready_mem {ops : Array Oper} {listed : Array Bool} {i : Nat} (h : i ∈ Region.ready .any ops listed) : listed.getD i true = false ∧ ∃ o, ops[i]? = some o ∧ ∀ e ∈ o.after, Region.binds .any e = true → listed.getD e.on false = true := by
  unfold Region.ready at h
  rw [List.mem_filter] at h
  obtain ⟨h1, h2⟩ := h
  simp only [Bool.and_eq_true, Bool.not_eq_true'] at h2
  refine ⟨h2.1, ?_⟩
  cases ho : ops[i]? with
  | none => rw [ho] at h2; simp at h2
  | some o =>
    rw [ho] at h2
    refine ⟨o, rfl, fun e he hb => ?_⟩
    have := h2.2
    simp only [Option.map_some, Option.getD_some] at this
    rw [Array.all_eq_true_iff_forall_mem] at this
    have := this e he
    rw [hb] at this
    simpa using this
theorem mem_ready_of {ops : Array Oper} {listed : Array Bool} {i : Nat} {o : Oper} (h0 : listed.getD i true = false) (ho : ops[i]? = some o) (h : ∀ e ∈ o.after, Region.binds .any e = true → listed.getD e.on false = true) : i ∈ Region.ready .any ops listed := by
  unfold Region.ready
  rw [List.mem_filter]
  refine ⟨List.mem_range.2 (Array.getElem?_eq_some_iff.1 ho).1, ?_⟩
  rw [h0, ho]
  simp only [Bool.not_false, Bool.true_and, Option.map_some, Option.getD_some]
  rw [Array.all_eq_true_iff_forall_mem]
  intro e he
  cases hb : Region.binds .any e with
  | false => simp
  | true => rw [h e he hb]; simp
theorem getD_set_self {l : Array Bool} {i : Nat} (h : i < l.size) (b : Bool) : (l.setIfInBounds i true).getD i b = true := by
  simp [Array.getD, h]
theorem getD_set_other {l : Array Bool} {i j : Nat} (h : j ≠ i) (b : Bool) : (l.setIfInBounds i true).getD j b = l.getD j b := by
  rw [Array.getD_eq_getD_getElem?, Array.getD_eq_getD_getElem?, Array.getElem?_setIfInBounds_ne (fun e => h e.symm)]
theorem getD_bool {l : Array Bool} {i : Nat} (h : i < l.size) : l.getD i true = l.getD i false := by simp [Array.getD, h]
/-- How many operations have not come up yet. -/
def left (listed : Array Bool) : Nat → Nat
  | 0 => 0
  | m + 1 => left listed m + if listed.getD m true then 0 else 1
theorem left_set {listed : Array Bool} {i : Nat} (hi : i < listed.size) (h : listed.getD i true = false) : ∀ m, left (listed.setIfInBounds i true) m + (if i < m then 1 else 0) = left listed m
  | 0 => by simp [left]
  | m + 1 => by
    have ih := left_set hi h m
    simp only [left]
    by_cases e : m = i
    · subst e
      rw [getD_set_self hi, h]
      rw [if_neg (by omega)] at ih
      simp
      omega
    · rw [getD_set_other e]
      have h5 : (if i < m + 1 then 1 else 0 : Nat) = if i < m then 1 else 0 := by split <;> split <;> omega
      rw [h5]
      omega
theorem left_zero {listed : Array Bool} : ∀ {m : Nat}, left listed m = 0 → ∀ j, j < m → listed.getD j true = true
  | 0, _, j, hj => by omega
  | m + 1, h, j, hj => by
    simp only [left] at h
    by_cases e : j = m
    · subst e
      cases hx : listed.getD j true with
      | true => rfl
      | false => rw [hx] at h; simp at h
    · exact left_zero (m := m) (by omega) j (by omega)
/-- The least operation that has not come up. -/
theorem least_left {listed : Array Bool} : ∀ {m : Nat}, 0 < left listed m → ∃ k, k < m ∧ listed.getD k true = false ∧ ∀ j, j < k → listed.getD j true = true
  | 0, h => by simp [left] at h
  | m + 1, h => by
    rcases Nat.eq_zero_or_pos (left listed m) with e | e
    · refine ⟨m, by omega, ?_, fun j hj => left_zero e j hj⟩
      simp only [left] at h
      cases hx : listed.getD m true with
      | false => rfl
      | true => rw [hx] at h; simp at h; omega
    · obtain ⟨k, h1, h2, h3⟩ := least_left e
      exact ⟨k, by omega, h2, h3⟩
theorem left_none {n : Nat} : ∀ m, m ≤ n → left (Array.replicate n false) m = m
  | 0, _ => rfl
  | m + 1, h => by
    simp only [left]
    rw [left_none m (by omega)]
    simp [Array.getD, show m < n by omega]
theorem crel_ment {D : Nat → Prop} {w : World} {ρ : List Loc} {k u : Nat} : ∀ {c : Cell} {v : Value} (_ : CRel D w ρ c v) (_ : c.ment k u), ∃ l, ρ[k]? = some l ∧ u ≤ l.u
  | .p .., _, h, hm => by obtain ⟨rfl, rfl⟩ := hm; obtain ⟨l, h1, h2, _⟩ := h; exact ⟨l, h1, h2⟩
  | .gs .., _, h, hm => by obtain ⟨rfl, rfl⟩ := hm; obtain ⟨l, h1, h2, _⟩ := h; exact ⟨l, h1, h2⟩
  | .sl .., _, h, hm => by obtain ⟨rfl, rfl⟩ := hm; obtain ⟨l, h1, h2, _⟩ := h; exact ⟨l, h1, h2⟩
  | .cl F n f, _, h, hm => by
    obtain ⟨caps, rfl, _, h2⟩ := h
    obtain ⟨j, hj, hm⟩ := hm
    obtain ⟨u', _, hr⟩ := h2 j hj
    exact crel_ment hr hm
  | .any, _, _, hm => hm.elim
  | .bool _, _, _, hm => hm.elim
  | .int _ _, _, _, hm => hm.elim
  | .nil, _, _, hm => hm.elim
  | .fn _, _, _, hm => hm.elim
  | .str _, _, _, hm => hm.elim
  | .row .., _, _, hm => hm.elim
  | .xp .., _, _, hm => hm.elim
theorem crels_ment {D : Nat → Prop} {w : World} {ρ : List Loc} {k u : Nat} : ∀ {l : List Cell} {vs : List Value}, CRels D w ρ l vs → ∀ c ∈ l, c.ment k u → ∃ l, ρ[k]? = some l ∧ u ≤ l.u
  | [], _, _, c, hc, _ => by simp at hc
  | _ :: _, [], h, _, _, _ => h.elim
  | x :: l, v :: vs, h, c, hc, hm => by
    rcases List.mem_cons.1 hc with e | e
    · subst e; exact crel_ment h.1 hm
    · exact crels_ment h.2 c e hm
theorem vrel_ment {D : Nat → Prop} {w : World} {ρ : List Loc} {k u : Nat} : ∀ {x : V} {v : Value}, VRel D w ρ x v → x.ment k u → ∃ l, ρ[k]? = some l ∧ u ≤ l.u
  | .c _, _, h, hm => crel_ment h hm
  | .g _, _, h, hm => by obtain ⟨vs, _, h2⟩ := h; obtain ⟨c, h3, h4⟩ := hm; exact crels_ment h2 c h3 h4
  | .t2 _ _, _, h, hm => by
    obtain ⟨x, y, _, h1, h2⟩ := h
    rcases hm with hm | hm
    · exact vrel_ment h1 hm
    · exact vrel_ment h2 hm
  | .t3 _ _ _, _, h, hm => by
    obtain ⟨x, y, z, _, h1, h2, h3⟩ := h
    rcases hm with hm | hm | hm
    · exact vrel_ment h1 hm
    · exact vrel_ment h2 hm
    · exact vrel_ment h3 hm
  | .t4 _ _ _ _, _, h, hm => by
    obtain ⟨x, y, z, u, _, h1, h2, h3, h4⟩ := h
    rcases hm with hm | hm | hm | hm
    · exact vrel_ment h1 hm
    · exact vrel_ment h2 hm
    · exact vrel_ment h3 hm
    · exact vrel_ment h4 hm
/-- Places kept: one for each operation up to the last that makes a block. -/
def freshN : List Oper → Nat
  | [] => 0
  | o :: l => match freshN l with
    | 0 => if isFresh o.op then 1 else 0
    | n + 1 => n + 2
theorem freshN_le : ∀ l : List Oper, freshN l ≤ l.length
  | [] => Nat.le_refl _
  | o :: l => by
    have := freshN_le l
    simp only [freshN]
    split
    · split <;> simp
    · simp; omega
theorem freshN_lt : ∀ (l : List Oper) (i : Nat) (o : Oper), l[i]? = some o → isFresh o.op = true → i < freshN l
  | [], i, o, h, _ => by simp at h
  | x :: l, 0, o, h, hf => by
    simp at h; subst h
    simp only [freshN]
    split
    · rw [if_pos hf]; omega
    · omega
  | x :: l, i + 1, o, h, hf => by
    have := freshN_lt l i o (by simpa using h) hf
    simp only [freshN]
    split
    · omega
    · omega
theorem oper_look {P : Program} {r : Bool} {ops : Array Oper} {o : Oper} {σ : St} {fr : Nat} {v : V} {ub : Option (Nat × Blk)} (h : OpRes P r ops o σ fr v ub) {k : Nat} {B : Blk} (hu : ub = some (k, B)) : (isFresh o.op = true ∧ k = fr ∧ B.u = 1) ∨ (True ∧ isWr o.op = true ∧ ∃ u x, x ∈ o.op.operands ∧ (σ.ev x).ment k u ∧ ∃ B0, σ.bl[k]? = some B0 ∧ B0.st = 0 ∧ B0.u = u ∧ B0.u ≤ B.u ∧ B.st = 0) := by
  have key : SubOK o σ fr ub → (isFresh o.op = true ∧ k = fr ∧ B.u = 1) ∨ (True ∧ isWr o.op = true ∧ ∃ u x, x ∈ o.op.operands ∧ (σ.ev x).ment k u ∧ ∃ B0, σ.bl[k]? = some B0 ∧ B0.st = 0 ∧ B0.u = u ∧ B0.u ≤ B.u ∧ B.st = 0) := by
    rintro (h | ⟨hf, B', e, e1⟩ | ⟨hw, k', B', u, x, e, e1, e2, B0, e3⟩)
    · rw [h] at hu; cases hu
    · rw [e] at hu; cases hu; exact .inl ⟨hf, rfl, e1⟩
    · rw [e] at hu; cases hu
      exact .inr ⟨trivial, hw, u, x, e1, e2, B0, e3⟩
  unfold OpRes at h
  split at h
  · exact key h.1
  · obtain ⟨d, b, _, h | h⟩ := h
    · exact key h.2.1
    · rw [h.2.2] at hu; cases hu
section Text
variable {P : Program} {r : Bool} {ops : Array Oper} {n0 m : Nat} {sts : Nat → St} {vs : Nat → V} {ub : Nat → Option (Nat × Blk)}
theorem Chain.len (hc : Chain P r ops n0 ops.toList 0 sts vs ub) : ∀ i, i ≤ ops.size → (sts i).bl.length = (sts 0).bl.length
  | 0, _ => rfl
  | i + 1, h => by rw [hc.bl i (by simp; omega), setO_length, Chain.len hc i (by omega)]
theorem Chain.ph (hc : Chain P r ops n0 ops.toList 0 sts vs ub) (h0 : ∀ j, j < m → (sts 0).bl[n0 + j]? = some phB) : ∀ i, i ≤ ops.size → ∀ j, i ≤ j → j < m → (sts i).bl[n0 + j]? = some phB
  | 0, _, j, _, hj => h0 j hj
  | i + 1, h, j, hij, hj => by
    have ih := Chain.ph hc h0 i (by omega) j (by omega) hj
    rw [hc.bl i (by simp; omega)]
    cases hu : ub i with
    | none => exact ih
    | some p =>
      obtain ⟨k, B⟩ := p
      have ho : ops.toList[i]? = some ops[i] := by simp [show i < ops.size by omega]
      have hne : k ≠ n0 + j := by
        intro e
        rcases oper_look (hc.res i _ ho) hu with ⟨_, h2, _⟩ | ⟨_, _, u, x, _, _, B0, h3, h4, _⟩
        · omega
        · rw [e, ih] at h3; cases h3; simp [phB] at h4
      simp only [setO]
      rw [List.getElem?_set_ne hne]; exact ih
theorem Chain.ver (hc : Chain P r ops n0 ops.toList 0 sts vs ub) (h0 : ∀ j, j < m → (sts 0).bl[n0 + j]? = some phB) : ∀ i, i ≤ ops.size → ∀ j B, j < m → (sts i).bl[n0 + j]? = some B → B.st ≤ 1 → 1 ≤ B.u
  | 0, _, j, B, hj, hB, hst => by rw [h0 j hj] at hB; cases hB; simp [phB] at hst
  | i + 1, h, j, B, hj, hB, hst => by
    have ih := Chain.ver hc h0 i (by omega) j
    rw [hc.bl i (by simp; omega)] at hB
    cases hu : ub i with
    | none => rw [hu] at hB; exact ih B hj hB hst
    | some p =>
      obtain ⟨k, B'⟩ := p
      have ho : ops.toList[i]? = some ops[i] := by simp [show i < ops.size by omega]
      rw [hu] at hB
      simp only [setO] at hB
      by_cases e : k = n0 + j
      · rcases oper_look (hc.res i _ ho) hu with ⟨_, _, h2⟩ | ⟨_, _, u, x, _, _, B0, h3, h4, h5, h6, _⟩
        · rw [e] at hB
          have hl : n0 + j < (sts i).bl.length := by
            have := (List.getElem?_eq_some_iff.1 hB).1
            simpa using this
          rw [List.getElem?_set_self hl] at hB
          cases hB; exact Nat.le_of_eq h2.symm
        · rw [e] at hB h3
          rw [List.getElem?_set_self (List.getElem?_eq_some_iff.1 h3).1] at hB
          cases hB
          exact Nat.le_trans (ih B0 hj h3 (by omega)) h6
      · rw [List.getElem?_set_ne e] at hB; exact ih B hj hB hst
theorem Chain.out (hc : Chain P r ops n0 ops.toList 0 sts vs ub) {t : Nat} : ∀ i, i ≤ ops.size → (∀ (j : Nat) (oj : Oper), j < i → ops[j]? = some oj → oj.dst ≠ some t) → (sts i).tm t = (sts 0).tm t
  | 0, _, _ => rfl
  | i + 1, h, hn => by
    have ho : ops.toList[i]? = some ops[i] := by simp [show i < ops.size by omega]
    rw [hc.tm i _ ho t, if_neg (hn i _ (by omega) (by simp [show i < ops.size by omega]))]
    exact Chain.out hc i (by omega) fun j oj hj => hn j oj (by omega)
theorem Chain.done (hc : Chain P r ops n0 ops.toList 0 sts vs ub) (hok : DrawOK ops) {t j : Nat} {oj : Oper} (hoj : ops[j]? = some oj) (hd : oj.dst = some t) : ∀ i, i ≤ ops.size → j < i → (sts i).tm t = vs j
  | 0, _, h => by omega
  | i + 1, h, hj => by
    have ho' : ops[i]? = some ops[i] := by simp [show i < ops.size by omega]
    have ho : ops.toList[i]? = some ops[i] := by simp [show i < ops.size by omega]
    rw [hc.tm i _ ho t]
    by_cases e : j = i
    · subst e
      rw [ho'] at hoj; cases hoj
      rw [if_pos hd]
    · rw [if_neg fun h' => hok.own j i oj _ hoj ho' (fun x => e x.symm) t hd h']
      exact Chain.done hc hok hoj hd i (by omega) (by omega)
theorem Chain.still (hc : Chain P r ops n0 ops.toList 0 sts vs ub) {k : Nat} : ∀ M i, i ≤ M → M ≤ ops.size → (∀ j B, i ≤ j → j < M → ub j ≠ some (k, B)) → (sts M).bl[k]? = (sts i).bl[k]?
  | 0, i, h, _, _ => by rw [show i = 0 by omega]
  | M + 1, i, h, hM, hn => by
    rcases Nat.lt_or_ge M i with h1 | h1
    · rw [show i = M + 1 by omega]
    · rw [← Chain.still hc M i h1 (by omega) fun j B h2 h3 => hn j B h2 (by omega), hc.bl M (by simp; omega)]
      cases hu : ub M with
      | none => rfl
      | some p =>
        obtain ⟨k', B⟩ := p
        have : k' ≠ k := fun e => hn M B h1 (by omega) (by rw [hu, e])
        simp only [setO]
        rw [List.getElem?_set_ne this]
theorem Chain.slot (hc : Chain P r ops n0 ops.toList 0 sts vs ub) {t i : Nat} (hs : slotB ops i (.tmp t) = true) : ∀ j, i ≤ j → j ≤ ops.size → (sts j).tm t = (sts i).tm t
  | 0, h, _ => by rw [show i = 0 by omega]
  | j + 1, h, hj => by
    rcases Nat.lt_or_ge j i with h1 | h1
    · rw [show i = j + 1 by omega]
    · have ho : ops.toList[j]? = some ops[j] := by simp [show j < ops.size by omega]
      have hd : ops[j].dst ≠ some t := by
        have hmem : ops[j] ∈ ops.toList.drop i := List.mem_iff_getElem?.2 ⟨j - i, by rw [List.getElem?_drop, show i + (j - i) = j by omega, ho]⟩
        have := List.all_eq_true.1 hs _ hmem
        intro e
        rw [e] at this
        simp at this
      rw [hc.tm j _ ho t, if_neg hd]
      exact Chain.slot hc hs j h1 (by omega)
/-- What a write need not wait for does not name the block that it writes. -/
theorem Chain.no_late (hc : Chain P r ops n0 ops.toList 0 sts vs ub) {i j k : Nat} {o oj : Oper} {B : Blk} (ho : ops[i]? = some o) (hoj : ops[j]? = some oj) (hij : i < j) (hl : lateE ops oj i = true) (hw : isWr oj.op = true) (hn : (needB o.op || isWr o.op) = true) (hu : ub j = some (k, B)) : ∀ x ∈ o.op.operands, ∀ u, ¬ ((sts i).ev x).ment k u := by
  intro x hx u hm
  have hj : j < ops.size := (Array.getElem?_eq_some_iff.1 hoj).1
  have h := hc.late j oj (by simpa using hoj)
  unfold lateB at h
  rw [hw, hu] at h
  unfold lateE at hl
  simp only [Bool.and_eq_true, Bool.not_eq_true'] at hl
  obtain ⟨e, he, he2⟩ := List.any_eq_true.1 hl.1
  simp only [Bool.and_eq_true, Bool.not_eq_true', beq_iff_eq] at he2
  have h1 := List.all_eq_true.1 h e he
  rw [he2.1, he2.2, hl.2, ho] at h1
  simp only [Bool.false_or, Bool.or_false, hn, Bool.not_true] at h1
  have h2 := List.all_eq_true.1 h1 x (Array.mem_toList_iff.2 hx)
  simp only [Bool.and_eq_true, Bool.not_eq_true'] at h2
  have hev : (sts j).ev x = (sts i).ev x := by
    cases x with
    | tmp t => exact Chain.slot hc h2.2 j (by omega) (by omega)
    | const c => rfl
    | func f => rfl
    | global g => rfl
  rw [hev, V.mentB_of hm] at h2
  cases h2.1
end Text
/-- Midway through a region: what has come up so far. -/
structure At2 (C : Ctx) (ops : Array Oper) (n0 m : Nat) (sts : Nat → St) (vs : Nat → V) (ub : Nat → Option (Nat × Blk)) (ρ : List Loc) (bl : List Blk) (listed : Array Bool) (a : Act) (w : World) : Prop where
  sat : Sat C.D0 C.w0 C.r ρ bl w
  tmps : C.N ≤ a.tmps.size ∧ LocsLe C.ρ0 ρ
  defers : a.defers = []
  len : bl.length = (sts 0).bl.length
  closed : ClosedS ops.toList fun i => listed.getD i false = true
  out : ∀ t : Nat, (∀ (j : Nat) (oj : Oper), listed.getD j false = true → ops[j]? = some oj → oj.dst ≠ some t) → VRel (Dof C.D0 ρ bl) w ρ ((sts 0).tm t) (a.tmps.getD t undef)
  done : ∀ (j : Nat) (oj : Oper), listed.getD j false = true → ops[j]? = some oj → ∀ t, oj.dst = some t → VRel (Dof C.D0 ρ bl) w ρ (vs j) (a.tmps.getD t undef)
  ph : ∀ j, j < m → j < ops.size → listed.getD j false = false → ∃ l B, ρ[n0 + j]? = some l ∧ l.u = 0 ∧ bl[n0 + j]? = some B ∧ B.st = 2 ∧ l = phL
  wf : ∀ j f B, listed.getD j false = true → j < ops.size → ub j = some (n0 + f, B) → f < m → f < ops.size → listed.getD f false = true
  blk : ∀ M k, M ≤ ops.size → (∀ j B, j < ops.size → ub j = some (k, B) → (listed.getD j false = true ↔ j < M)) → bl[k]? = (sts M).bl[k]?

set_option maxHeartbeats 1000000 in
/-- A region in any order comes to what its text comes to. -/
theorem any_sound {P : Program} {C : Ctx} {ops : Array Oper} {n0 m : Nat} {sts : Nat → St} {vs : Nat → V} {ub : Nat → Option (Nat × Blk)} {Q : Exit → Act → World → Prop} (hok : DrawOK ops) (hc : Chain P C.r ops n0 ops.toList 0 sts vs ub) (h0 : ∀ j, j < m → (sts 0).bl[n0 + j]? = some phB) (hm : ∀ (i : Nat) (o : Oper), ops[i]? = some o → isFresh o.op = true → i < m)
    (hdst : ∀ o ∈ ops.toList, dstOK C.N o.dst) (hQ : ∀ a w, Rel C (sts ops.size) a w → Q .normal a w) :
    ∀ (n : Nat) (listed : Array Bool) (ρ : List Loc) (bl : List Blk) (a : Act) (w : World), n = left listed ops.size → listed.size = ops.size → At2 C ops n0 m sts vs ub ρ bl listed a w → wpAny P .any ops Q n listed a w := by
  intro n
  induction n with
  | zero =>
    intro listed ρ bl a w hn hs hat
    have hall : ∀ j, j < ops.size → listed.getD j false = true := fun j hj => by
      rw [← getD_bool (by omega)]; exact left_zero hn.symm j hj
    refine ⟨?_, hQ a w ?_⟩
    · rw [List.eq_nil_iff_forall_not_mem]
      intro i hi
      obtain ⟨g1, o, g2, _⟩ := ready_mem hi
      have hi' : i < ops.size := (Array.getElem?_eq_some_iff.1 g2).1
      rw [getD_bool (by omega), hall i hi'] at g1
      cases g1
    · have hbl : bl = (sts ops.size).bl := List.ext_getElem? fun k => hat.blk ops.size k (Nat.le_refl _) fun j B hj _ => ⟨fun _ => hj, fun _ => hall j hj⟩
      refine ⟨ρ, by rw [← hbl]; exact hat.sat, hat.tmps, hat.defers, fun t => ?_⟩
      rw [← hbl]
      by_cases hex : ∃ (j : Nat) (oj : Oper), ops[j]? = some oj ∧ oj.dst = some t
      · obtain ⟨j, oj, hoj, hd⟩ := hex
        have hj : j < ops.size := (Array.getElem?_eq_some_iff.1 hoj).1
        rw [hc.done hok hoj hd _ (Nat.le_refl _) hj]
        exact hat.done j oj (hall j hj) hoj t hd
      · have hne : ∀ (j : Nat) (oj : Oper), ops[j]? = some oj → oj.dst ≠ some t := fun j oj h1 h2 => hex ⟨j, oj, h1, h2⟩
        rw [hc.out _ (Nat.le_refl _) fun j oj _ => hne j oj]
        exact hat.out t fun j oj _ => hne j oj
  | succ n ih =>
    intro listed ρ bl a w hn hs hat
    obtain ⟨k0, hk1, hk2, hk3⟩ := least_left (listed := listed) (m := ops.size) (by omega)
    have hr : k0 ∈ Region.ready .any ops listed := mem_ready_of hk2 (Array.getElem?_eq_getElem hk1) fun e he hb => by
      have h1 := hok.down k0 _ (Array.getElem?_eq_getElem hk1) e he hb
      have h2 := hk3 _ h1
      rw [getD_bool (by omega)] at h2
      exact h2
    refine ⟨fun e => (by rw [e] at hr; cases hr), fun i hir => ?_⟩
    obtain ⟨g1, o, g2, g3⟩ := ready_mem hir
    have hisz : i < ops.size := (Array.getElem?_eq_some_iff.1 g2).1
    have hil : i < listed.size := by omega
    have g1' : listed.getD i false = false := by rw [← getD_bool hil]; exact g1
    have g2' : ops.toList[i]? = some o := by simpa using g2
    have hres := hc.res i o g2'
    rw [Nat.zero_add] at hres
    -- what waits and what is waited for
    have hcl : ∀ j ∈ (clTab ops.toList).getD i [], listed.getD j false = true := clTab_closed _ ops.toList hat.closed i o g2' g3
    have hcl2 : ∀ (j : Nat) (oj : Oper), ops[j]? = some oj → listed.getD j false = true → ∀ x ∈ (clTab ops.toList).getD j [], listed.getD x false = true := fun j oj hoj hl =>
      clTab_closed _ ops.toList hat.closed j oj (by simpa using hoj) fun e he hb => hat.closed j oj (by simpa using hoj) hl e he hb
    have hlook : ∀ t ∈ o.looksAt ops, VRel (Dof C.D0 ρ bl) w ρ ((sts i).tm t) (a.tmps.getD t undef) := by
      intro t hlt
      by_cases hex : ∃ (j : Nat) (oj : Oper), ops[j]? = some oj ∧ oj.dst = some t
      · obtain ⟨j, oj, hoj, hd⟩ := hex
        have uniq : ∀ (j' : Nat) (oj' : Oper), ops[j']? = some oj' → oj'.dst = some t → j' = j := by
          intro j' oj' h1 h2
          rcases Nat.decEq j' j with e | e
          · exact absurd h2 (hok.own j j' oj oj' hoj h1 e t hd)
          · exact e
        by_cases hji : j = i
        · rw [hc.out i (by omega) fun j' oj' hj' h1 h2 => by have := uniq j' oj' h1 h2; omega]
          exact hat.out t fun j' oj' hl h1 h2 => by
            rw [uniq j' oj' h1 h2, hji, g1'] at hl; cases hl
        · rcases hok.looks i j o oj g2 hoj hji t hd hlt with ⟨h1, h2⟩ | ⟨h1, h2⟩
          · rw [hc.done hok hoj hd i (by omega) h1]
            exact hat.done j oj (hcl j h2) hoj t hd
          · rw [hc.out i (by omega) fun j' oj' hj' h3 h4 => by have := uniq j' oj' h3 h4; omega]
            refine hat.out t fun j' oj' hl h3 h4 => ?_
            rw [uniq j' oj' h3 h4] at hl
            have := hcl2 j oj hoj hl i h2
            rw [g1'] at this; cases this
      · have hne : ∀ (j : Nat) (oj : Oper), ops[j]? = some oj → oj.dst ≠ some t := fun j oj h1 h2 => hex ⟨j, oj, h1, h2⟩
        rw [hc.out i (by omega) fun j oj _ => hne j oj]
        exact hat.out t fun j oj _ => hne j oj
    have hops : ∀ x ∈ o.op.operands, VRel (Dof C.D0 ρ bl) w ρ ((sts i).ev x) (a.eval x) := by
      intro x hx
      cases x with
      | tmp t => exact hlook t (by unfold Oper.looksAt; rw [List.mem_append]; left; rw [List.mem_filterMap]; exact ⟨.tmp t, Array.mem_toList_iff.2 hx, rfl⟩)
      | const c => exact cellOf_rel _ _ _ c
      | func f => rfl
      | global g => trivial
    -- which places are written by operations that came up
    have hment : ∀ f u x, f < m → f < ops.size → x ∈ o.op.operands → ((sts i).ev x).ment (n0 + f) u → 1 ≤ u → listed.getD f false = true := by
      intro f u x hf hf' hx hmt hu
      cases hl : listed.getD f false with
      | true => rfl
      | false =>
        obtain ⟨l, B, q1, q2, _⟩ := hat.ph f hf hf' hl
        obtain ⟨l', q3, q4⟩ := vrel_ment (hops x hx) hmt
        rw [q1] at q3; cases q3; omega
    have hag : Agree o (sts i) bl := by
      intro hnb x hx k u hmt B hB hst hBu
      rw [hat.blk i k (by omega) ?_]
      · exact hB
      intro j Bj hj hu
      have hoj : ops[j]? = some ops[j] := Array.getElem?_eq_getElem hj
      have hresj := hc.res j ops[j] (by simp [hj])
      rw [Nat.zero_add] at hresj
      rcases oper_look hresj hu with ⟨h1, h2, _⟩ | ⟨_, h1, _⟩
      · subst h2
        have hjm := hm j _ hoj h1
        rcases Nat.lt_or_ge j i with hji | hji
        · refine ⟨fun _ => hji, fun _ => hment j u x hjm hj hx hmt ?_⟩
          have := hc.ver h0 i (by omega) j B hjm hB hst
          omega
        · have := hc.ph h0 i (by omega) j hji hjm
          rw [this] at hB; cases hB; simp [phB] at hst
      · rcases Nat.decEq j i with e | e
        · rcases hok.wrs i j o _ g2 hoj e h1 (by rw [hnb]; rfl) with ⟨h3, h4⟩ | ⟨h3, h4 | h4⟩
          · exact ⟨fun _ => h3, fun _ => hcl j h4⟩
          · refine ⟨fun hl => ?_, fun h => by omega⟩
            have := hcl2 j _ hoj hl i h4
            rw [g1'] at this; cases this
          · exact absurd hmt (hc.no_late g2 hoj h3 h4 h1 (by rw [hnb]; rfl) hu x hx u)
        · subst e; exact ⟨fun hl => absurd hl (by rw [g1']; simp), fun h => by omega⟩
    have hfr : isFresh o.op = true → ∃ l B, ρ[n0 + i]? = some l ∧ l.u = 0 ∧ bl[n0 + i]? = some B ∧ B.st = 2 ∧ l = phL := fun hf => hat.ph i (hm i o g2 hf) hisz g1'
    have hN := hat.tmps.1
    have hdo : dstOK C.N o.dst := hdst o (by rw [Array.mem_toList_iff]; exact Array.mem_of_getElem? g2)
    -- the state behind the operation
    have after : ∀ (x : Value) (w' : World) (ρ' : List Loc), Sat C.D0 C.w0 C.r ρ' (setO bl (ub i)) w' → Ext (Dof C.D0 ρ bl) w w' → (∀ b, b < w.heap.size → Dof C.D0 ρ' (setO bl (ub i)) b → Dof C.D0 ρ bl b) → LocsLe ρ ρ' → (∀ k, (∀ B, ub i ≠ some (k, B)) → ρ'[k]? = ρ[k]?) → VRel (Dof C.D0 ρ' (setO bl (ub i))) w' ρ' (vs i) x → wpAny P .any ops Q n (listed.setIfInBounds i true) (a.put o.dst x) w' := by
      intro x w' ρ' hsat hext hdof hle hsame hx
      have hget : ∀ t : Nat, o.dst ≠ some t → (a.put o.dst x).tmps.getD t undef = a.tmps.getD t undef := by
        intro t hne
        cases hd : o.dst with
        | none => rfl
        | some d =>
          rw [hd] at hne
          simp only [Act.put]
          rw [Array.getD_eq_getD_getElem?, Array.getD_eq_getD_getElem?, Array.getElem?_setIfInBounds_ne (fun e => hne (by rw [e]))]
      have hlen : (a.put o.dst x).tmps.size = a.tmps.size := by cases o.dst <;> simp [Act.put]
      have hl' : ∀ j, (listed.setIfInBounds i true).getD j false = true ↔ (j = i ∨ listed.getD j false = true) := by
        intro j
        by_cases e : j = i
        · subst e; rw [getD_set_self hil]; simp
        · rw [getD_set_other e]; simp [e]
      have hm' := left_set hil g1 ops.size
      rw [if_pos hisz] at hm'
      have hlb := hc.len i (by omega)
      refine ih _ ρ' (setO bl (ub i)) _ _ (by omega) (by simpa using hs) ⟨hsat, ⟨by omega, hat.tmps.2.trans hle⟩, by cases o.dst <;> exact hat.defers, by rw [setO_length]; exact hat.len, ?_, fun t hne => ?_, fun j oj hl hoj t hd => ?_, fun j hj hj' hl => ?_, fun j f B hl hj hu hf hf' => ?_, fun M k hM hcond => ?_⟩
      · intro j oj hoj hl e he hb
        rw [hl'] at hl ⊢
        rcases hl with e1 | hl
        · subst e1
          rw [g2'] at hoj; cases hoj
          exact .inr (g3 e he hb)
        · exact .inr (hat.closed j oj hoj hl e he hb)
      · rw [hget t (hne i o (by rw [hl']; exact .inl rfl) g2)]
        exact (hat.out t fun j oj hl hoj => hne j oj (by rw [hl']; exact .inr hl) hoj).step hext hdof hle
      · rw [hl'] at hl
        by_cases e : j = i
        · subst e
          rw [g2] at hoj; cases hoj
          rw [hd]
          have hlt : t < a.tmps.size := Nat.lt_of_lt_of_le (hdo t hd) hN
          simp only [Act.put]
          rw [show (a.tmps.setIfInBounds t x).getD t undef = x by simp [Array.getD, hlt]]
          exact hx
        · have hl := hl.resolve_left e
          rw [hget t fun e' => hok.own i j o oj g2 hoj e t e' hd]
          exact (hat.done j oj hl hoj t hd).step hext hdof hle
      · have hjl : listed.getD j false = false ∧ j ≠ i := by
          by_cases e : j = i
          · subst e; rw [getD_set_self hil] at hl; cases hl
          · rw [getD_set_other e] at hl; exact ⟨hl, e⟩
        obtain ⟨l, B, q1, q2, q3, q4⟩ := hat.ph j hj hj' hjl.1
        have hnk : ∀ B', ub i ≠ some (n0 + j, B') := by
          intro B' hu
          rcases oper_look hres hu with ⟨_, h2, _⟩ | ⟨_, _, u, x', h3, h4, B0, h5, h6, h7, _⟩
          · have := hjl.2; omega
          · have hv := hc.ver h0 i (by omega) j B0 hj h5 (by omega)
            have := hment j u x' hj hj' h3 h4 (by omega)
            rw [hjl.1] at this; cases this
        refine ⟨l, B, by rw [hsame _ hnk]; exact q1, q2, ?_, q4⟩
        cases hu : ub i with
        | none => exact q3
        | some p =>
          obtain ⟨k', B'⟩ := p
          simp only [setO]
          rw [List.getElem?_set_ne (fun e => hnk B' (by rw [hu, e]))]
          exact q3
      · rw [hl'] at hl ⊢
        rcases hl with e | hl
        · subst e
          rcases oper_look hres hu with ⟨_, h2, _⟩ | ⟨_, _, u, x', h3, h4, B0, h5, h6, h7, _⟩
          · left; omega
          · have hv := hc.ver h0 j (by omega) f B0 hf h5 (by omega)
            exact .inr (hment f u x' hf hf' h3 h4 (by omega))
        · exact .inr (hat.wf j f B hl hj hu hf hf')
      · cases hu : ub i with
        | none =>
          simp only [setO]
          refine hat.blk M k hM fun j B hj hju => ?_
          have hji : j ≠ i := by intro e; rw [e, hu] at hju; cases hju
          have := hcond j B hj hju
          rw [hl'] at this
          rw [← this]; simp [hji]
        | some p =>
          obtain ⟨k', B'⟩ := p
          simp only [setO]
          by_cases e : k' = k
          · subst e
            have hiM : i < M := (hcond i B' hisz hu).1 (by rw [hl']; exact .inl rfl)
            have hkl : k' < bl.length := by
              rw [hat.len, ← hlb]
              rcases oper_look hres hu with ⟨h1, h2, _⟩ | ⟨_, _, u, x', _, _, B0, h5, _⟩
              · rw [h2]
                exact (List.getElem?_eq_some_iff.1 (hc.ph h0 i (by omega) i (Nat.le_refl _) (hm i o g2 h1))).1
              · exact (List.getElem?_eq_some_iff.1 h5).1
            rw [List.getElem?_set_self hkl]
            rw [hc.still M (i + 1) hiM hM ?_]
            · rw [hc.bl i (by simp; omega), hu]
              simp only [setO]
              rw [List.getElem?_set_self (by rw [hlb, ← hat.len]; exact hkl)]
            · intro j B hij hjM hju
              have hj : j < ops.size := by omega
              have hjl : listed.getD j false = true := by
                have := (hcond j B hj hju).2 hjM
                rw [hl'] at this
                exact this.resolve_left (by omega)
              have hoj : ops[j]? = some ops[j] := Array.getElem?_eq_getElem hj
              have hresj := hc.res j ops[j] (by simp [hj])
              rw [Nat.zero_add] at hresj
              have hwj : isWr ops[j].op = true := by
                rcases oper_look hresj hju with ⟨h1, h2, _⟩ | ⟨_, h1, _⟩
                · exfalso
                  have hjm := hm j _ hoj h1
                  rcases oper_look hres hu with ⟨_, h3, _⟩ | ⟨_, _, u, x', _, _, B0, h5, h6, _⟩
                  · omega
                  · rw [h2, hc.ph h0 i (by omega) j (by omega) hjm] at h5
                    cases h5; simp [phB] at h6
                · exact h1
              rcases oper_look hres hu with ⟨h1, h2, _⟩ | ⟨_, h1, u, x', hx', hmt, _⟩
              · have him := hm i o g2 h1
                have := hat.wf j i B hjl hj (by rw [hju, h2]) him hisz
                rw [g1'] at this; cases this
              · rcases hok.wrs i j o _ g2 hoj (by omega) hwj (by rw [h1]; simp) with ⟨h3, _⟩ | ⟨h3, h4 | h4⟩
                · omega
                · have := hcl2 j _ hoj hjl i h4
                  rw [g1'] at this; cases this
                · exact absurd hmt (hc.no_late g2 hoj h3 h4 hwj (by rw [h1]; simp) hju x' hx' u)
          · rw [List.getElem?_set_ne e]
            refine hat.blk M k hM fun j B hj hju => ?_
            have hji : j ≠ i := by intro e'; rw [e', hu] at hju; cases hju; exact e rfl
            have := hcond j B hj hju
            rw [hl'] at this
            rw [← this]; simp [hji]
    unfold wpOp
    rw [g2]
    simp only
    have run : (∀ D0 w0, Steps2 P D0 w0 C.r o (sts i) (n0 + i) (vs i) (ub i)) → o.wp P a w (wpAny P .any ops Q n (listed.setIfInBounds i true)) Q := by
      intro hst
      exact hst C.D0 C.w0 ρ bl a w hat.sat hag hfr hops _ _ after
    unfold OpRes at hres
    split at hres
    · rename_i hg
      rw [if_pos (by simp [Region.wanted, hg])]
      exact .inl (run hres.2)
    · rename_i g want hg
      obtain ⟨d, b, hgv, hcase⟩ := hres
      obtain ⟨hy, hv', _, _⟩ := guard_val (a := a) (w := w) hgv (fun d hd => ⟨_, ρ, hlook d (by unfold Oper.looksAt; rw [List.mem_append]; right; rw [hg]; simp only; rw [hd]; simp)⟩)
      have hwt : Region.wanted o (yielded ops a.tmps) = (b == want) := by
        unfold Region.wanted
        rw [hg]
        simp only [hy]
        rfl
      rw [hwt]
      rcases hcase with ⟨hb, _, hst⟩ | ⟨hb, hv0, hu0⟩
      · rw [if_pos (by simp [hb])]
        exact .inl (run hst)
      · rw [if_neg (by rw [hb]; cases want <;> simp)]
        refine after undef w ρ (by rw [hu0]; exact hat.sat) (Ext.refl _ _) (fun b _ h => by rw [hu0] at h; exact h) (LocsLe.refl _) (fun _ _ => rfl) (by rw [hv0]; trivial)
end Go.Proofs.YtigciplaoikcfaaGreat
