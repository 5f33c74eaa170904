/- Plain facts on lists of digits to base 2^32: their value, carries, and uniqueness without leading zeros. No condition. -/
namespace Dg
def B : Nat := 4294967296
theorem B_eq : B = 4294967296 := rfl
theorem B_pos : 0 < B := by decide
def val : List Nat → Nat
  | [] => 0
  | d :: l => d + B * val l
def ok (l : List Nat) : Prop := ∀ d ∈ l, d < B
theorem ok_nil : ok [] := by intro d h; cases h
theorem ok_cons {d : Nat} {l : List Nat} : ok (d :: l) ↔ d < B ∧ ok l := by
  simp [ok]
theorem ok_append {a b : List Nat} : ok (a ++ b) ↔ ok a ∧ ok b := by
  simp only [ok, List.mem_append]
  exact ⟨fun h => ⟨fun d hd => h d (.inl hd), fun d hd => h d (.inr hd)⟩, fun h d hd => hd.elim (h.1 d) (h.2 d)⟩
theorem ok_get {l : List Nat} (h : ok l) {i : Nat} (hi : i < l.length) : l[i] < B := h _ (List.getElem_mem hi)
theorem ok_getD {l : List Nat} (h : ok l) (i : Nat) : l[i]?.getD 0 < B := by
  cases hi : l[i]? with
  | none => exact B_pos
  | some v => exact h v (List.mem_of_getElem? hi)
theorem ok_take {l : List Nat} (h : ok l) (k : Nat) : ok (l.take k) := fun d hd => h d (List.mem_of_mem_take hd)
theorem ok_drop {l : List Nat} (h : ok l) (k : Nat) : ok (l.drop k) := fun d hd => h d (List.mem_of_mem_drop hd)
theorem ok_set {l : List Nat} (h : ok l) {i d : Nat} (hd : d < B) : ok (l.set i d) := by
  intro x hx
  rcases List.mem_or_eq_of_mem_set hx with h1 | h1
  · exact h x h1
  · exact h1 ▸ hd
theorem ok_replicate (n : Nat) : ok (List.replicate n 0) := by
  intro d hd; rw [List.eq_of_mem_replicate hd]; exact B_pos
theorem val_append (a b : List Nat) : val (a ++ b) = val a + B ^ a.length * val b := by
  induction a with
  | nil => simp [val]
  | cons d l ih => simp only [List.cons_append, val, ih, List.length_cons, Nat.pow_succ]; grind
theorem val_replicate (n : Nat) : val (List.replicate n 0) = 0 := by
  induction n with
  | zero => rfl
  | succ n ih => simp [List.replicate_succ, val, ih]
theorem val_lt {l : List Nat} (h : ok l) : val l < B ^ l.length := by
  induction l with
  | nil => simp [val]
  | cons d l ih =>
    rw [ok_cons] at h
    have := ih h.2
    simp only [val, List.length_cons, Nat.pow_succ]
    have h2 : B * val l + B ≤ B * B ^ l.length := by
      have := Nat.mul_le_mul_left B this
      rw [Nat.mul_succ] at this; exact this
    have := h.1
    rw [Nat.mul_comm (B ^ _)]; omega
theorem val_snoc (l : List Nat) (d : Nat) : val (l ++ [d]) = val l + B ^ l.length * d := by
  rw [val_append]; simp [val]
theorem val_take_succ {l : List Nat} {k : Nat} (h : k < l.length) : val (l.take (k+1)) = val (l.take k) + B ^ k * l[k] := by
  rw [List.take_succ_eq_append_getElem h, val_snoc, List.length_take, Nat.min_eq_left (Nat.le_of_lt h)]
theorem val_take_drop (l : List Nat) {k : Nat} (h : k ≤ l.length) : val l = val (l.take k) + B ^ k * val (l.drop k) := by
  conv => lhs; rw [← List.take_append_drop k l]
  rw [val_append, List.length_take, Nat.min_eq_left h]
theorem val_set {l : List Nat} {i : Nat} (h : i < l.length) (d : Nat) : val (l.set i d) + B ^ i * l[i] = val l + B ^ i * d := by
  induction l generalizing i with
  | nil => simp at h
  | cons x l ih =>
    cases i with
    | zero => simp [val]; omega
    | succ i =>
      have := ih (i := i) (by simpa using h)
      simp only [List.set_cons_succ, val, List.getElem_cons_succ, Nat.pow_succ]
      grind
/-- Without leading zeros. -/
def trimmed (l : List Nat) : Prop := ∀ d, l.getLast? = some d → d ≠ 0
def trim : List Nat → List Nat
  | [] => []
  | d :: l => match trim l with
    | [] => if d = 0 then [] else [d]
    | r => d :: r
theorem val_trim (l : List Nat) : val (trim l) = val l := by
  induction l with
  | nil => rfl
  | cons d l ih =>
    unfold trim
    split
    · rename_i h
      rw [h] at ih
      split
      · rename_i h0; simp [val] at ih ⊢; rw [← ih, h0]; rfl
      · simp [val] at ih ⊢; rw [← ih]; rfl
    · simp only [val]; rw [ih]
theorem trim_trimmed (l : List Nat) : trimmed (trim l) := by
  induction l with
  | nil => intro d h; simp [trim] at h
  | cons d l ih =>
    unfold trim
    split
    · split
      · intro d h; simp at h
      · intro x h; simp at h; omega
    · rename_i r h
      intro x hx
      rw [List.getLast?_cons] at hx
      cases hr : (trim l).getLast? with
      | none => simp at hr; exact absurd hr h
      | some y => rw [hr] at hx; simp at hx; subst hx; exact ih y hr
theorem ok_trim {l : List Nat} (h : ok l) : ok (trim l) := by
  induction l with
  | nil => exact h
  | cons d l ih =>
    rw [ok_cons] at h
    unfold trim
    split
    · split
      · exact ok_nil
      · exact ok_cons.2 ⟨h.1, ok_nil⟩
    · exact ok_cons.2 ⟨h.1, ih h.2⟩
theorem val_eq_zero {l : List Nat} (h : trimmed l) : val l = 0 ↔ l = [] := by
  refine ⟨fun hv => ?_, fun h => by rw [h]; rfl⟩
  cases hl : l.getLast? with
  | none => simpa using hl
  | some d =>
    exfalso
    obtain ⟨m, rfl⟩ := List.getLast?_eq_some_iff.1 hl
    rw [val_snoc] at hv
    have hd := h d hl
    have : 0 < B ^ m.length * d := Nat.mul_pos (Nat.pow_pos B_pos) (by omega)
    omega
theorem trimmed_tail {d : Nat} {l : List Nat} (h : trimmed (d :: l)) : trimmed l := by
  intro x hx
  refine h x ?_
  rw [List.getLast?_cons, hx]; rfl
theorem val_inj {a b : List Nat} (ha : ok a) (hb : ok b) (ta : trimmed a) (tb : trimmed b) (h : val a = val b) : a = b := by
  induction a generalizing b with
  | nil => exact ((val_eq_zero tb).1 h.symm).symm
  | cons d l ih =>
    cases b with
    | nil => exact (val_eq_zero ta).1 h
    | cons e m =>
      rw [ok_cons] at ha hb
      simp only [val] at h
      have h1 : d = e := by
        have := congrArg (· % B) h
        simp only [Nat.add_mul_mod_self_left] at this
        rwa [Nat.mod_eq_of_lt ha.1, Nat.mod_eq_of_lt hb.1] at this
      subst h1
      have h2 : val l = val m := Nat.eq_of_mul_eq_mul_left B_pos (by omega)
      rw [ih ha.2 hb.2 (trimmed_tail ta) (trimmed_tail tb) h2]
theorem trim_of_trimmed {l : List Nat} (ho : ok l) (h : trimmed l) : trim l = l :=
  val_inj (ok_trim ho) ho (trim_trimmed l) h (val_trim l)
/-- The least value with a leading digit that is not 0. -/
theorem pow_le_val {l : List Nat} (h : trimmed l) (hn : l ≠ []) : B ^ (l.length - 1) ≤ val l := by
  cases hl : l.getLast? with
  | none => exact absurd (by simpa using hl) hn
  | some d =>
    obtain ⟨m, rfl⟩ := List.getLast?_eq_some_iff.1 hl
    rw [val_snoc]
    have hd := h d hl
    have h2 : B ^ m.length * 1 ≤ B ^ m.length * d := Nat.mul_le_mul_left _ (by omega)
    simp; omega
theorem val_lt_of_length {a b : List Nat} (ha : ok a) (tb : trimmed b) (h : a.length < b.length) : val a < val b := by
  have h1 := val_lt ha
  have h2 := pow_le_val tb (by intro e; subst e; simp at h)
  have h3 : B ^ a.length ≤ B ^ (b.length - 1) := Nat.pow_le_pow_right B_pos (by omega)
  omega
end Dg
namespace Go.Proofs.YtigciplaoikcfaaGreat
/-- The integer of a sign and digits. -/
def sgn (neg : Bool) (k : Nat) : Int := if neg then -(k : Int) else k
end Go.Proofs.YtigciplaoikcfaaGreat
/- Plain facts on sums, differences, products and quotients of lists of digits, one step of a loop at a time. No condition. -/
namespace Dg
theorem take_set_succ {o : List Nat} {k : Nat} (h : k < o.length) (d : Nat) : (o.set k d).take (k + 1) = o.take k ++ [d] := by
  rw [List.take_succ_eq_append_getElem (by simpa using h), List.take_set_of_le (Nat.le_refl k)]
  simp
theorem val_take_set_succ {o : List Nat} {k : Nat} (h : k < o.length) (d : Nat) : val ((o.set k d).take (k + 1)) = val (o.take k) + B ^ k * d := by
  rw [take_set_succ h, val_snoc, List.length_take, Nat.min_eq_left (Nat.le_of_lt h)]
theorem val_take_succ_getD (l : List Nat) (k : Nat) : val (l.take (k+1)) = val (l.take k) + B ^ k * (l[k]?.getD 0) := by
  by_cases h : k < l.length
  · rw [val_take_succ h]; simp [h]
  · rw [List.take_of_length_le (by omega), List.take_of_length_le (by omega)]; simp [h]
theorem take_all {l : List Nat} {k : Nat} (h : l.length ≤ k) : l.take k = l := List.take_of_length_le h

theorem plus_step {a b o : List Nat} {k c : Nat} (hk : k < o.length) (hI : val (o.take k) + B ^ k * c = val (a.take k) + val (b.take k)) :
    val ((o.set k ((a[k]?.getD 0 + b[k]?.getD 0 + c) % B)).take (k + 1)) + B ^ (k + 1) * ((a[k]?.getD 0 + b[k]?.getD 0 + c) / B) = val (a.take (k + 1)) + val (b.take (k + 1)) := by
  rw [val_take_set_succ hk, val_take_succ_getD, val_take_succ_getD]
  generalize a[k]?.getD 0 = x at *
  generalize b[k]?.getD 0 = y at *
  have h := Nat.div_add_mod (x + y + c) B
  rw [Nat.pow_succ]
  generalize (x + y + c) / B = q at *
  generalize (x + y + c) % B = r at *
  generalize B ^ k = P at *
  grind
theorem plus_carry {x y c : Nat} (hx : x < B) (hy : y < B) (hc : c ≤ 1) : (x + y + c) / B ≤ 1 := by
  rw [B_eq] at *; omega

/-- A difference: what is borrowed stands on the right. -/
theorem less_step {a b o : List Nat} {k c d c' : Nat} (hk : k < o.length) (hI : val (o.take k) + val (b.take k) = val (a.take k) + B ^ k * c)
    (h : d + b[k]?.getD 0 + c = a[k]?.getD 0 + B * c') :
    val ((o.set k d).take (k + 1)) + val (b.take (k + 1)) = val (a.take (k + 1)) + B ^ (k + 1) * c' := by
  rw [val_take_set_succ hk, val_take_succ_getD, val_take_succ_getD, Nat.pow_succ]
  generalize a[k]?.getD 0 = x at *
  generalize b[k]?.getD 0 = y at *
  generalize B ^ k = P at *
  have := congrArg (P * ·) h
  grind

/-- A row of a product: one digit of b. -/
theorem times_step {o : List Nat} {V x y i j c : Nat} (hk : i + j < o.length) (b : List Nat) (hy : b[j]?.getD 0 = y)
    (hI : val o + B ^ (i + j) * c = V + B ^ i * (x * val (b.take j))) :
    val (o.set (i + j) ((x * y + o[i + j]?.getD 0 + c) % B)) + B ^ (i + (j + 1)) * ((x * y + o[i + j]?.getD 0 + c) / B) = V + B ^ i * (x * val (b.take (j + 1))) := by
  have hs := val_set hk ((x * y + o[i + j]?.getD 0 + c) % B)
  rw [val_take_succ_getD, hy]
  have hg : o[i + j]?.getD 0 = o[i + j] := by simp [hk]
  rw [hg] at hs ⊢
  generalize o[i + j] = z at *
  have h := Nat.div_add_mod (x * y + z + c) B
  generalize (x * y + z + c) / B = q at *
  generalize (x * y + z + c) % B = r at *
  generalize val (o.set (i + j) r) = W at *
  generalize val (b.take j) = Y at *
  have e : B ^ (i + (j + 1)) * q = B ^ (i + j) * (B * q) := by rw [← Nat.add_assoc, Nat.pow_succ, Nat.mul_assoc]
  have e3 : B ^ i * (x * (Y + B ^ j * y)) = B ^ i * (x * Y) + B ^ (i + j) * (x * y) := by
    rw [Nat.pow_add, Nat.mul_add, Nat.mul_add]
    congr 1
    ac_rfl
  have e4 : B ^ (i + j) * (B * q) + B ^ (i + j) * r = B ^ (i + j) * (x * y) + B ^ (i + j) * z + B ^ (i + j) * c := by
    rw [← Nat.mul_add, h, Nat.mul_add, Nat.mul_add]
  rw [e, e3]
  generalize B ^ (i + j) * (B * q) = t1 at *
  generalize B ^ (i + j) * r = t2 at *
  generalize B ^ (i + j) * (x * y) = t3 at *
  generalize B ^ (i + j) * z = t4 at *
  generalize B ^ (i + j) * c = t5 at *
  omega
theorem times_bound {x y z c : Nat} (hx : x < B) (hy : y < B) (hz : z < B) (hc : c < B) : x * y + z + c < B * B := by
  have h1 : x * y ≤ (B - 1) * (B - 1) := Nat.mul_le_mul (by omega) (by omega)
  have h2 : (B - 1) * (B - 1) + (B - 1) + (B - 1) < B * B := by simp only [B_eq]; omega
  omega
theorem div_lt_B {t : Nat} (h : t < B * B) : t / B < B := Nat.div_lt_of_lt_mul h

/-- A division by one digit, from the highest digit down. -/
theorem short_step {x d r : Nat} (X Q : Nat) (h : X = Q * d + r) : x + B * X = ((r * B + x) / d + B * Q) * d + (r * B + x) % d := by
  have h1 := Nat.div_add_mod (r * B + x) d
  have e : B * X = B * Q * d + r * B := by rw [h, Nat.mul_add, Nat.mul_assoc, Nat.mul_comm B r]
  rw [Nat.add_mul, Nat.mul_comm _ d, e]
  generalize B * Q * d = t at *
  generalize d * ((r * B + x) / d) = u at *
  generalize r * B = z at *
  omega
theorem short_lt {x d r : Nat} (hx : x < B) (hr : r < d) : (r * B + x) / d < B := by
  apply Nat.div_lt_of_lt_mul
  have : (r + 1) * B ≤ d * B := Nat.mul_le_mul_right B hr
  rw [Nat.add_mul] at this; omega
end Dg
/- Plain facts on the division of lists of digits: the guess at a digit of the quotient, its correction, the subtraction of a multiple. No condition. -/
namespace Dg
theorem mulsub_step {u v o : List Nat} {g k c c' b b' d : Nat} (hk : k < o.length)
    (hI : val (o.take k) + g * val (v.take k) = val (u.take k) + B ^ k * (c + b))
    (ht : g * v[k]?.getD 0 + c = (g * v[k]?.getD 0 + c) % B + B * c')
    (h : d + (g * v[k]?.getD 0 + c) % B + b = u[k]?.getD 0 + B * b') :
    val ((o.set k d).take (k + 1)) + g * val (v.take (k + 1)) = val (u.take (k + 1)) + B ^ (k + 1) * (c' + b') := by
  rw [val_take_set_succ hk, val_take_succ_getD, val_take_succ_getD]
  generalize (g * v[k]?.getD 0 + c) % B = lo at *
  have e : g * (val (v.take k) + B ^ k * v[k]?.getD 0) = g * val (v.take k) + B ^ k * (g * v[k]?.getD 0) := by
    rw [Nat.mul_add]; congr 1; ac_rfl
  have e2 : B ^ (k + 1) * (c' + b') = B ^ k * (B * c') + B ^ k * (B * b') := by
    rw [Nat.pow_succ, Nat.mul_add, Nat.mul_assoc, Nat.mul_assoc]
  have h3 : B ^ k * (g * v[k]?.getD 0) + B ^ k * c = B ^ k * lo + B ^ k * (B * c') := by rw [← Nat.mul_add, ht, Nat.mul_add]
  have h4 : B ^ k * d + B ^ k * lo + B ^ k * b = B ^ k * u[k]?.getD 0 + B ^ k * (B * b') := by rw [← Nat.mul_add, ← Nat.mul_add, h, Nat.mul_add]
  rw [e, e2]
  rw [Nat.mul_add] at hI
  generalize B ^ k * (g * v[k]?.getD 0) = t1 at *
  generalize B ^ k * (B * c') = t2 at *
  generalize B ^ k * (B * b') = t3 at *
  generalize B ^ k * d = t4 at *
  generalize B ^ k * lo = t5 at *
  generalize B ^ k * u[k]?.getD 0 = t6 at *
  generalize B ^ k * c = t7 at *
  generalize B ^ k * b = t8 at *
  omega

/-- U = (top * B + u0) * P + u', V = (v1 * B + v2) * P + v' with u', v' below P. -/
structure Ends (U V P top u0 v1 v2 u' v' : Nat) : Prop where
  hU : U = (top * B + u0) * P + u'
  hV : V = (v1 * B + v2) * P + v'
  hu : u' < P
  hv : v' < P
  hu0 : u0 < B
  hv2 : v2 < B
  hv1 : v1 < B
  norm : B ≤ 2 * v1

theorem guess_down {U V P top u0 v1 v2 u' v' g rest : Nat} (e : Ends U V P top u0 v1 v2 u' v') (hg : g * v1 + rest = top) (hc : rest * B + u0 < g * v2) : U < g * V := by
  have h1 : top * B + u0 + 1 ≤ g * (v1 * B + v2) := by
    have e1 : g * (v1 * B + v2) = g * v1 * B + g * v2 := by rw [Nat.mul_add, Nat.mul_assoc]
    have e2 : top * B = g * v1 * B + rest * B := by rw [← hg, Nat.add_mul]
    omega
  have h2 : (top * B + u0 + 1) * P ≤ g * (v1 * B + v2) * P := Nat.mul_le_mul_right P h1
  have h3 : g * V = g * (v1 * B + v2) * P + g * v' := by rw [e.hV, Nat.mul_add, Nat.mul_assoc]
  have h4 := e.hU
  have h5 := e.hu
  rw [Nat.add_mul, Nat.one_mul] at h2
  omega

theorem guess_stop {U V P top u0 v1 v2 u' v' g rest : Nat} (e : Ends U V P top u0 v1 v2 u' v') (hg : g * v1 + rest = top) (hc : g * v2 ≤ rest * B + u0) (hgB : g < B) (hg1 : 0 < g) :
    (g - 1) * V ≤ U := by
  have h1 : g * (v1 * B + v2) ≤ top * B + u0 := by
    have e1 : g * (v1 * B + v2) = g * v1 * B + g * v2 := by rw [Nat.mul_add, Nat.mul_assoc]
    have e2 : top * B = g * v1 * B + rest * B := by rw [← hg, Nat.add_mul]
    omega
  have h2 : g * (v1 * B + v2) * P ≤ (top * B + u0) * P := Nat.mul_le_mul_right P h1
  have hU := e.hU
  have hV : V ≤ (v1 * B + v2 + 1) * P := by rw [e.hV, Nat.add_mul (_ + _), Nat.one_mul]; have := e.hv; omega
  have h3 : (g - 1) * V ≤ (g - 1) * ((v1 * B + v2 + 1) * P) := Nat.mul_le_mul_left _ hV
  have h4 : (g - 1) * (v1 * B + v2 + 1) ≤ g * (v1 * B + v2) := by
    obtain ⟨k, rfl⟩ : ∃ k, g = k + 1 := ⟨g - 1, by omega⟩
    rw [Nat.add_sub_cancel, Nat.add_mul, Nat.mul_add, Nat.mul_one, Nat.one_mul]
    have : B * 1 ≤ v1 * B := by
      rw [Nat.mul_comm v1]
      refine Nat.mul_le_mul_left B ?_
      have := e.norm
      have hB : 2 ≤ B := by decide
      omega
    omega
  have h5 := Nat.mul_le_mul_right P h4
  rw [Nat.mul_assoc] at h5
  omega

theorem guess_start {U V P top u0 v1 v2 u' v' : Nat} (e : Ends U V P top u0 v1 v2 u' v') (hUV : U < V * B) : U < (top / v1 + 1) * V ∧ top / v1 ≤ B + 1 ∧ top / v1 * v1 + top % v1 = top ∧ top % v1 < v1 := by
  have hv1 : 0 < v1 := by have := e.norm; have := B_pos; omega
  have hm := Nat.div_add_mod top v1
  have hl := Nat.mod_lt top hv1
  rw [Nat.mul_comm] at hm
  refine ⟨?_, ?_, hm, hl⟩
  · have h1 : top < (top / v1 + 1) * v1 := by rw [Nat.add_mul, Nat.one_mul]; omega
    have h2 : (top + 1) * B ≤ (top / v1 + 1) * v1 * B := Nat.mul_le_mul_right B h1
    have h3 : (top * B + u0 + 1) * P ≤ (top / v1 + 1) * v1 * B * P := Nat.mul_le_mul_right P (by rw [Nat.add_mul, Nat.one_mul] at h2; have := e.hu0; omega)
    have h4 : (top / v1 + 1) * v1 * B * P ≤ (top / v1 + 1) * V := by
      rw [Nat.mul_assoc, Nat.mul_assoc]
      refine Nat.mul_le_mul_left _ ?_
      rw [e.hV, ← Nat.mul_assoc, Nat.add_mul (v1 * B)]
      omega
    have hU := e.hU
    have := e.hu
    rw [Nat.add_mul (_ + _), Nat.one_mul] at h3
    omega
  · apply Nat.le_of_lt_succ
    apply Nat.div_lt_of_lt_mul
    -- top * B * P <= U < V * B <= (v1 * B + v2 + 1) * P * B
    have h1 : top * B * P ≤ U := by rw [e.hU, Nat.add_mul (top * B)]; omega
    have hV : V < (v1 * B + v2 + 1) * P := by rw [e.hV, Nat.add_mul (_ + _), Nat.one_mul]; have := e.hv; omega
    have h2 : V * B ≤ (v1 * B + v2 + 1) * P * B := Nat.mul_le_mul_right B (Nat.le_of_lt hV)
    have h3 : top * (B * P) < (v1 * B + v2 + 1) * (B * P) := by
      have e1 : top * (B * P) = top * B * P := by rw [Nat.mul_assoc]
      have e2 : (v1 * B + v2 + 1) * (B * P) = (v1 * B + v2 + 1) * P * B := by ac_rfl
      omega
    have h4 : top < v1 * B + v2 + 1 := Nat.lt_of_mul_lt_mul_right h3
    have := e.hv2
    have := e.norm
    have e5 : v1 * (B + 1 + 1) = v1 * B + 2 * v1 := by rw [Nat.mul_add, Nat.mul_add]; omega
    show top < v1 * (B + 1 + 1)
    omega

/-- Behind the subtraction: without a borrow the guess was right, with one it was too great by one. -/
theorem guess_right {U V W g M : Nat} (h : W + g * V = U) (hU : U < (g + 1) * V) : U / V = g ∧ U % V = W := by
  have hV : W < V := by rw [Nat.add_mul, Nat.one_mul] at hU; omega
  have := M
  subst h
  rw [Nat.add_mul_div_right _ _ (by omega), Nat.div_eq_of_lt hV, Nat.add_mul_mod_self_right, Nat.mod_eq_of_lt hV]
  simp
theorem guess_great {U V W g : Nat} (h : W + (g - 1) * V = U) (hg : 0 < g) (hU : U < g * V) : U / V = g - 1 ∧ U % V = W := by
  refine guess_right (M := 0) h ?_
  rw [Nat.sub_add_cancel hg]; exact hU
end Dg
/- Plain facts on lists of digits that are moved by binary places, and on their order. No condition. -/
namespace Dg
theorem pow_dvd_B {s : Nat} (hs : s ≤ 32) : ∃ m, B = 2 ^ s * m := by
  refine ⟨2 ^ (32 - s), ?_⟩
  rw [← Nat.pow_add, show s + (32 - s) = 32 from by omega]; rfl
theorem low_dvd {s x : Nat} (hs : s ≤ 32) : x * 2 ^ s % B = 2 ^ s * (x * 2 ^ s % B / 2 ^ s) := by
  obtain ⟨m, hm⟩ := pow_dvd_B hs
  rw [Nat.mul_div_cancel']
  rw [hm, Nat.mul_comm x, Nat.mul_mod_mul_left]
  exact Nat.dvd_mul_right _ _
theorem or_low {s x h : Nat} (hs : s ≤ 32) (hh : h < 2 ^ s) : h ||| (x * 2 ^ s % B) = h + x * 2 ^ s % B := by
  rw [low_dvd hs, Nat.or_comm, Nat.add_comm, Nat.two_pow_add_eq_or_of_lt hh]
theorem or_high {x h : Nat} (hh : x < B) : x ||| (h * B) = x + h * B := by
  have := Nat.two_pow_add_eq_or_of_lt (i := 32) (b := x) hh h
  rw [show (2 ^ 32 : Nat) = B from rfl] at this
  rw [Nat.or_comm, Nat.add_comm, Nat.mul_comm, this]
theorem high_lt {s x : Nat} (hx : x < B) : x * 2 ^ s / B < 2 ^ s := by
  apply Nat.div_lt_of_lt_mul
  exact Nat.mul_lt_mul_of_pos_right hx (Nat.pow_pos (by omega))
theorem pow_le_half {s : Nat} (hs : s ≤ 31) : 2 ^ s ≤ 2147483648 := by
  have := Nat.pow_le_pow_right (n := 2) (by omega) hs; exact this

theorem shifted_step {a o : List Nat} {i s : Nat} (hs : s ≤ 31) (hi : i + 1 < o.length) (hx : a[i]?.getD 0 < B)
    (hI : val (o.take (i + 1)) = val (a.take i) * 2 ^ s) (ho : o[i]?.getD 0 < 2 ^ s) :
    val (((o.set i (o[i]?.getD 0 ||| (a[i]?.getD 0 * 2 ^ s % B))).set (i + 1) (a[i]?.getD 0 * 2 ^ s / B)).take (i + 1 + 1)) = val (a.take (i + 1)) * 2 ^ s ∧
    a[i]?.getD 0 * 2 ^ s / B < 2 ^ s ∧ (o[i]?.getD 0 ||| (a[i]?.getD 0 * 2 ^ s % B)) < B := by
  rw [val_take_set_succ (by simpa using hi), val_take_set_succ (by omega), val_take_succ_getD, or_low (by omega) ho]
  rw [val_take_succ_getD] at hI
  generalize a[i]?.getD 0 = x at *
  generalize o[i]?.getD 0 = z at *
  have hdm := Nat.div_add_mod (x * 2 ^ s) B
  have hlow := low_dvd (s := s) (x := x) (by omega)
  obtain ⟨m, hm⟩ := pow_dvd_B (s := s) (by omega)
  have hml : x * 2 ^ s % B < B := Nat.mod_lt _ B_pos
  refine ⟨?_, high_lt hx, ?_⟩
  · have e : B ^ (i + 1) * (x * 2 ^ s / B) = B ^ i * (B * (x * 2 ^ s / B)) := by rw [Nat.pow_succ, Nat.mul_assoc]
    have e2 : (val (a.take i) + B ^ i * x) * 2 ^ s = val (a.take i) * 2 ^ s + B ^ i * (x * 2 ^ s) := by rw [Nat.add_mul, Nat.mul_assoc]
    have e3 : B ^ i * (x * 2 ^ s) = B ^ i * (B * (x * 2 ^ s / B)) + B ^ i * (x * 2 ^ s % B) := by rw [← Nat.mul_add, hdm]
    rw [e, e2, e3, Nat.mul_add (B ^ i) z]
    generalize B ^ i * (B * (x * 2 ^ s / B)) = t1 at *
    generalize B ^ i * (x * 2 ^ s % B) = t2 at *
    omega
  · generalize x * 2 ^ s % B = lo at *
    have h1 : lo / 2 ^ s < m := by
      apply Nat.div_lt_of_lt_mul; rw [← hm]; exact hml
    have h2 : 2 ^ s * (lo / 2 ^ s + 1) ≤ 2 ^ s * m := Nat.mul_le_mul_left _ h1
    rw [Nat.mul_add, ← hlow, ← hm, Nat.mul_one] at h2
    generalize 2 ^ s = P at *
    omega

/-- Moved to the right. -/
def unsh (s : Nat) : List Nat → List Nat
  | [] => []
  | x :: l => (x + (l[0]?.getD 0) * B) / 2 ^ s % B :: unsh s l
theorem unsh_length (s : Nat) (l : List Nat) : (unsh s l).length = l.length := by
  induction l with
  | nil => rfl
  | cons x l ih => simp [unsh, ih]
theorem unsh_get (s : Nat) (l : List Nat) (i : Nat) (h : i < l.length) : (unsh s l)[i]? = some ((l[i] + (l[i + 1]?.getD 0) * B) / 2 ^ s % B) := by
  induction l generalizing i with
  | nil => simp at h
  | cons x l ih =>
    cases i with
    | zero => simp only [unsh, List.getElem?_cons_zero, List.getElem_cons_zero, List.getElem?_cons_succ, Nat.zero_add]
    | succ i => simp only [unsh, List.getElem?_cons_succ, List.getElem_cons_succ]; exact ih i (by simpa using h)
theorem ok_unsh (s : Nat) (l : List Nat) : ok (unsh s l) := by
  induction l with
  | nil => exact ok_nil
  | cons x l ih => exact ok_cons.2 ⟨Nat.mod_lt _ B_pos, ih⟩
theorem val_unsh {s : Nat} (hs : s ≤ 31) {l : List Nat} (h : ok l) : val (unsh s l) = val l / 2 ^ s := by
  obtain ⟨m, hm⟩ := pow_dvd_B (s := s) (by omega)
  have hP : 0 < 2 ^ s := Nat.pow_pos (by omega)
  induction l with
  | nil => simp [unsh, val]
  | cons x l ih =>
    rw [ok_cons] at h
    simp only [unsh, val, ih h.2]
    -- val l = hd + B * r
    obtain ⟨hd, r, hv, hhd, hlt⟩ : ∃ hd r, val l = hd + B * r ∧ l[0]?.getD 0 = hd ∧ hd < B := by
      cases l with
      | nil => exact ⟨0, 0, by simp [val], rfl, B_pos⟩
      | cons y k => exact ⟨y, val k, rfl, rfl, (ok_cons.1 h.2).1⟩
    rw [hhd, hv]
    have h1 := h.1
    generalize hPe : 2 ^ s = P at *
    -- hd = P * a + b
    have hdm := Nat.div_add_mod hd P
    have hb := Nat.mod_lt hd hP
    generalize hd / P = a at *
    generalize hd % P = b at *
    subst hdm
    have e1 : x + (P * a + b) * B = (x + b * B) + P * (a * B) := by rw [Nat.add_mul, Nat.mul_assoc]; omega
    have e2 : P * a + b + B * r = b + P * (a + m * r) := by rw [Nat.mul_add, ← Nat.mul_assoc, ← hm]; omega
    have e3 : x + B * (b + P * (a + m * r)) = (x + b * B) + P * (B * (a + m * r)) := by
      rw [Nat.mul_add B b, Nat.mul_left_comm B P, Nat.mul_comm b B, Nat.add_assoc]
    rw [e1, e2, e3, Nat.add_mul_div_left _ _ hP, Nat.add_mul_div_left _ _ hP, Nat.add_mul_div_left _ _ hP, Nat.div_eq_of_lt hb, Nat.add_mul_mod_self_right]
    clear e1 e2 e3
    have h4 : (x + b * B) / P < B := by
      apply Nat.div_lt_of_lt_mul
      have : (b + 1) * B ≤ P * B := Nat.mul_le_mul_right B hb
      rw [Nat.add_mul] at this
      omega
    rw [Nat.mod_eq_of_lt h4, Nat.zero_add]

/-- The order by the highest digit in which two lists part. -/
theorem lt_of_top {a b : List Nat} {i : Nat} (ha : ok a) (hab : a.length = b.length) (hi : i < a.length) (hd : a.drop (i + 1) = b.drop (i + 1)) (h : a[i] < b[i]'(by omega)) : val a < val b := by
  rw [val_take_drop a (k := i + 1) (by omega), val_take_drop b (k := i + 1) (by omega), hd, val_take_succ hi, val_take_succ (by omega)]
  have h1 := val_lt (ok_take ha i)
  rw [List.length_take, Nat.min_eq_left (by omega)] at h1
  have h2 : B ^ i * (a[i] + 1) ≤ B ^ i * (b[i]'(by omega)) := Nat.mul_le_mul_left _ h
  rw [Nat.mul_add] at h2
  omega
end Dg
/- Plain facts on one digit of a quotient, in the form in which the walk of digit wants them. No condition. -/
namespace Dg
theorem getD_eq {l : List Nat} {i : Nat} (h : i < l.length) : l[i]?.getD 0 = l[i] := by rw [List.getElem?_eq_getElem h]; rfl
theorem take_getD (l : List Nat) (k : Nat) : val (l.take (k + 1)) = val (l.take k) + B ^ k * l[k]?.getD 0 := val_take_succ_getD l k
/-- The ends of both numbers: m digits, and three ¦ two digits more. -/
theorem ends_of {O v : List Nat} {m : Nat} (hv : v.length = m + 2) (oO : ok O) (ov : ok v) (norm : B ≤ 2 * v[m + 1]?.getD 0) :
    Ends (val (O.take (m + 3))) (val v) (B ^ m) (O[m + 2]?.getD 0 * B + O[m + 1]?.getD 0) (O[m]?.getD 0) (v[m + 1]?.getD 0) (v[m]?.getD 0) (val (O.take m)) (val (v.take m)) := by
  refine ⟨?_, ?_, ?_, ?_, ok_getD oO m, ok_getD ov m, ok_getD ov (m + 1), norm⟩
  · rw [take_getD, take_getD, take_getD, Nat.pow_succ B (m + 1), Nat.pow_succ B m]
    generalize B ^ m = P
    rw [Nat.add_mul (_ * _), Nat.add_mul (_ * _), Nat.add_mul (_ * _)]
    have e1 : P * B * B * O[m + 2]?.getD 0 = O[m + 2]?.getD 0 * B * B * P := by ac_rfl
    have e2 : P * B * O[m + 1]?.getD 0 = O[m + 1]?.getD 0 * B * P := by ac_rfl
    have e3 : P * O[m]?.getD 0 = O[m]?.getD 0 * P := by ac_rfl
    rw [e1, e2, e3]; omega
  · have h : val v = val (v.take (m + 1 + 1)) := by rw [List.take_of_length_le (by omega)]
    rw [h, take_getD, take_getD, Nat.pow_succ]
    generalize B ^ m = P
    rw [Nat.add_mul]
    have e2 : P * B * v[m + 1]?.getD 0 = v[m + 1]?.getD 0 * B * P := by ac_rfl
    have e3 : P * v[m]?.getD 0 = v[m]?.getD 0 * P := by ac_rfl
    rw [e2, e3]; omega
  · have := val_lt (ok_take oO m)
    rw [List.length_take] at this
    exact Nat.lt_of_lt_of_le this (Nat.pow_le_pow_right B_pos (by omega))
  · have := val_lt (ok_take ov m)
    rw [List.length_take] at this
    exact Nat.lt_of_lt_of_le this (Nat.pow_le_pow_right B_pos (by omega))
/-- What the guess g and the rest r hold at every round's head. -/
def Guess (U V top v1 v2 g r : Nat) : Prop := g * v1 + r = top ∧ U < (g + 1) * V ∧ g ≤ B + 1 ∧ r < B ∧ top ≤ v1 * B + v2
theorem guess_init {U V P top u0 v1 v2 u' v' : Nat} (e : Ends U V P top u0 v1 v2 u' v') (h : U < V * B) : Guess U V top v1 v2 (top / v1) (top % v1) := by
  obtain ⟨h1, h2, h3, h4⟩ := guess_start e h
  refine ⟨h3, h1, h2, Nat.lt_trans h4 e.hv1, ?_⟩
  have hh1 : top * B * P ≤ U := by rw [e.hU, Nat.add_mul (top * B)]; omega
  have hV : V < (v1 * B + v2 + 1) * P := by rw [e.hV, Nat.add_mul (_ + _), Nat.one_mul]; have := e.hv; omega
  have hh2 : V * B ≤ (v1 * B + v2 + 1) * P * B := Nat.mul_le_mul_right B (Nat.le_of_lt hV)
  have hh3 : top * (B * P) < (v1 * B + v2 + 1) * (B * P) := by
    have e1 : top * (B * P) = top * B * P := by rw [Nat.mul_assoc]
    have e2 : (v1 * B + v2 + 1) * (B * P) = (v1 * B + v2 + 1) * P * B := by ac_rfl
    omega
  have := Nat.lt_of_mul_lt_mul_right hh3
  omega
/-- A round: the guess was too great. -/
theorem guess_round {U V P top u0 v1 v2 u' v' g r : Nat} (e : Ends U V P top u0 v1 v2 u' v') (h : U < V * B) (hg : Guess U V top v1 v2 g r) (hc : B ≤ g ∨ r * B + u0 < g * v2) :
    1 ≤ g ∧ (g - 1) * v1 + (r + v1) = top ∧ U < (g - 1 + 1) * V ∧ (B ≤ r + v1 → g - 1 < B) := by
  obtain ⟨h1, h2, h3, h4, h5⟩ := hg
  have hB := B_pos
  have hg1 : 1 ≤ g := by
    rcases hc with hc | hc
    · omega
    · rcases Nat.eq_zero_or_pos g with h0 | h0
      · subst h0; omega
      · exact h0
  obtain ⟨k, rfl⟩ : ∃ k, g = k + 1 := ⟨g - 1, by omega⟩
  rw [Nat.add_sub_cancel]
  rw [Nat.add_mul, Nat.one_mul] at h1
  refine ⟨hg1, by omega, ?_, ?_⟩
  · rcases hc with hc | hc
    · have := Nat.mul_le_mul_left V hc
      rw [Nat.mul_comm V (k + 1)] at this
      omega
    · exact guess_down e (by rw [Nat.add_mul, Nat.one_mul]; exact h1) hc
  · intro hr
    rcases Nat.lt_or_ge k B with hk | hk
    · exact hk
    · exfalso
      have hk2 : k = B := by omega
      subst hk2
      rw [Nat.mul_comm] at h1
      have := e.hv2
      omega
/-- Where the loop ends. -/
def Guessed (U V g : Nat) : Prop := g < B ∧ U < (g + 1) * V ∧ (0 < g → (g - 1) * V ≤ U)
theorem guess_exit {U V P top u0 v1 v2 u' v' g r : Nat} (e : Ends U V P top u0 v1 v2 u' v') (hg : Guess U V top v1 v2 g r) (hgB : g < B) (hc : g * v2 ≤ r * B + u0) : Guessed U V g :=
  ⟨hgB, hg.2.1, fun h0 => guess_stop e hg.1 hc hgB h0⟩
theorem guess_break {U V P top u0 v1 v2 u' v' g r : Nat} (e : Ends U V P top u0 v1 v2 u' v') (h1 : g * v1 + r = top) (h2 : U < (g + 1) * V) (hgB : g < B) (hr : B ≤ r) : Guessed U V g := by
  refine ⟨hgB, h2, fun h0 => guess_stop e h1 ?_ hgB h0⟩
  have h3 : g * v2 ≤ B * B := Nat.mul_le_mul (by omega) (Nat.le_of_lt e.hv2)
  have h4 : B * B ≤ r * B := Nat.mul_le_mul_right B hr
  omega
/-- Behind the subtraction. W: what stands in the row. -/
theorem sub_right {U V g W M b : Nat} (hg : Guessed U V g) (h : W + g * V = U + M * b) (hb : b = 0) : U / V = g ∧ U % V = W := by
  subst hb
  exact guess_right (M := 0) (by omega) hg.2.1
theorem sub_great {U V g W M b : Nat} (hg : Guessed U V g) (h : W + g * V = U + M * b) (hW : W < M) (hb : b = 1) : 0 < g ∧ U / V = g - 1 ∧ U % V + M = W + V := by
  subst hb
  have hgp : 0 < g := by
    rcases Nat.eq_zero_or_pos g with h0 | h0
    · subst h0; omega
    · exact h0
  have h2 := hg.2.2 hgp
  obtain ⟨k, rfl⟩ : ∃ k, g = k + 1 := ⟨g - 1, by omega⟩
  rw [Nat.add_sub_cancel] at h2 ⊢
  rw [Nat.add_mul, Nat.one_mul, Nat.mul_one] at h
  have hU : U < (k + 1) * V := by rw [Nat.add_mul, Nat.one_mul]; omega
  have h3 := guess_right (W := U - k * V) (M := 0) (by omega) hU
  refine ⟨hgp, h3.1, ?_⟩
  rw [h3.2]; omega
end Dg
/- Plain facts on the division of digits by digits, in the form in which the walk of divide wants them. No condition. -/
namespace Dg
theorem length_le_of_val {l : List Nat} {M : Nat} (h : trimmed l) (hv : val l < B ^ M) : l.length ≤ M := by
  rcases Nat.lt_or_ge M l.length with h1 | h1
  · exfalso
    have h2 := pow_le_val h (by intro e; subst e; simp at h1)
    have h3 : B ^ M ≤ B ^ (l.length - 1) := Nat.pow_le_pow_right B_pos (by omega)
    omega
  · exact h1
theorem val_drop_eq_zero {l : List Nat} {M : Nat} (hv : val l < B ^ M) : val (l.drop M) = 0 := by
  by_cases h : M ≤ l.length
  · have := val_take_drop l h
    rcases Nat.eq_zero_or_pos (val (l.drop M)) with h0 | h0
    · exact h0
    · have h2 : B ^ M * 1 ≤ B ^ M * val (l.drop M) := Nat.mul_le_mul_left _ h0
      omega
  · rw [List.drop_of_length_le (by omega)]; rfl
theorem val_take_of_lt {l : List Nat} {M : Nat} (hv : val l < B ^ M) : val (l.take M) = val l := by
  by_cases h : M ≤ l.length
  · have := val_take_drop l h
    rw [val_drop_eq_zero hv] at this; omega
  · rw [List.take_of_length_le (by omega)]
/-- The divisor, moved: as many digits as before, and the highest bit is set. -/
theorem moved {b vs : List Nat} {m s : Nat} (hb : b.length = m + 2) (ob : ok b) (hs1 : B ≤ 2 * (b[m + 1]?.getD 0 * 2 ^ s)) (hs2 : b[m + 1]?.getD 0 * 2 ^ s < B) (ov : ok vs) (hv : val vs = val b * 2 ^ s) :
    (trim vs).length = m + 2 ∧ B ≤ 2 * (trim vs)[m + 1]?.getD 0 ∧ val vs < B ^ (m + 2) ∧ B ^ (m + 1) * 2 ^ s ≤ val vs := by
  have hp : 0 < 2 ^ s := Nat.pow_pos (by omega)
  have e : val b = val (b.take (m + 1)) + B ^ (m + 1) * b[m + 1]?.getD 0 := by
    rw [← val_take_succ_getD, List.take_of_length_le (by omega)]
  have hlo := val_lt (ok_take ob (m + 1))
  rw [List.length_take, Nat.min_eq_left (by omega)] at hlo
  generalize b[m + 1]?.getD 0 = t at *
  -- the leading digit is at least 1
  have ht : 0 < t := by
    rcases Nat.eq_zero_or_pos t with h | h
    · subst h; have := B_pos; omega
    · exact h
  have hlow : B ^ (m + 1) * (t * 2 ^ s) ≤ val vs := by
    rw [hv, e, Nat.add_mul, Nat.mul_assoc]; omega
  have hlt : val vs < B ^ (m + 2) := by
    have h1 : val b < B ^ (m + 1) * (t + 1) := by rw [Nat.mul_add]; omega
    have h2 : val vs < B ^ (m + 1) * (t + 1) * 2 ^ s := by rw [hv]; exact Nat.mul_lt_mul_of_pos_right h1 hp
    have h3 : (t + 1) * 2 ^ s ≤ B := by
      -- 2 ^ s divides B and t * 2 ^ s < B
      rcases Nat.lt_or_ge B ((t + 1) * 2 ^ s) with h | h
      · exfalso
        have hs : s ≤ 32 := by
          rcases Nat.lt_or_ge 32 s with h6 | h6
          · exfalso
            have : 2 ^ 32 ≤ 2 ^ s := Nat.pow_le_pow_right (by omega) (by omega)
            have h7 : 1 * 2 ^ s ≤ t * 2 ^ s := Nat.mul_le_mul_right _ ht
            have h8 : (2 : Nat) ^ 32 = B := rfl
            omega
          · exact h6
        obtain ⟨q, hq⟩ := pow_dvd_B hs
        rw [hq, Nat.mul_comm (2 ^ s)] at h hs2
        have h9 := Nat.lt_of_mul_lt_mul_right h
        have h10 := Nat.lt_of_mul_lt_mul_right hs2
        omega
      · exact h
    have h4 : B ^ (m + 1) * (t + 1) * 2 ^ s ≤ B ^ (m + 1) * B := by rw [Nat.mul_assoc]; exact Nat.mul_le_mul_left _ h3
    rw [Nat.pow_succ B (m + 1)]
    omega
  have h1 : (trim vs).length ≤ m + 2 := length_le_of_val (trim_trimmed vs) (by rw [val_trim]; exact hlt)
  have hlow2 : B ^ (m + 1) * 2 ^ s ≤ val vs := by
    refine Nat.le_trans (Nat.mul_le_mul_left _ ?_) hlow
    have : 1 * 2 ^ s ≤ t * 2 ^ s := Nat.mul_le_mul_right _ ht
    omega
  have h2 : m + 1 < (trim vs).length := by
    rcases Nat.lt_or_ge (m + 1) (trim vs).length with h | h
    · exact h
    · exfalso
      have h3 := val_lt (ok_trim ov)
      rw [val_trim] at h3
      have h4 : B ^ (trim vs).length ≤ B ^ (m + 1) := Nat.pow_le_pow_right B_pos h
      have h5 : B ^ (m + 1) * 1 ≤ B ^ (m + 1) * 2 ^ s := Nat.mul_le_mul_left _ hp
      omega
  refine ⟨by omega, ?_, hlt, hlow2⟩
  have e2 : val (trim vs) = val ((trim vs).take (m + 1)) + B ^ (m + 1) * (trim vs)[m + 1]?.getD 0 := by
    rw [← val_take_succ_getD, List.take_of_length_le (by omega)]
  have hlo2 := val_lt (ok_take (ok_trim ov) (m + 1))
  rw [List.length_take, Nat.min_eq_left (by omega)] at hlo2
  rw [val_trim] at e2
  generalize (trim vs)[m + 1]?.getD 0 = r at *
  -- B ^ (m+1) * (t * 2^s) ≤ val vs < B ^ (m+1) * (r + 1)
  have h6 : B ^ (m + 1) * (t * 2 ^ s) < B ^ (m + 1) * (r + 1) := by rw [Nat.mul_add]; omega
  have h7 := Nat.lt_of_mul_lt_mul_left h6
  omega
/-- What the rows hold when the digits from k on are made. -/
def Made (X V k : Nat) (qs us : List Nat) : Prop := X = val (qs.drop k) * B ^ k * V + val us ∧ val (us.drop k) < V
theorem made_start {a us qs : List Nat} {n m s V : Nat} (ha : a.length = n) (oa : ok a) (hn : m + 2 ≤ n) (hus : us.length = n + 1) (hv : val us = val a * 2 ^ s) (hV : B ^ (m + 1) * 2 ^ s ≤ V) (hq : qs.length = n + 1 - (m + 2)) :
    Made (val a * 2 ^ s) V (n + 1 - (m + 2)) qs us := by
  refine ⟨by rw [List.drop_of_length_le (by omega), ← hv]; simp [val], ?_⟩
  have h1 := val_lt oa
  rw [ha] at h1
  have h2 := val_take_drop us (k := n + 1 - (m + 2)) (by omega)
  rw [hv] at h2
  have hp : 0 < 2 ^ s := Nat.pow_pos (by omega)
  have h3 : val a * 2 ^ s < B ^ n * 2 ^ s := Nat.mul_lt_mul_of_pos_right h1 hp
  have e : B ^ n = B ^ (n + 1 - (m + 2)) * B ^ (m + 1) := by rw [← Nat.pow_add]; congr 1; omega
  rw [e, Nat.mul_assoc] at h3
  have h4 : B ^ (n + 1 - (m + 2)) * val (us.drop (n + 1 - (m + 2))) < B ^ (n + 1 - (m + 2)) * (B ^ (m + 1) * 2 ^ s) := by omega
  have := Nat.lt_of_mul_lt_mul_left h4
  omega
/-- One digit more. -/
theorem made_pre {X V k m : Nat} {qs us : List Nat} (hk : k < us.length) (ou : ok us) (hM : Made X V (k + 1) qs us) (hV : V < B ^ (m + 2)) :
    val ((us.drop k).take (m + 3)) < V * B ∧ val ((us.drop k).take (m + 3)) = val (us.drop k) := by
  have e : val (us.drop k) = us[k] + B * val (us.drop (k + 1)) := by rw [List.drop_eq_getElem_cons hk]; rfl
  have h1 := ok_get ou hk
  have h2 := hM.2
  have h3 : B * (val (us.drop (k + 1)) + 1) ≤ B * V := Nat.mul_le_mul_left _ h2
  rw [Nat.mul_add, Nat.mul_comm B V] at h3
  have h4 : val (us.drop k) < V * B := by omega
  have h5 : V * B < B ^ (m + 3) := by rw [Nat.pow_succ]; exact Nat.mul_lt_mul_of_pos_right hV B_pos
  have h6 := val_take_of_lt (l := us.drop k) (M := m + 3) (by omega)
  exact ⟨by omega, h6⟩
/-- What lies above is nought. -/
theorem above {us us' : List Nat} {k M : Nat} (hlen : us'.length = us.length) (hd : us'.drop (k + M) = us.drop (k + M)) (hp : val ((us.drop k).take M) = val (us.drop k)) :
    val (us'.drop k) = val ((us'.drop k).take M) := by
  by_cases hl : M ≤ (us.drop k).length
  · have h1 := val_take_drop (us.drop k) (k := M) hl
    have h2 := val_take_drop (us'.drop k) (k := M) (by rw [List.length_drop] at hl ⊢; omega)
    rw [hp, List.drop_drop] at h1
    rw [List.drop_drop, hd] at h2
    have h0 : 0 < B ^ M := Nat.pow_pos B_pos
    rcases Nat.eq_zero_or_pos (val (us.drop (k + M))) with h | h
    · rw [h] at h2; exact h2
    · have := Nat.mul_pos h0 h; omega
  · rw [List.take_of_length_le (by rw [List.length_drop] at hl ⊢; omega)]
theorem made_step {X V k m q : Nat} {qs us us' : List Nat} (hk : k < us.length) (hkq : k < qs.length) (hlen : us'.length = us.length) (hM : Made X V (k + 1) qs us) (hVp : 0 < V)
    (ht : us'.take k = us.take k) (hd : us'.drop (k + (m + 3)) = us.drop (k + (m + 3))) (hp : val ((us.drop k).take (m + 3)) = val (us.drop k))
    (hq : q = val ((us.drop k).take (m + 3)) / V) (hr : val ((us'.drop k).take (m + 3)) = val ((us.drop k).take (m + 3)) % V) :
    Made X V k (qs.set k q) us' := by
  have hval' := above hlen hd hp
  have hU := val_take_drop us (k := k) (by omega)
  have hU' := val_take_drop us' (k := k) (by omega)
  have hmod := Nat.div_add_mod (val (us.drop k)) V
  rw [hp] at hq hr
  rw [hr] at hval'
  have hlt := Nat.mod_lt (val (us.drop k)) hVp
  refine ⟨?_, by rw [hval']; exact hlt⟩
  have hkq' : k < (qs.set k q).length := by rw [List.length_set]; exact hkq
  have e1 : val ((qs.set k q).drop k) = q + B * val (qs.drop (k + 1)) := by
    rw [List.drop_eq_getElem_cons hkq', List.drop_set_of_lt (by omega)]; simp [val]
  have g1 := hM.1
  rw [hU, Nat.pow_succ] at g1
  have g2 : val us' = val (us.take k) + B ^ k * (val (us.drop k) % V) := by rw [hU', ht, hval']
  rw [g1, e1, g2, hq]
  clear g1 g2 e1 hU hU' hval' hd ht hp hr hM hq hkq' hlt
  generalize val (us.drop k) = U at *
  generalize val (qs.drop (k + 1)) = Q at *
  generalize val (us.take k) = T at *
  generalize U % V = r at *
  generalize U / V = q at *
  generalize B ^ k = P at *
  subst hmod
  rw [Nat.mul_add P, Nat.add_mul, Nat.add_mul]
  have e2 : Q * (P * B) * V = B * Q * P * V := by ac_rfl
  have e3 : P * (V * q) = q * P * V := by ac_rfl
  rw [e2, e3]
  generalize B * Q * P * V = t1
  generalize q * P * V = t2
  generalize P * r = t3
  omega
theorem made_end {x V y s : Nat} {qs us : List Nat} (hV : V = y * 2 ^ s) (hM : Made (x * 2 ^ s) V 0 qs us) : val qs = x / y ∧ val us / 2 ^ s = x % y := by
  obtain ⟨h1, h2⟩ := hM
  simp only [List.drop_zero, Nat.pow_zero, Nat.mul_one] at h1 h2
  have hp : 0 < 2 ^ s := Nat.pow_pos (by omega)
  subst hV
  -- the rest is a multiple of 2 ^ s
  have hy : 0 < y := by
    rcases Nat.eq_zero_or_pos y with h | h
    · subst h; omega
    · exact h
  have e : val us = (x - val qs * y) * 2 ^ s := by
    rw [Nat.sub_mul, Nat.mul_assoc]; omega
  have hle : val qs * y ≤ x := by
    have : val qs * y * 2 ^ s ≤ x * 2 ^ s := by rw [Nat.mul_assoc]; omega
    exact Nat.le_of_mul_le_mul_right this hp
  have hlt : x - val qs * y < y := by
    rw [e] at h2
    exact Nat.lt_of_mul_lt_mul_right h2
  have h3 := guess_right (U := x) (V := y) (W := x - val qs * y) (g := val qs) (M := 0) (by omega) (by rw [Nat.add_mul, Nat.one_mul]; omega)
  refine ⟨h3.1.symm, ?_⟩
  rw [e, Nat.mul_div_cancel _ hp, h3.2]
end Dg
