/- Bezout's identity for Euclid's algorithm modulo a prime. -/
import Derived.Test.YtmfaipklhkgieaaGreatFpU
namespace Go.Proofs.YtmfaipklhkgieaaGreat
namespace Fp
/-- The same modulo p, place by place. -/
def Cg (p : Int) (A B : Nat → Int) : Prop := ∀ k, A k % p = B k % p
theorem Cg.refl {p : Int} (A : Nat → Int) : Cg p A A := fun _ => rfl
theorem Cg.symm {p : Int} {A B : Nat → Int} (h : Cg p A B) : Cg p B A := fun k => (h k).symm
theorem Cg.trans {p : Int} {A B C : Nat → Int} (h : Cg p A B) (k : Cg p B C) : Cg p A C := fun i => (h i).trans (k i)
theorem mod_of {p a b : Int} (z : Int) (h : a = b + p * z) : a % p = b % p := by rw [h, Int.add_mul_emod_self_left]
theorem of_mod {p a b : Int} (h : a % p = b % p) : ∃ z, a = b + p * z := by
  have h1 := Int.mul_ediv_add_emod a p
  have h2 := Int.mul_ediv_add_emod b p
  refine ⟨a / p - b / p, ?_⟩
  rw [Int.mul_sub]
  omega
theorem of_rem {p a b : Int} (h : a % p = b) : ∃ z, a = b + p * z := by
  have h1 := Int.mul_ediv_add_emod a p
  exact ⟨a / p, by omega⟩
theorem Cg.add {p : Int} {A B C D : Nat → Int} (h : Cg p A B) (k : Cg p C D) : Cg p (fun i => A i + C i) (fun i => B i + D i) := fun i => by
  show (A i + C i) % p = (B i + D i) % p
  rw [Int.add_emod, h i, k i, ← Int.add_emod]
theorem Cg.sub {p : Int} {A B C D : Nat → Int} (h : Cg p A B) (k : Cg p C D) : Cg p (fun i => A i - C i) (fun i => B i - D i) := fun i => by
  show (A i - C i) % p = (B i - D i) % p
  rw [Int.sub_emod, h i, k i, ← Int.sub_emod]
theorem Cg.cf {p : Int} {A B C D : Nat → Int} (h : Cg p A B) (k : Cg p C D) : Cg p (cf A C) (cf B D) := fun i => cf_mod h k i
theorem cf_sub (F G H : Nat → Int) (k : Nat) : cf F (fun i => G i - H i) k = cf F G k - cf F H k := by
  have h := cf_add F (fun i => G i - H i) H k
  have e : (fun i => G i - H i + H i) = G := by funext i; omega
  rw [e] at h
  omega
theorem cf_add' (F G H : Nat → Int) (k : Nat) : cf (fun i => G i + H i) F k = cf G F k + cf H F k := by
  rw [cf_comm, cf_add, cf_comm F G, cf_comm F H]
theorem cf_sub' (F G H : Nat → Int) (k : Nat) : cf (fun i => G i - H i) F k = cf G F k - cf H F k := by
  rw [cf_comm, cf_sub, cf_comm F G, cf_comm F H]
theorem cf_smul (c : Int) (F G : Nat → Int) (k : Nat) : cf (fun i => c * F i) G k = c * cf F G k := by
  unfold cf
  rw [← su_mul]
  exact su_congr fun i _ => Int.mul_assoc _ _ _
theorem cf_asc (F G H : Nat → Int) : cf (cf F G) H = cf F (cf G H) := funext fun k => cf_assoc F G H k
theorem cf_com (F G : Nat → Int) : cf F G = cf G F := funext fun k => cf_comm F G k
/-- One, and nothing. -/
def oneF : Nat → Int := fun i => if i = 0 then 1 else 0
theorem cf_one (F : Nat → Int) : cf oneF F = F := by
  funext k
  unfold cf
  rw [su_head]
  have e : su (fun i => oneF (i + 1) * F (k - (i + 1))) k = 0 := su_zero fun i _ => by
    show (if i + 1 = 0 then 1 else 0) * _ = (0 : Int)
    rw [if_neg (by omega), Int.zero_mul]
  rw [e]
  show 1 * F (k - 0) + 0 = F k
  rw [Int.one_mul, Int.add_zero, Nat.sub_zero]
theorem cf_nil (F : Nat → Int) : cf (fun _ => 0) F = fun _ => 0 := funext fun _ => su_zero fun _ _ => Int.zero_mul _
/-- Nothing but 0 from some place on. -/
def Fin (F : Nat → Int) : Prop := ∃ n, ∀ j, n ≤ j → F j = 0
theorem Fin.add {F G : Nat → Int} (h : Fin F) (k : Fin G) : Fin fun i => F i + G i := by
  obtain ⟨n, h⟩ := h
  obtain ⟨m, k⟩ := k
  exact ⟨max n m, fun j hj => by show F j + G j = 0; rw [h j (by omega), k j (by omega)]; rfl⟩
theorem Fin.sub {F G : Nat → Int} (h : Fin F) (k : Fin G) : Fin fun i => F i - G i := by
  obtain ⟨n, h⟩ := h
  obtain ⟨m, k⟩ := k
  exact ⟨max n m, fun j hj => by show F j - G j = 0; rw [h j (by omega), k j (by omega)]; rfl⟩
theorem Fin.smul {F : Nat → Int} (c : Int) (h : Fin F) : Fin fun i => c * F i := by
  obtain ⟨n, h⟩ := h
  exact ⟨n, fun j hj => by show c * F j = 0; rw [h j hj, Int.mul_zero]⟩
theorem Fin.cf {F G : Nat → Int} (h : Fin F) (k : Fin G) : Fin (cf F G) := by
  obtain ⟨n, h⟩ := h
  obtain ⟨m, k⟩ := k
  refine ⟨n + m, fun j hj => su_zero fun i hi => ?_⟩
  rcases Nat.lt_or_ge i n with h1 | h1
  · rw [k (j - i) (by omega), Int.mul_zero]
  · rw [h i h1, Int.zero_mul]
theorem Fin.nil : Fin fun _ => 0 := ⟨0, fun _ _ => rfl⟩
theorem Fin.one : Fin oneF := ⟨1, fun j hj => if_neg (by omega)⟩
theorem Nm.fin {p : Int} {x : L} (h : NL p x) : Fin x.2 := ⟨x.1, h.z⟩
/-- A multiple that is shorter than what it is a multiple of is nothing. -/
theorem no_multiple {p b : Int} {m : Nat} {K G R : Nat → Int} (hK : Fin K) (hG : ∀ j, m ≤ j → G j = 0) (h0 : 0 < m) (hb : (b * G (m - 1)) % p = 1 % p) (hR : ∀ j, m - 1 ≤ j → R j = 0) (h : Cg p (Fp.cf K G) R) : Cg p K fun _ => 0 := by
  obtain ⟨n, hn⟩ := hK
  suffices hs : ∀ d, d ≤ n → ∀ j, n - d ≤ j → K j % p = 0 % p by
    intro k
    exact hs n (Nat.le_refl _) k (by omega)
  intro d
  induction d with
  | zero => exact fun _ j hj => by rw [hn j (by omega)]
  | succ d ih =>
    intro hd j hj
    have ih := ih (by omega)
    rcases Nat.lt_or_ge j (n - d) with h1 | h1
    · have hk := h (j + (m - 1))
      rw [hR _ (by omega)] at hk
      unfold Fp.cf at hk
      -- the sum has but one term that counts
      have e : su (fun i => K i * G (j + (m - 1) - i)) (j + (m - 1) + 1) % p = su (fun i => if i = j then K j * G (m - 1) else 0) (j + (m - 1) + 1) % p := su_mod fun i hi => by
        by_cases e1 : i = j
        · subst e1
          rw [if_pos rfl, show i + (m - 1) - i = m - 1 by omega]
        · rw [if_neg e1]
          rcases Nat.lt_or_ge i j with h2 | h2
          · rw [hG _ (by omega), Int.mul_zero]
          · rw [Int.mul_emod, ih i (by omega), ← Int.mul_emod, Int.zero_mul]
      rw [e] at hk
      have e2 : ∀ t, j < t → su (fun i => if i = j then K j * G (m - 1) else 0) t = K j * G (m - 1) := by
        intro t
        induction t with
        | zero => intro h; omega
        | succ t iht =>
          intro ht
          show su _ t + (if t = j then K j * G (m - 1) else 0) = _
          by_cases e3 : t = j
          · rw [if_pos e3, su_zero fun i hi => if_neg (by omega), Int.zero_add]
          · rw [if_neg e3, iht (by omega), Int.add_zero]
      rw [e2 _ (by omega)] at hk
      obtain ⟨z, hk⟩ := of_mod hk
      obtain ⟨y, hb⟩ := of_mod hb
      refine mod_of (b * z - K j * y) ?_
      grind
    · exact ih j h1
/-- What a sum, a difference, a product and a multiple of lists is. -/
theorem pr_cf {p : Int} {x y : L} (hx : NL p x) : Cg p (mulL p x y).2 (cf x.2 y.2) := fun k => by
  show pr p x.2 y.2 x.1 k % p = _
  unfold pr
  rw [cv_cf hx.z, Int.emod_emod]
theorem sub_cg {p : Int} (x y : L) : Cg p (subL p x y).2 (fun i => x.2 i - y.2 i) := fun k => by
  show sm p (p - 1) x.2 y.2 k % p = _
  unfold sm
  rw [Int.emod_emod]
  show (x.2 k + (p - 1) * y.2 k) % p = (x.2 k - y.2 k) % p
  exact mod_of (y.2 k) (by rw [Int.sub_mul]; omega)
theorem add_cg {p : Int} (x y : L) : Cg p (addL p x y).2 (fun i => x.2 i + y.2 i) := fun k => by
  show sm p 1 x.2 y.2 k % p = _
  unfold sm
  rw [Int.emod_emod, Int.one_mul]
theorem sc_cg {p c : Int} (x : L) : Cg p (scL p c x).2 (fun i => c * x.2 i) := fun k => by
  show sc p c x.2 k % p = _
  unfold sc
  rw [Int.emod_emod, Int.mul_emod, Int.emod_emod, ← Int.mul_emod]
theorem div_cg {p : Int} {x y : L} (hp : md p) (hx : NL p x) (hy : NL p y) (h0 : 0 < y.1) : Cg p x.2 (fun k => cf (quoL p x y).2 y.2 k + (rstL p x y).2 k) := fun k => by
  have h : (cf (qt p x.1 y.1 x.2 y.2) y.2 k + rs p x.1 y.1 x.2 y.2 k) % p = x.2 k := hx.div hp hy h0 k
  show x.2 k % p = (cf (qt p x.1 y.1 x.2 y.2) y.2 k + rs p x.1 y.1 x.2 y.2 k) % p
  rw [h, Int.emod_eq_of_lt (hx.r k).1 (hx.r k).2]
/-- Lists in normal form with the same places modulo p are the same. -/
theorem Nm.eq {p : Int} {x y : L} (hx : NL p x) (hy : NL p y) (h : Cg p x.2 y.2) : x = y := by
  have e : x.2 = y.2 := funext fun k => by
    have := h k
    rwa [Int.emod_eq_of_lt (hx.r k).1 (hx.r k).2, Int.emod_eq_of_lt (hy.r k).1 (hy.r k).2] at this
  have e1 : x.1 = y.1 := by
    have h1 := hx.l
    have h2 := hy.l
    rcases Nat.lt_trichotomy x.1 y.1 with h | h | h
    · exact absurd (by rw [← e]; exact hx.z _ (by omega)) (h2 (by omega))
    · exact h
    · exact absurd (by rw [e]; exact hy.z _ (by omega)) (h1 (by omega))
  exact Prod.ext e1 e
/-- Euclid's algorithm: the invariant comes to the end. -/
theorem xg_end {p : Int} {m0 : Nat} (hp : md p) (hm0 : m0 ≤ 512) : ∀ (t : Nat) {r s u v : L}, XI p m0 r s u v → s.1 ≤ t → 0 < r.1 ∨ 0 < s.1 → ∃ s' v', XI p m0 (xg p t r s u v).1 s' (xg p t r s u v).2 v' ∧ s'.1 = 0 ∧ 0 < (xg p t r s u v).1.1
  | 0, r, s, u, v, h, hs, hr => ⟨s, v, h, by omega, by show 0 < r.1; omega⟩
  | t + 1, r, s, u, v, h, hs, hr => by
    show ∃ s' v', XI p m0 (if s.1 = 0 then (r, u) else xg p t s (rstL p r s) v (subL p u (mulL p (quoL p r s) v))).1 s' (if s.1 = 0 then (r, u) else xg p t s (rstL p r s) v (subL p u (mulL p (quoL p r s) v))).2 v' ∧ s'.1 = 0 ∧ 0 < (if s.1 = 0 then (r, u) else xg p t s (rstL p r s) v (subL p u (mulL p (quoL p r s) v))).1.1
    by_cases h0 : s.1 = 0
    · rw [if_pos h0]; exact ⟨s, v, h, h0, by show 0 < r.1; omega⟩
    · rw [if_neg h0]
      obtain ⟨h1, h2⟩ := h.step hp (by omega) hm0
      exact xg_end hp hm0 t h1 (by omega) (by omega)
/-- Both parts of the start are multiples of the end. -/
theorem xg_div {p : Int} {m0 : Nat} (hp : md p) (hm0 : m0 ≤ 512) : ∀ (t : Nat) {r s u v : L}, XI p m0 r s u v → s.1 ≤ t → ∃ X Y, Fin X ∧ Fin Y ∧ Cg p r.2 (cf X (xg p t r s u v).1.2) ∧ Cg p s.2 (cf Y (xg p t r s u v).1.2)
  | 0, r, s, u, v, h, hs => ⟨oneF, fun _ => 0, Fin.one, Fin.nil, by rw [cf_one]; exact Cg.refl _, by
      rw [cf_nil]; intro k; rw [h.hs.z k (by omega)]⟩
  | t + 1, r, s, u, v, h, hs => by
    show ∃ X Y, Fin X ∧ Fin Y ∧ Cg p r.2 (cf X (if s.1 = 0 then (r, u) else xg p t s (rstL p r s) v (subL p u (mulL p (quoL p r s) v))).1.2) ∧ Cg p s.2 (cf Y (if s.1 = 0 then (r, u) else xg p t s (rstL p r s) v (subL p u (mulL p (quoL p r s) v))).1.2)
    by_cases h0 : s.1 = 0
    · rw [if_pos h0]
      exact ⟨oneF, fun _ => 0, Fin.one, Fin.nil, by rw [cf_one]; exact Cg.refl _, by rw [cf_nil]; intro k; rw [h.hs.z k (by omega)]⟩
    · rw [if_neg h0]
      obtain ⟨h1, h2⟩ := h.step hp (by omega) hm0
      obtain ⟨X, Y, fX, fY, hX, hY⟩ := xg_div hp hm0 t h1 (by omega)
      generalize (xg p t s (rstL p r s) v (subL p u (mulL p (quoL p r s) v))).1.2 = E at *
      refine ⟨fun k => cf (quoL p r s).2 X k + Y k, X, ((Nm.fin (h.hr.quo hp h.hs (by omega))).cf fX).add fY, fX, ?_, hX⟩
      refine (div_cg hp h.hr h.hs (by omega)).trans ?_
      refine ((((Cg.refl (quoL p r s).2).cf hX).add hY)).trans fun k => ?_
      show (cf (quoL p r s).2 (cf X E) k + cf Y E k) % p = cf (fun k => cf (quoL p r s).2 X k + Y k) E k % p
      rw [cf_add', show cf (fun k => cf (quoL p r s).2 X k) E k = cf (quoL p r s).2 (cf X E) k from cf_assoc _ _ _ _]
/-- The cofactors. -/
theorem xg_bez {p : Int} {m0 : Nat} (hp : md p) (hm0 : m0 ≤ 512) {f g : Nat → Int} : ∀ (t : Nat) {r s u v : L} {W W' : Nat → Int}, XI p m0 r s u v → s.1 ≤ t → Fin W → Fin W' → Cg p (fun k => cf u.2 f k + cf W g k) r.2 → Cg p (fun k => cf v.2 f k + cf W' g k) s.2 → ∃ W, Fin W ∧ Cg p (fun k => cf (xg p t r s u v).2.2 f k + cf W g k) (xg p t r s u v).1.2
  | 0, r, s, u, v, W, W', h, hs, fW, _, h1, h2 => ⟨W, fW, h1⟩
  | t + 1, r, s, u, v, W, W', h, hs, fW, fW', h1, h2 => by
    show ∃ W, Fin W ∧ Cg p (fun k => cf (if s.1 = 0 then (r, u) else xg p t s (rstL p r s) v (subL p u (mulL p (quoL p r s) v))).2.2 f k + cf W g k) (if s.1 = 0 then (r, u) else xg p t s (rstL p r s) v (subL p u (mulL p (quoL p r s) v))).1.2
    by_cases h0 : s.1 = 0
    · rw [if_pos h0]
      exact ⟨W, fW, h1⟩
    · rw [if_neg h0]
      obtain ⟨h3, h4⟩ := h.step hp (by omega) hm0
      refine xg_bez hp hm0 t (W := W') (W' := fun k => W k - cf (quoL p r s).2 W' k) h3 (by omega) fW' (fW.sub ((Nm.fin (h.hr.quo hp h.hs (by omega))).cf fW')) h2 ?_
      have hq := h.hr.quo hp h.hs (by omega)
      have hd := div_cg hp h.hr h.hs (by omega)
      have e1 : Cg p (subL p u (mulL p (quoL p r s) v)).2 (fun i => u.2 i - cf (quoL p r s).2 v.2 i) := (sub_cg u _).trans ((Cg.refl _).sub (pr_cf hq))
      refine Cg.trans ((e1.cf (Cg.refl f)).add (Cg.refl (cf (fun k => W k - cf (quoL p r s).2 W' k) g))) ?_
      intro k
      show (cf (fun i => u.2 i - cf (quoL p r s).2 v.2 i) f k + cf (fun k => W k - cf (quoL p r s).2 W' k) g k) % p = (rstL p r s).2 k % p
      rw [cf_sub', cf_sub', show cf (fun k => cf (quoL p r s).2 W' k) g k = cf (quoL p r s).2 (cf W' g) k from cf_assoc _ _ _ _, show cf (fun i => cf (quoL p r s).2 v.2 i) f k = cf (quoL p r s).2 (cf v.2 f) k from cf_assoc _ _ _ _]
      have e2 := ((Cg.refl (quoL p r s).2).cf h2) k
      have e2 : cf (quoL p r s).2 (fun k => cf v.2 f k + cf W' g k) k % p = cf (quoL p r s).2 s.2 k % p := e2
      rw [cf_add] at e2
      have e2 : (cf (quoL p r s).2 (cf v.2 f) k + cf (quoL p r s).2 (cf W' g) k) % p = cf (quoL p r s).2 s.2 k % p := e2
      have e3 := h1 k
      have e3 : (cf u.2 f k + cf W g k) % p = r.2 k % p := e3
      have e4 : r.2 k % p = (cf (quoL p r s).2 s.2 k + (rstL p r s).2 k) % p := hd k
      obtain ⟨z2, e2⟩ := of_mod e2
      obtain ⟨z3, e3⟩ := of_mod e3
      obtain ⟨z4, e4⟩ := of_mod e4
      refine mod_of (z3 + z4 - z2) ?_
      rw [Int.mul_sub, Int.mul_add]
      omega
/-- A division of a multiple leaves nothing. -/
theorem div_exact {p : Int} {x y : L} {K : Nat → Int} (hp : md p) (hx : NL p x) (hy : NL p y) (h0 : 0 < y.1) (hK : Fin K) (h : Cg p x.2 (cf K y.2)) : Cg p (quoL p x y).2 K ∧ Cg p x.2 (cf (quoL p x y).2 y.2) := by
  have hq := hx.quo hp hy h0
  have hd := div_cg hp hx hy h0
  have hr := (hx.rst hp hy h0).1
  have hl := (hx.rst hp hy h0).2
  have hb : (inv (y.2 (y.1 - 1)) p * y.2 (y.1 - 1)) % p = 1 % p := by
    have h1 := hy.l h0
    have h2 := hy.r (y.1 - 1)
    rw [inv_spec hp (by rw [Int.emod_eq_of_lt h2.1 h2.2]; omega), Int.emod_eq_of_lt (by omega) (by have := hp.1; omega)]
  have hz : Cg p (fun k => K k - (quoL p x y).2 k) fun _ => 0 := no_multiple (hK.sub (Nm.fin hq)) hy.z h0 hb (R := (rstL p x y).2) (fun j hj => hr.z j (by omega)) fun k => by
    rw [cf_sub']
    obtain ⟨z, h⟩ := of_mod (h k)
    obtain ⟨y', hd⟩ := of_mod (hd k)
    have hd : x.2 k = cf (quoL p x y).2 y.2 k + (rstL p x y).2 k + p * y' := hd
    exact mod_of (y' - z) (by rw [Int.mul_sub]; omega)
  have h1 : Cg p (quoL p x y).2 K := fun k => by
    obtain ⟨z, h⟩ := of_mod (hz k)
    have h : K k - (quoL p x y).2 k = 0 + p * z := h
    exact mod_of (-z) (by rw [Int.mul_neg]; omega)
  exact ⟨h1, h.trans ((h1.symm).cf (Cg.refl _))⟩
theorem al1 {p b c r d y z : Int} (e : d = b * r + p * z) (e2 : b * c = 1 + p * y) : r = c * d + p * (-(c * z) - r * y) := by grind
theorem al2 {p b a1 a2 a3 a4 a5 a6 a7 a8 z1 z2 z3 z4 z5 : Int} (e1 : a1 = a2 + p * z1) (e2 : a3 = a2 + a4 + p * z2) (e3 : a3 = b * a8 + p * z3) (e4 : a5 = b * a7 + p * z4) (e5 : a8 + a6 = a7 + p * z5) : a5 - a4 = b * a6 + a1 + p * (z4 + z2 - z3 - z1 - b * z5) := by grind
/-- The greatest common divisor and the cofactors, g not empty. -/
noncomputable abbrev one1 : L := (1, oneF)
noncomputable abbrev nil0 : L := (0, fun _ => 0)
noncomputable abbrev xgr (p : Int) (f g : L) : L × L := xg p g.1 f g one1 nil0
noncomputable abbrev xgb (p : Int) (f g : L) : Int := inv ((xgr p f g).1.2 ((xgr p f g).1.1 - 1)) p
noncomputable abbrev xgd (p : Int) (f g : L) : L := scL p (xgb p f g) (xgr p f g).1
noncomputable abbrev xgper (p : Int) (f g : L) : L := quoL p g (xgd p f g)
noncomputable abbrev xgu (p : Int) (f g : L) : L := rstL p (scL p (xgb p f g) (xgr p f g).2) (xgper p f g)
noncomputable abbrev xgw (p : Int) (f g : L) : L := subL p (xgd p f g) (mulL p (xgu p f g) f)
noncomputable abbrev xgv (p : Int) (f g : L) : L := quoL p (xgw p f g) g
theorem NL.one {p : Int} (hp : md p) : NL p one1 := ⟨by show 1 ≤ 4096; omega, fun i => by
  show 0 ≤ (if i = 0 then (1 : Int) else 0) ∧ (if i = 0 then (1 : Int) else 0) < p
  have := hp.1
  split <;> omega, fun j hj => if_neg (by have hj : 1 ≤ j := hj; omega), rfl⟩
theorem NL.nil {p : Int} (hp : md p) : NL p nil0 := ⟨by show 0 ≤ 4096; omega, fun i => ⟨Int.le_refl _, by have := hp.1; show (0 : Int) < p; omega⟩, fun _ _ => rfl, rfl⟩
theorem XI.start {p : Int} {f g : L} (hp : md p) (hf : NL p f) (hg : NL p g) (h1 : f.1 ≤ 512) : XI p g.1 f g one1 nil0 := ⟨hf, hg, NL.one hp, NL.nil hp, h1, .inl ⟨Nat.le_refl _, rfl, Nat.le_refl _⟩⟩
structure Xgs (p : Int) (f g : L) : Prop where
  r : NL p (xgr p f g).1
  u0 : NL p (xgr p f g).2
  r0 : 0 < (xgr p f g).1.1
  rl : (xgr p f g).1.1 ≤ 512
  d : NL p (xgd p f g)
  d0 : 0 < (xgd p f g).1
  per : NL p (xgper p f g)
  per0 : 0 < (xgper p f g).1
  u : NL p (xgu p f g)
  ul : (xgu p f g).1 < g.1 + 1
  w : NL p (xgw p f g)
  v : NL p (xgv p f g)
  vl : (xgv p f g).1 ≤ 1536
  bez : Cg p (fun k => cf (xgu p f g).2 f.2 k + cf (xgv p f g).2 g.2 k) (xgd p f g).2
set_option maxHeartbeats 2000000 in
theorem xgs {p : Int} {f g : L} (hp : md p) (hf : NL p f) (hg : NL p g) (h1 : f.1 ≤ 512) (h2 : g.1 ≤ 512) (h0 : 0 < g.1) : Xgs p f g := by
  have hs := XI.start hp hf hg h1
  obtain ⟨s', v', hI, _, hr0⟩ := xg_end hp h2 g.1 hs (Nat.le_refl _) (.inr h0)
  obtain ⟨X, Y, fX, fY, hX, hY⟩ := xg_div hp h2 g.1 hs (Nat.le_refl _)
  obtain ⟨W, fW, hW⟩ := xg_bez hp h2 (f := f.2) (g := g.2) g.1 (W := fun _ => 0) (W' := oneF) hs (Nat.le_refl _) Fin.nil Fin.one (by
    show Cg p (fun k => cf oneF f.2 k + cf (fun _ => 0) g.2 k) f.2
    rw [cf_one, cf_nil]
    intro k
    show (f.2 k + 0) % p = _
    rw [Int.add_zero]) (by
    show Cg p (fun k => cf (fun _ => 0) f.2 k + cf oneF g.2 k) g.2
    rw [cf_one, cf_nil]
    intro k
    show (0 + g.2 k) % p = _
    rw [Int.zero_add])
  have hr := hI.hr
  have hu0 := hI.hu
  have hrl := hI.hm
  have hl := hr.l hr0
  have hrr := hr.r ((xg p g.1 f g one1 nil0).1.1 - 1)
  have hpp := hp.1
  have hc : (inv ((xg p g.1 f g one1 nil0).1.2 ((xg p g.1 f g one1 nil0).1.1 - 1)) p * (xg p g.1 f g one1 nil0).1.2 ((xg p g.1 f g one1 nil0).1.1 - 1)) % p = 1 := inv_spec hp (by
    rw [Int.emod_eq_of_lt hrr.1 hrr.2]; omega)
  have hd : NL p (xgd p f g) := NL.sc hp hr
  have hdc : Cg p (xgd p f g).2 _ := sc_cg (xgr p f g).1
  have hu1 : NL p (scL p (xgb p f g) (xgr p f g).2) := NL.sc hp hu0
  have hu1c : Cg p (scL p (xgb p f g) (xgr p f g).2).2 _ := sc_cg (xgr p f g).2
  -- the lead of d is 1
  have hdl : (xgd p f g).1 = (xgr p f g).1.1 := tl_full fun _ => by
    show sc p _ (xgr p f g).1.2 _ ≠ 0
    unfold sc
    rw [Int.mul_emod, Int.emod_emod, ← Int.mul_emod, hc]
    decide
  have hd0 : 0 < (xgd p f g).1 := by rw [hdl]; exact hr0
  -- both are multiples of d
  have hrd : Cg p (xgr p f g).1.2 fun k => (xgr p f g).1.2 ((xgr p f g).1.1 - 1) * (xgd p f g).2 k := fun k => by
    obtain ⟨z, e⟩ := of_mod (hdc k)
    obtain ⟨y, e2⟩ := of_rem hc
    exact mod_of _ (al1 e e2)
  have mul : ∀ {A Z : Nat → Int}, Cg p A (cf Z (xgr p f g).1.2) → Cg p A (cf (fun k => (xgr p f g).1.2 ((xgr p f g).1.1 - 1) * Z k) (xgd p f g).2) := fun {A Z} h => h.trans (((Cg.refl Z).cf hrd).trans fun k => by
    rw [cf_com Z, cf_smul, cf_smul, cf_comm Z])
  have hX : Cg p f.2 (cf _ (xgd p f g).2) := mul hX
  have hY : Cg p g.2 (cf _ (xgd p f g).2) := mul hY
  have fX := fX.smul ((xgr p f g).1.2 ((xgr p f g).1.1 - 1))
  have fY := fY.smul ((xgr p f g).1.2 ((xgr p f g).1.1 - 1))
  generalize (fun k => (xgr p f g).1.2 ((xgr p f g).1.1 - 1) * X k) = X at *
  generalize (fun k => (xgr p f g).1.2 ((xgr p f g).1.1 - 1) * Y k) = Y at *
  obtain ⟨_, hper⟩ := div_exact hp hg hd hd0 fY hY
  have hperN : NL p (xgper p f g) := hg.quo hp hd hd0
  have hper : Cg p g.2 (cf (xgper p f g).2 (xgd p f g).2) := hper
  have hper0 : 0 < (xgper p f g).1 := Nat.pos_of_ne_zero fun e => by
    have h3 := hper (g.1 - 1)
    rw [show (xgper p f g).2 = fun _ => 0 from funext fun k => hperN.z k (by omega), cf_nil, Int.emod_eq_of_lt (hg.r _).1 (hg.r _).2] at h3
    exact hg.l h0 h3
  have hperl : (xgper p f g).1 = g.1 + 1 - (xgd p f g).1 := rfl
  obtain ⟨hu, hul⟩ := hu1.rst hp hperN hper0
  have hu : NL p (xgu p f g) := hu
  have hul : (xgu p f g).1 < (xgper p f g).1 := hul
  have hq1 := hu1.quo hp hperN hper0
  have huc := div_cg hp hu1 hperN hper0
  have huc : Cg p (scL p (xgb p f g) (xgr p f g).2).2 (fun k => cf (quoL p (scL p (xgb p f g) (xgr p f g).2) (xgper p f g)).2 (xgper p f g).2 k + (xgu p f g).2 k) := huc
  have hm := mulL_le p (xgu p f g) f
  have hmN : NL p (mulL p (xgu p f g) f) := NL.mul hp hf (by omega)
  have hw : NL p (xgw p f g) := hd.sub hp hmN
  have hwl : (xgw p f g).1 ≤ max (xgd p f g).1 (mulL p (xgu p f g) f).1 := subL_le _ _ _
  have hv : NL p (xgv p f g) := hw.quo hp hg h0
  have hvl : (xgv p f g).1 = (xgw p f g).1 + 1 - g.1 := rfl
  -- d - u f is a multiple of g
  have hwc : Cg p (xgw p f g).2 (fun k => (xgd p f g).2 k - cf (xgu p f g).2 f.2 k) := (sub_cg (xgd p f g) _).trans ((Cg.refl _).sub (pr_cf hu))
  obtain ⟨_, hvx⟩ := div_exact (K := fun k => xgb p f g * W k + cf (quoL p (scL p (xgb p f g) (xgr p f g).2) (xgper p f g)).2 X k) hp hw hg h0 ((fW.smul _).add ((Nm.fin hq1).cf fX)) (hwc.trans fun k => by
    rw [cf_add', cf_smul, show cf (fun k => cf (quoL p (scL p (xgb p f g) (xgr p f g).2) (xgper p f g)).2 X k) g.2 k = cf (quoL p (scL p (xgb p f g) (xgr p f g).2) (xgper p f g)).2 (cf X g.2) k from cf_assoc _ _ _ _]
    -- X g = per f
    have e1 : Cg p (cf X g.2) (cf (xgper p f g).2 f.2) := by
      refine ((Cg.refl X).cf hper).trans ?_
      rw [cf_com X, cf_asc, cf_com (xgd p f g).2]
      exact (Cg.refl _).cf hX.symm
    obtain ⟨z1, e1⟩ := of_mod (((Cg.refl (quoL p (scL p (xgb p f g) (xgr p f g).2) (xgper p f g)).2).cf e1) k)
    obtain ⟨z2, e2⟩ := of_mod ((huc.cf (Cg.refl f.2)) k)
    rw [cf_add', show cf (fun k => cf (quoL p (scL p (xgb p f g) (xgr p f g).2) (xgper p f g)).2 (xgper p f g).2 k) f.2 k = cf (quoL p (scL p (xgb p f g) (xgr p f g).2) (xgper p f g)).2 (cf (xgper p f g).2 f.2) k from cf_assoc _ _ _ _] at e2
    obtain ⟨z3, e3⟩ := of_mod ((hu1c.cf (Cg.refl f.2)) k)
    rw [cf_smul] at e3
    obtain ⟨z4, e4⟩ := of_mod (hdc k)
    obtain ⟨z5, e5⟩ := of_mod (hW k)
    have e5 : cf (xgr p f g).2.2 f.2 k + cf W g.2 k = (xgr p f g).1.2 k + p * z5 := e5
    exact mod_of _ (al2 e1 e2 e3 e4 e5))
  have hvx : Cg p (xgw p f g).2 (cf (xgv p f g).2 g.2) := hvx
  refine ⟨hr, hu0, hr0, hrl, hd, hd0, hperN, hper0, hu, by omega, hw, hv, by omega, fun k => ?_⟩
  have e1 := hwc k
  have e2 := hvx k
  show (cf (xgu p f g).2 f.2 k + cf (xgv p f g).2 g.2 k) % p = (xgd p f g).2 k % p
  obtain ⟨z1, e1⟩ := of_mod e1
  obtain ⟨z2, e2⟩ := of_mod e2
  have e1 : (xgw p f g).2 k = (xgd p f g).2 k - cf (xgu p f g).2 f.2 k + p * z1 := e1
  refine mod_of (z1 - z2) ?_
  rw [Int.mul_sub]
  omega
end Fp
end Go.Proofs.YtmfaipklhkgieaaGreat
