/- Regions: operations in the order of the text, and in any order. -/
import Derived.Test.YtigciplaoikcfaaGreatAbsG
import Derived.Orders
namespace Go.Proofs.YtigciplaoikcfaaGreat
open Go.RowKit
def guardV (σ : St) (ops : Array Oper) (g : Nat) : Option (Nat × Bool) :=
  match (ops[g]?).bind (·.dst) with
  | some d => match σ.tm d with
    | .c (.bool b) => some (d, b)
    | _ => none
  | none => none
def aops (E : Env) (ops : Array Oper) : List Oper → St → (St → Prop) → Prop
  | [], σ, K => K σ
  | o :: rest, σ, K => match o.guard with
    | none => aop E o σ fun σ' => aops E ops rest σ' K
    | some (g, want) => match guardV σ ops g with
      | some (d, b) => cs (gw want b) (aop E o (σ.put (some d) (.c (.bool want))) fun σ' => aops E ops rest σ' K) (aops E ops rest ((σ.put (some d) (.c (.bool !want))).put o.dst (.c .any)) K)
      | none => False
/-- What is reached in some abstract state. -/
def QR (C : Ctx) (R : Exit → St → Prop) (e : Exit) (a : Act) (w : World) : Prop := ∃ σ, Rel C σ a w ∧ R e σ
theorem guard_val {σ : St} {a : Act} {w : World} {ops : Array Oper} {g d : Nat} {b : Bool} (h : guardV σ ops g = some (d, b)) (hx : ∀ d, (ops[g]?).bind (·.dst) = some d → ∃ D ρ, VRel D w ρ (σ.tm d) (a.tmps.getD d undef)) : yielded ops a.tmps g = some b ∧ a.tmps.getD d undef = .bool b ∧ d < a.tmps.size ∧ σ.tm d = .c (.bool b) := by
  unfold guardV at h
  split at h
  · rename_i d' hd
    split at h
    · rename_i b' hb
      cases h
      obtain ⟨D, ρ, hv⟩ := hx d hd
      rw [hb] at hv
      have hv' : a.tmps.getD d undef = .bool b := hv
      have hlt : d < a.tmps.size := by
        rcases Nat.lt_or_ge d a.tmps.size with h | h
        · exact h
        · rw [Array.getD, dif_neg (by omega)] at hv'
          simp [undef] at hv'
      refine ⟨?_, hv', hlt, hb⟩
      unfold yielded
      rw [hd]
      simp only [Option.bind_some]
      rw [Array.getElem?_eq_getElem hlt]
      rw [Array.getD, dif_pos hlt] at hv'
      rw [show a.tmps[d] = .bool b from hv']
    · cases h
  · cases h
theorem put_same {C : Ctx} {σ : St} {a : Act} {w : World} {d : Nat} {v : V} (h : Rel C σ a w) (hv : ∀ D ρ, VRel D w ρ v (a.tmps.getD d undef)) : Rel C (σ.put (some d) v) a w := by
  obtain ⟨ρ, hs, hN, hdf, hf⟩ := h
  refine ⟨ρ, hs, hN, hdf, fun t => ?_⟩
  simp only [St.put, upd]
  by_cases e : t = d
  · subst e; rw [if_pos rfl]; exact hv _ _
  · rw [if_neg e]; exact hf t
theorem aops_sound {E : Env} (hE : EnvOK E) {C : Ctx} (hC : C.r = E.r) {ops : Array Oper} {Q : Exit → Act → World → Prop} {K : St → Prop} (hQ : ∀ σ a w, K σ → Rel C σ a w → Q .normal a w) :
    ∀ (l : List Oper) (σ : St) (a : Act) (w : World), (∀ o ∈ l, dstOK C.N o.dst) → aops E ops l σ K → Rel C σ a w → wpList E.P ops Q l a w
  | [], σ, a, w, _, h, hr => hQ σ a w h hr
  | o :: rest, σ, a, w, hd, h, hr => by
    have ih := fun σ a w => aops_sound (ops := ops) hE hC hQ rest σ a w (fun o ho => hd o (by simp [ho]))
    unfold wpList
    simp only [aops] at h
    split at h
    · rename_i hg
      rw [if_pos (by simp [Region.wanted, hg])]
      exact .inl (aop_sound hE hC h (hd o (by simp)) hr fun σ' a' w' hk hrel => ih σ' a' w' hk hrel)
    · rename_i g want hg
      split at h
      · rename_i d b hgv
        have h := cs_iff.1 h
        rw [gw_true, gw_false] at h
        obtain ⟨hy, hv, hlt, htm⟩ := guard_val (a := a) (w := w) hgv (by obtain ⟨ρ, hs, hN, hdf, hf⟩ := hr; exact fun d _ => ⟨_, ρ, hf d⟩)
        have hwt : Region.wanted o (yielded ops a.tmps) = (b == want) := by
          unfold Region.wanted
          rw [hg]
          simp only [hy]
          rfl
        rw [hwt]
        by_cases e : b = want
        · rw [if_pos (by simp [e])]
          refine .inl (aop_sound hE hC (h.1 e) (hd o (by simp)) (put_same hr fun D ρ => ?_) fun σ' a' w' hk hrel => ih σ' a' w' hk hrel)
          rw [hv, e]; rfl
        · have e' : b = !want := by cases b <;> cases want <;> simp_all
          rw [if_neg (by simpa using e)]
          have h2 : Rel C (σ.put (some d) (.c (.bool !want))) a w := put_same hr fun D ρ => by rw [hv, e']; rfl
          obtain ⟨ρ, hs, hN, hdf, hf⟩ := h2
          exact ih _ _ _ (h.2 e') (Rel.put hs hN hdf hf (hd o (by simp)) trivial)
      · exact h.elim
end Go.Proofs.YtigciplaoikcfaaGreat
