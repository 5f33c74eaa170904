/- A block of one's own that becomes a closed list. -/
import Derived.Test.YtmfaipklhkgieaaFpS
namespace Go.Proofs.Ytmfaipklhkgieaa
open Go.RowKit
/-- The block k is shut: every slot that names it reads as a closed list from then on. -/
theorem Weak.shut {m0 : Nat} {tm : Nat → V} {bl : List Blk} (k : Nat) {B : Blk} (hB : bl[k]? = some B) (h0 : B.st = 0) (hcl : ∀ i j, i < B.n → j < B.sz → (B.f i j).clos = true) :
    Weak m0 ⟨tm, bl⟩ ⟨fun t => St.close (bl.set k { B with st := 1 }) (tm t), bl.set k { B with st := 1 }⟩ :=
  (Weak.freeze k hB h0 hcl).trans (Weak.close (closeds_refl _ _) fun _ => .inr rfl)
namespace Fp
theorem qt_eq {p : Int} {n m : Nat} {F G : Nat → Int} {i : Nat} (h : i < n + 1 - m) : dq p (inv (G (m - 1)) p) m (n + 1 - m) F G i = qt p n m F G i := (if_pos h).symm
/-- A division of lists in normal form. -/
theorem divide_nm {p : Int} {n m : Nat} {F G : Nat → Int} (hp : md p) (hF : Nm p n F) (hG : Nm p m G) (hm : 0 < m) : FnOK Try.prog false 33 [.c (.int .i64 p), .c (il n F), .c (il m G)] (.t2 (.c (il (n + 1 - m) (qt p n m F G))) (.c (il (tl (rs p n m F G) n) (rs p n m F G)))) :=
  sub_ok (divide_all hp hF.n4 hm hF.r hG.r (hG.l hm) hF.t) (subT2 (subRow rfl fun _ h => qt_eq h) (Sub.refl _))
theorem refDivide_nm {p : Int} {n m : Nat} {F G : Nat → Int} (hp : md p) (hF : Nm p n F) (hG : Nm p m G) (hm : 0 < m) : FnOK Try.prog false 12 [.c (.int .i64 p), .c (il n F), .c (il m G)] (.t2 (.c (il (n + 1 - m) (qt p n m F G))) (.c (il (tl (rs p n m F G) n) (rs p n m F G)))) := by
  have hq := hF.quo hp hG hm
  have hr := (hF.rest hp hG hm).1
  have e1 : ∀ i, nf p (n + 1 - m) (dq p (inv (G (m - 1)) p) m (n + 1 - m) F G) i = qt p n m F G i := fun i => by
    unfold nf qt
    by_cases h : i < n + 1 - m
    · rw [if_pos h, if_pos h]
      have := dq_range (p := p) (b := inv (G (m - 1)) p) (m := m) (N := n + 1 - m) (F := F) (G := G) (by have := hp.1; omega) i
      exact Int.emod_eq_of_lt this.1 this.2
    · rw [if_neg h, if_neg h]
  have e2 : nf p n (rs p n m F G) = rs p n m F G := nf_self hr.r fun j hj => hr.z j (by have := tl_le (rs p n m F G) n; omega)
  have e3 : nf p n (dn p (inv (G (m - 1)) p) m (n + 1 - m) F G (n + 1 - m)) = rs p n m F G := e2
  refine sub_ok (refDivide_all hp hF.n4 hG.n4 (nf_self hF.r hF.z) (nf_self hG.r hG.z) hF.t hG.t hm hF.r hG.r (hG.l hm) hF.t) (subT2 (subRow ?_ fun i _ => e1 i) ?_)
  · rw [tl_congr fun i _ => e1 i]
    exact hq.t
  · rw [e3]
    exact Sub.refl _
end Fp
end Go.Proofs.Ytmfaipklhkgieaa
