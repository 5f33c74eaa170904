/- Blocks as parts of themselves. -/
import Derived.Test.YtigciplaoikcfaaGreatGl
namespace Go.Proofs.YtigciplaoikcfaaGreat
open Go.RowKit
/-- A whole block of one's own is also a part of itself. -/
theorem Weak.gs_sl {m0 : Nat} {tm tm' : Nat → V} {bl : List Blk} {k : Nat} {B : Blk} (hB : bl[k]? = some B) (hst : B.st ≤ 1) (ht : ∀ t, tm' t = tm t ∨ (tm t = .c (.gs k B.u) ∧ tm' t = .c (.sl k B.u B.sz 0 B.n))) : Weak m0 ⟨tm, bl⟩ ⟨tm', bl⟩ := by
  rintro C a w hm0 ⟨ρ, hs, hN, hdf, hf⟩
  refine ⟨ρ, hs, hN, hdf, fun t => ?_⟩
  have h := hf t
  rcases ht t with e | ⟨e1, e2⟩
  · show VRel _ _ _ (tm' t) _
    rw [e]; exact h
  · show VRel _ _ _ (tm' t) _
    rw [e2]
    have h : VRel (Dof C.D0 ρ bl) w ρ (tm t) (a.tmps.getD t undef) := h
    rw [e1] at h
    obtain ⟨l, l1, l2, l3⟩ := h
    refine ⟨l, l1, l2, fun hu => ?_⟩
    have ev := l3 hu
    have hat := hs.at_ k l B l1 hB hst
    rcases hat.2 with ⟨p1, p2, p3⟩ | ⟨b, cap, cs, p2, p3, p4, p5, p6, p7, p8, p9⟩
    · have e : l.v = .slice none 0 0 := p3
      have en : l.n = 0 := by unfold Loc.v at e; injection e
      refine ⟨by omega, none, 0, by rw [ev, p3, p1], by omega, fun h => by omega⟩
    · have e : l.v = .slice (some ⟨b, 0, none⟩) B.n cap := p4
      have en : l.n = B.n := by unfold Loc.v at e; injection e
      exact ⟨by omega, some ⟨b, 0, none⟩, cap, by rw [ev, p4], p7, fun _ => ⟨b, p2, by rw [Nat.zero_mul]⟩⟩
end Go.Proofs.YtigciplaoikcfaaGreat
