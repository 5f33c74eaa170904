/- The law FpolyPowers, as a contract. -/
import Derived.Test.YtmfaipklhkgieaaGreatFpFr
import Derived.Test.YtmfaipklhkgieaaGreatFpPq
import Derived.Test.YtmfaipklhkgieaaGreatFpOps
namespace Go.Proofs.YtmfaipklhkgieaaGreat
open Go.RowKit
namespace Fp
theorem rp_sum {p : Int} {m f g ra rb rc : L} (hp : md p) (hm : NL p m) (ha : Rp p m (pw f.2 p.toNat) ra) (hb : Rp p m (pw g.2 p.toNat) rb) (hc : Rp p m (pw (addL p f g).2 p.toNat) rc) : addL p ra rb = rc := by
  have hs : (addL p ra rb).1 ≤ max ra.1 rb.1 := tl_le _ _
  refine Rp.eq hp hm (F := pw (addL p f g).2 p.toNat) ⟨NL.add hp ha.n hb.n, by have := ha.s; have := hb.s; omega, ?_⟩ hc
  exact (Cm.of (add_cg ra rb)).trans ((Cm.add ha.c hb.c).trans (Cm.of ((frob hp f.2 g.2).symm.trans (pw_cg (add_cg f g) _).symm)))
theorem ppow_of {p : Int} {x y r : L} (hp : md p) (hx : x.1 ≤ 4096) (hy : y.1 ≤ 1024) (h0 : (nfL p y).1 ≠ 0) (hr : Rp p (nfL p y) (pw (nfL p x).2 p.toNat) r) : FnOK Tryz.prog false 7 [.c (.int .i64 p), cl x, bi false 1 fun _ => p, cl y] (.t2 (cl r) (.c (.int .i64 0))) := by
  have h1 := hp.1
  have h2 := hp.2.1
  refine PowMod_ok hp hx hy (by decide) (fun _ => ⟨by omega, by omega⟩) h0 ?_ ?_
  · split <;> simp
  · rw [bs_of hp]
    exact hr
open Classical in
set_option maxRecDepth 100000 in
set_option maxHeartbeats 16000000 in
theorem powers_ok {p x : Int} {n m l q : Nat} {a c h d : Nat → Int} {s : Bool} (hd : ∀ i, 0 ≤ d i ∧ d i < 4294967296) : FnOK Tryz.prog false 3 [PQ p n m l q a c h d s x] (.c (.bool true)) := by
  refine fn_ok (E := E0) E0_ok Tryz.func3 rfl mixed (by kernel_rfl) (by kernel_rfl) ?_
  conv => whnf
  refine ⟨_, awake_ok, ?_⟩
  conv => whnf
  refine ⟨_, long_pq, ?_⟩
  conv => whnf
  refine bcase (fun h1 => ?_) fun h1 => ?_
  · have h1 := of_decide_eq_false (gwf h1)
    conv => whnf
    refine bcase (fun (h2 : gw false (decide ((16 : Int) < l)) = true) => ?_) fun h2 => ?_
    · have h2 := of_decide_eq_false (gwf h2)
      conv => whnf
      refine bcase (fun (h3 : gw false (decide ((16 : Int) < n)) = true) => ?_) fun h3 => ?_
      · have h3 := of_decide_eq_false (gwf h3)
        conv => whnf
        refine bcase (fun (h4 : decide ((16 : Int) < m) = true) => ?_) fun (h4 : decide ((16 : Int) < m) = false) => ?_
        · conv => whnf
          exact ⟨rfl, Sub.refl _⟩
        · have h4 := of_decide_eq_false h4
          conv => whnf
          by_cases hp : md p
          · have hp0 : 0 < p := by have := hp.1; omega
            have hdg := degree_ok (p := p) (n := l) (a := h) hp0 hp.2.1 (by omega)
            by_cases h0 : (nfL p (l, h)).1 = 0
            · refine ⟨_, PowMod_zero (x := (n, a)) (y := (l, h)) hp (by show l ≤ 4096; omega) h0, ?_⟩
              conv => whnf
              refine ⟨_, refModulus_ok, ?_⟩
              conv => whnf
              refine bneg (show (!decide (md p)) = false by simpa using hp) ?_
              conv => whnf
              refine ⟨_, hdg, ?_⟩
              conv => whnf
              refine bpos (show decide (((tl (nf p l h) l : Nat) : Int) - 1 < 0) = true by have h0 : tl (nf p l h) l = 0 := h0; simp; omega) ?_
              conv => whnf
              exact ⟨rfl, Sub.refl _⟩
            · have hdeg : ¬ (((tl (nf p l h) l : Nat) : Int) - 1 < 0) := by have h0 : tl (nf p l h) l ≠ 0 := h0; omega
              have hsg := rsign_ok (a := d) (s := s) (n := q) (by omega)
              by_cases hs : (if tl d q = 0 then (0 : Int) else if s then -1 else 1) < 0
              · have hP := PowMod_neg (x := (n, a)) (y := (l, h)) (a := d) (s := s) (q := q) hp (by show l ≤ 4096; omega) (by omega) h0 hs
                generalize (if tl d q = 0 then (0 : Int) else if s then -1 else 1) = sg at *
                refine ⟨_, hP, ?_⟩
                conv => whnf
                refine ⟨_, refModulus_ok, ?_⟩
                conv => whnf
                refine bneg (show (!decide (md p)) = false by simpa using hp) ?_
                conv => whnf
                refine ⟨_, hdg, ?_⟩
                conv => whnf
                refine bneg (show decide (((tl (nf p l h) l : Nat) : Int) - 1 < 0) = false from decide_eq_false hdeg) ?_
                conv => whnf
                refine ⟨_, hsg, ?_⟩
                conv => whnf
                refine bpos (show decide (sg < 0) = true from decide_eq_true hs) ?_
                conv => whnf
                exact ⟨rfl, Sub.refl _⟩
              · have hm := NL.nfL (x := (l, h)) hp (by show l ≤ 4096; omega)
                have hml : (nfL p (l, h)).1 ≤ 1024 := Nat.le_trans (nfL_le p (l, h)) (by show l ≤ 1024; omega)
                have hf := NL.nfL (x := (n, a)) hp (by show n ≤ 4096; omega)
                have hg := NL.nfL (x := (m, c)) hp (by show m ≤ 4096; omega)
                have hfg := NL.add hp hf hg
                have hsl : (addL p (nfL p (n, a)) (nfL p (m, c))).1 ≤ 4096 := hfg.n4
                obtain ⟨r, hr⟩ := rp_pow hp hm (Nat.pos_of_ne_zero h0) hml hf (bs (bt d) 0 (nb d (tl d q)))
                obtain ⟨ra, hra⟩ := rp_pow hp hm (Nat.pos_of_ne_zero h0) hml hf p.toNat
                obtain ⟨rb, hrb⟩ := rp_pow hp hm (Nat.pos_of_ne_zero h0) hml hg p.toNat
                obtain ⟨rc, hrc⟩ := rp_pow hp hm (Nat.pos_of_ne_zero h0) hml hfg p.toNat
                have hP := PowMod_ok (x := (n, a)) (y := (l, h)) (a := d) (s := s) (q := q) hp (by show n ≤ 4096; omega) (by show l ≤ 1024; omega) (by omega) hd h0 hs hr
                have hW := power_ok (x := (n, a)) (y := (l, h)) (a := d) (s := s) (q := q) hp (by show n ≤ 1024; omega) (by show l ≤ 1024; omega) rfl rfl (Nat.pos_of_ne_zero h0) (by omega) hd hr
                have hA := Add_L (x := (n, a)) (y := (m, c)) hp (by show n ≤ 4096; omega) (by show m ≤ 4096; omega)
                have k1 := ppow_of (x := (n, a)) (y := (l, h)) hp (by show n ≤ 4096; omega) (by show l ≤ 1024; omega) h0 hra
                have k2 := ppow_of (x := (m, c)) (y := (l, h)) hp (by show m ≤ 4096; omega) (by show l ≤ 1024; omega) h0 hrb
                have k3 := ppow_of (x := addL p (nfL p (n, a)) (nfL p (m, c))) (y := (l, h)) hp hsl (by show l ≤ 1024; omega) h0 (by rw [nfL_id hfg]; exact hrc)
                have k4 := refAdd_Lr (x := ra) (y := rb) hp hra.n.n4 hrb.n.n4
                rw [nfL_id hra.n, nfL_id hrb.n, rp_sum hp hm hra hrb hrc] at k4
                have i1 := ints_L (x := r) (by have := hr.n.n4; omega)
                have i2 := ints_L (x := rc) (by have := hrc.n.n4; omega)
                have hof := rof_ok hp0 hp.2.1
                clear hr hra hrb hrc
                generalize (if tl d q = 0 then (0 : Int) else if s then -1 else 1) = sg at *
                refine ⟨_, hP, ?_⟩
                conv => whnf
                refine ⟨_, refModulus_ok, ?_⟩
                conv => whnf
                refine bneg (show (!decide (md p)) = false by simpa using hp) ?_
                conv => whnf
                refine ⟨_, hdg, ?_⟩
                conv => whnf
                refine bneg (show decide (((tl (nf p l h) l : Nat) : Int) - 1 < 0) = false from decide_eq_false hdeg) ?_
                conv => whnf
                refine ⟨_, hsg, ?_⟩
                conv => whnf
                refine bneg (show decide (sg < 0) = false from decide_eq_false hs) ?_
                conv => whnf
                refine ⟨_, hW, ?_⟩
                conv => whnf
                refine ⟨_, i1, ?_⟩
                conv => whnf
                refine ⟨_, hA, ?_⟩
                conv => whnf
                refine ⟨_, hof, ?_⟩
                conv => whnf
                refine ⟨_, k1, ?_⟩
                conv => whnf
                refine ⟨_, hof, ?_⟩
                conv => whnf
                refine ⟨_, k2, ?_⟩
                conv => whnf
                refine ⟨_, hof, ?_⟩
                conv => whnf
                refine ⟨_, k3, ?_⟩
                conv => whnf
                refine ⟨_, k4, ?_⟩
                conv => whnf
                refine ⟨_, i2, ?_⟩
                conv => whnf
                exact ⟨rfl, Sub.refl _⟩
          · refine ⟨_, PowMod_no (x := (n, a)) (y := (l, h)) hp rfl, ?_⟩
            conv => whnf
            refine ⟨_, refModulus_ok, ?_⟩
            conv => whnf
            refine bpos (show (!decide (md p)) = true by simpa using hp) ?_
            conv => whnf
            exact ⟨rfl, Sub.refl _⟩
      · conv => whnf
        exact ⟨rfl, Sub.refl _⟩
    · conv => whnf
      exact ⟨rfl, Sub.refl _⟩
  · conv => whnf
    exact ⟨rfl, Sub.refl _⟩
end Fp
end Go.Proofs.YtmfaipklhkgieaaGreat
