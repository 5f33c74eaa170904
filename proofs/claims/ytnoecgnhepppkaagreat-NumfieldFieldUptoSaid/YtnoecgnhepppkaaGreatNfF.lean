/- The law NumfieldField over abstract arguments. -/
import Derived.Test.YtnoecgnhepppkaaGreatNfQ
import Derived.Test.YtnoecgnhepppkaaGreatNfAwake
import Derived.Test.YtnoecgnhepppkaaGreatCut
namespace Go.Proofs.YtnoecgnhepppkaaGreat
open Go.RowKit
namespace Rf
theorem short_two {n m : Nat} {q p : Nat → RawR} {r : Bool} (hq : ∀ j, j < n → dgq (q j)) (hp : ∀ j, j < m → dgq (p j)) (hr : r = true ↔ (n ≤ 12 ∧ ∀ j, j < n → okq (q j)) ∧ m ≤ 12 ∧ ∀ j, j < m → okq (p j)) : FnOK Tryz.prog false 9 [.c (.row 1 2 (rowF 1 [ql n q, ql m p]))] (.c (.bool r)) := by
  have h := short_ok (k := 2) (n := fun i => if i = 0 then n else m) (q := fun i => if i = 0 then q else p) (r := r) (Nat.le_refl _) (fun i j hi hj => by
    match i, hi with
    | 0, _ => exact hq j hj
    | 1, _ => exact hp j hj) (by
    rw [hr]
    refine ⟨fun ⟨a, b⟩ i hi => ?_, fun a => ⟨a 0 (by decide), a 1 (by decide)⟩⟩
    match i, hi with
    | 0, _ => exact a
    | 1, _ => exact b)
  refine arg_ok h fun D w vs h => ?_
  match vs, h with
  | [v1], ⟨h1, _⟩ =>
    refine ⟨subRowG rfl (fun i j hi hj => ?_) D w v1 h1, trivial⟩
    match i, j, hi, hj with
    | 0, 0, _, _ => rfl
    | 1, 0, _, _ => rfl
abbrev sf0 (n : Nat) (na : Nat) (nb : Nat) (c : Nat → RawZ) (qa : Nat → RawR) (qb : Nat → RawR) : St := gst [(1, .c (ql na qa)), (2, .c (ql nb qb)), (3, .c (.p 0 0 1 0 0))] [⟨25, 1, 1, boxF [zl n c]⟩]
abbrev sf1 (n : Nat) (na : Nat) (nb : Nat) (c : Nat → RawZ) (qa : Nat → RawR) (qb : Nat → RawR) (t1 : Nat) (one : Nat → Rat) : St := gst [(1, .c (ql na qa)), (2, .c (ql nb qb)), (3, .c (.p 0 0 1 0 0)), (7, .c (nql t1 one)), (8, .c (.int .i64 0))] [⟨25, 1, 1, boxF [zl n c]⟩]
abbrev sf2 (n : Nat) (na : Nat) (nb : Nat) (c : Nat → RawZ) (qa : Nat → RawR) (qb : Nat → RawR) (t1 : Nat) (t2 : Nat) (one : Nat → Rat) (sq : Nat → Rat) : St := gst [(1, .c (ql na qa)), (2, .c (ql nb qb)), (3, .c (.p 0 0 1 0 0)), (7, .c (nql t1 one)), (8, .c (.int .i64 0)), (9, .c (nql t2 sq)), (10, .c (.int .i64 0))] [⟨25, 1, 1, boxF [zl n c]⟩]
abbrev sf3 (n : Nat) (na : Nat) (nb : Nat) (c : Nat → RawZ) (qa : Nat → RawR) (qb : Nat → RawR) (t1 : Nat) (t2 : Nat) (t3 : Nat) (one : Nat → Rat) (sq : Nat → Rat) (aa : Nat → Rat) : St := gst [(1, .c (ql na qa)), (2, .c (ql nb qb)), (3, .c (.p 0 0 1 0 0)), (7, .c (nql t1 one)), (8, .c (.int .i64 0)), (9, .c (nql t2 sq)), (10, .c (.int .i64 0)), (11, .c (nql t3 aa))] [⟨25, 1, 1, boxF [zl n c]⟩]
abbrev sf4 (n : Nat) (na : Nat) (nb : Nat) (c : Nat → RawZ) (qa : Nat → RawR) (qb : Nat → RawR) (t1 : Nat) (t2 : Nat) (t3 : Nat) (t4 : Nat) (one : Nat → Rat) (sq : Nat → Rat) (aa : Nat → Rat) (ab : Nat → Rat) : St := gst [(1, .c (ql na qa)), (2, .c (ql nb qb)), (3, .c (.p 0 0 1 0 0)), (7, .c (nql t1 one)), (8, .c (.int .i64 0)), (9, .c (nql t2 sq)), (10, .c (.int .i64 0)), (11, .c (nql t3 aa)), (13, .c (nql t4 ab))] [⟨25, 1, 1, boxF [zl n c]⟩]
abbrev sf5 (n : Nat) (na : Nat) (nb : Nat) (c : Nat → RawZ) (qa : Nat → RawR) (qb : Nat → RawR) (t1 : Nat) (t2 : Nat) (t3 : Nat) (t4 : Nat) (one : Nat → Rat) (sq : Nat → Rat) (aa : Nat → Rat) (ab : Nat → Rat) : St := gst [(1, .c (ql na qa)), (2, .c (ql nb qb)), (3, .c (.p 0 0 1 0 0)), (7, .c (nql t1 one)), (8, .c (.int .i64 0)), (9, .c (nql t2 sq)), (10, .c (.int .i64 0)), (11, .c (nql t3 aa)), (13, .c (nql t4 ab)), (15, .c (nql t4 ab))] [⟨25, 1, 1, boxF [zl n c]⟩]
abbrev sf6 (n : Nat) (na : Nat) (nb : Nat) (c : Nat → RawZ) (qa : Nat → RawR) (qb : Nat → RawR) (t1 : Nat) (t2 : Nat) (t3 : Nat) (t4 : Nat) (t5 : Nat) (one : Nat → Rat) (sq : Nat → Rat) (aa : Nat → Rat) (ab : Nat → Rat) (bb : Nat → Rat) : St := gst [(1, .c (ql na qa)), (2, .c (ql nb qb)), (3, .c (.p 0 0 1 0 0)), (7, .c (nql t1 one)), (8, .c (.int .i64 0)), (9, .c (nql t2 sq)), (10, .c (.int .i64 0)), (11, .c (nql t3 aa)), (13, .c (nql t4 ab)), (15, .c (nql t4 ab)), (17, .c (nql t5 bb))] [⟨25, 1, 1, boxF [zl n c]⟩]
abbrev sf7 (n : Nat) (na : Nat) (nb : Nat) (c : Nat → RawZ) (qa : Nat → RawR) (qb : Nat → RawR) (t1 : Nat) (t2 : Nat) (t3 : Nat) (t4 : Nat) (t5 : Nat) (t6 : Nat) (one : Nat → Rat) (sq : Nat → Rat) (aa : Nat → Rat) (ab : Nat → Rat) (bb : Nat → Rat) (two : Nat → Rat) : St := gst [(1, .c (ql na qa)), (2, .c (ql nb qb)), (3, .c (.p 0 0 1 0 0)), (7, .c (nql t1 one)), (8, .c (.int .i64 0)), (9, .c (nql t2 sq)), (10, .c (.int .i64 0)), (11, .c (nql t3 aa)), (13, .c (nql t4 ab)), (15, .c (nql t4 ab)), (17, .c (nql t5 bb)), (19, .c (nql t6 two))] [⟨25, 1, 1, boxF [zl n c]⟩]
abbrev sf8 (n : Nat) (na : Nat) (nb : Nat) (c : Nat → RawZ) (qa : Nat → RawR) (qb : Nat → RawR) (t1 : Nat) (t2 : Nat) (t3 : Nat) (t4 : Nat) (t5 : Nat) (t6 : Nat) (t7 : Nat) (one : Nat → Rat) (sq : Nat → Rat) (aa : Nat → Rat) (ab : Nat → Rat) (bb : Nat → Rat) (two : Nat → Rat) (s1 : Nat → Rat) : St := gst [(1, .c (ql na qa)), (2, .c (ql nb qb)), (3, .c (.p 0 0 1 0 0)), (7, .c (nql t1 one)), (8, .c (.int .i64 0)), (9, .c (nql t2 sq)), (10, .c (.int .i64 0)), (11, .c (nql t3 aa)), (13, .c (nql t4 ab)), (15, .c (nql t4 ab)), (17, .c (nql t5 bb)), (19, .c (nql t6 two)), (21, .c (nql t7 s1))] [⟨25, 1, 1, boxF [zl n c]⟩]
abbrev sf9 (n : Nat) (na : Nat) (nb : Nat) (c : Nat → RawZ) (qa : Nat → RawR) (qb : Nat → RawR) (t1 : Nat) (t2 : Nat) (t3 : Nat) (t4 : Nat) (t5 : Nat) (t6 : Nat) (one : Nat → Rat) (sq : Nat → Rat) (aa : Nat → Rat) (ab : Nat → Rat) (bb : Nat → Rat) (two : Nat → Rat) : St := gst [(1, .c (ql na qa)), (2, .c (ql nb qb)), (3, .c (.p 0 0 1 0 0)), (7, .c (nql t1 one)), (8, .c (.int .i64 0)), (9, .c (nql t2 sq)), (10, .c (.int .i64 0)), (11, .c (nql t3 aa)), (13, .c (nql t4 ab)), (15, .c (nql t4 ab)), (17, .c (nql t5 bb)), (19, .c (nql t6 two)), (21, .c (nql t2 sq)), (23, .c (.int .i64 0))] [⟨25, 1, 1, boxF [zl n c]⟩]
abbrev sf10 (n : Nat) (na : Nat) (nb : Nat) (c : Nat → RawZ) (qa : Nat → RawR) (qb : Nat → RawR) (d : Nat) (t1 : Nat) (t2 : Nat) (t3 : Nat) (t4 : Nat) (t5 : Nat) (t6 : Nat) (one : Nat → Rat) (sq : Nat → Rat) (aa : Nat → Rat) (ab : Nat → Rat) (bb : Nat → Rat) (two : Nat → Rat) (Ma : Nat → Nat → Rat) : St := gst [(1, .c (ql na qa)), (2, .c (ql nb qb)), (3, .c (.p 0 0 1 0 0)), (7, .c (nql t1 one)), (8, .c (.int .i64 0)), (9, .c (nql t2 sq)), (10, .c (.int .i64 0)), (11, .c (nql t3 aa)), (13, .c (nql t4 ab)), (15, .c (nql t4 ab)), (17, .c (nql t5 bb)), (19, .c (nql t6 two)), (21, .c (nql t2 sq)), (23, .c (.int .i64 0)), (24, .c (.p 1 0 3 0 0)), (25, .c (.int .i64 0))] [⟨25, 1, 1, boxF [zl n c]⟩, ⟨51, 3, 1, boxF (matL d d Ma)⟩]
abbrev sf11 (n : Nat) (na : Nat) (nb : Nat) (c : Nat → RawZ) (qa : Nat → RawR) (qb : Nat → RawR) (d : Nat) (t1 : Nat) (t2 : Nat) (t3 : Nat) (t4 : Nat) (t5 : Nat) (t6 : Nat) (one : Nat → Rat) (sq : Nat → Rat) (aa : Nat → Rat) (ab : Nat → Rat) (bb : Nat → Rat) (two : Nat → Rat) (Ma : Nat → Nat → Rat) (Mb : Nat → Nat → Rat) : St := gst [(1, .c (ql na qa)), (2, .c (ql nb qb)), (3, .c (.p 0 0 1 0 0)), (7, .c (nql t1 one)), (8, .c (.int .i64 0)), (9, .c (nql t2 sq)), (10, .c (.int .i64 0)), (11, .c (nql t3 aa)), (13, .c (nql t4 ab)), (15, .c (nql t4 ab)), (17, .c (nql t5 bb)), (19, .c (nql t6 two)), (21, .c (nql t2 sq)), (23, .c (.int .i64 0)), (24, .c (.p 1 0 3 0 0)), (25, .c (.int .i64 0)), (26, .c (.p 2 0 3 0 0)), (27, .c (.int .i64 0))] [⟨25, 1, 1, boxF [zl n c]⟩, ⟨51, 3, 1, boxF (matL d d Ma)⟩, ⟨51, 3, 1, boxF (matL d d Mb)⟩]
abbrev sf12 (n : Nat) (na : Nat) (nb : Nat) (c : Nat → RawZ) (qa : Nat → RawR) (qb : Nat → RawR) (d : Nat) (t1 : Nat) (t2 : Nat) (t3 : Nat) (t4 : Nat) (t5 : Nat) (t6 : Nat) (one : Nat → Rat) (sq : Nat → Rat) (aa : Nat → Rat) (ab : Nat → Rat) (bb : Nat → Rat) (two : Nat → Rat) (Ma : Nat → Nat → Rat) (Mb : Nat → Nat → Rat) (Mx : Nat → Nat → Rat) : St := gst [(1, .c (ql na qa)), (2, .c (ql nb qb)), (3, .c (.p 0 0 1 0 0)), (7, .c (nql t1 one)), (8, .c (.int .i64 0)), (9, .c (nql t2 sq)), (10, .c (.int .i64 0)), (11, .c (nql t3 aa)), (13, .c (nql t4 ab)), (15, .c (nql t4 ab)), (17, .c (nql t5 bb)), (19, .c (nql t6 two)), (21, .c (nql t2 sq)), (23, .c (.int .i64 0)), (24, .c (.p 1 0 3 0 0)), (25, .c (.int .i64 0)), (26, .c (.p 2 0 3 0 0)), (27, .c (.int .i64 0)), (28, .c (.p 3 0 3 0 0)), (29, .c (.int .i64 0))] [⟨25, 1, 1, boxF [zl n c]⟩, ⟨51, 3, 1, boxF (matL d d Ma)⟩, ⟨51, 3, 1, boxF (matL d d Mb)⟩, ⟨51, 3, 1, boxF (matL d d Mx)⟩]
set_option maxRecDepth 100000 in
set_option maxHeartbeats 64000000 in
theorem field_no1 {n na nb : Nat} {c : Nat → RawZ} {qa qb : Nat → RawR} (h1 : FnOK Tryz.prog true 8 [.g [zl n c], .c (.int .i64 6)] (.c (.bool false))) : FnOK Tryz.prog true 4 [.g [zl n c], .c (ql na qa), .c (ql nb qb)] (.c (.bool true)) := by
  have h0 := nfAwake_ok.weak (r := true)
  refine fn_okS (E := E1) E1_ok Tryz.func4 rfl (by kernel_rfl) ?_
  refine swp_seq0 E1_ok mixed (by kernel_rfl) ?_
  conv => whnf
  refine swp_seq0 E1_ok mixed (by kernel_rfl) ?_
  conv => whnf
  refine ⟨_, h0, ?_⟩
  conv => whnf
  refine swp_of E1_ok mixed (by kernel_rfl) ?_
  conv => whnf
  refine ⟨_, h1, ?_⟩
  conv => whnf
  exact ⟨rfl, Sub.refl _⟩
set_option maxRecDepth 100000 in
set_option maxHeartbeats 64000000 in
theorem field_no2 {n na nb : Nat} {c : Nat → RawZ} {qa qb : Nat → RawR} (h1 : FnOK Tryz.prog true 8 [.g [zl n c], .c (.int .i64 6)] (.c (.bool true))) (h2 : FnOK Tryz.prog true 9 [.c (.row 1 2 (rowF 1 [ql na qa, ql nb qb]))] (.c (.bool false))) : FnOK Tryz.prog true 4 [.g [zl n c], .c (ql na qa), .c (ql nb qb)] (.c (.bool true)) := by
  have h0 := nfAwake_ok.weak (r := true)
  refine fn_okS (E := E1) E1_ok Tryz.func4 rfl (by kernel_rfl) ?_
  refine swp_seq0 E1_ok mixed (by kernel_rfl) ?_
  conv => whnf
  refine swp_seq0 E1_ok mixed (by kernel_rfl) ?_
  conv => whnf
  refine ⟨_, h0, ?_⟩
  conv => whnf
  refine swp_of E1_ok mixed (by kernel_rfl) ?_
  conv => whnf
  refine ⟨_, h1, ?_⟩
  conv => whnf
  refine ⟨fun i j hi hj => ?_, ?_⟩
  · match i, j, hi, hj with
    | 0, 0, _, _ => rfl
    | 1, 0, _, _ => rfl
  conv => whnf
  refine ⟨_, h2, ?_⟩
  conv => whnf
  exact ⟨rfl, Sub.refl _⟩
set_option maxRecDepth 100000 in
set_option maxHeartbeats 64000000 in
theorem field_yes {n na nb : Nat} {c : Nat → RawZ} {qa qb : Nat → RawR} (h1 : FnOK Tryz.prog true 8 [.g [zl n c], .c (.int .i64 6)] (.c (.bool true))) (h2 : FnOK Tryz.prog true 9 [.c (.row 1 2 (rowF 1 [ql na qa, ql nb qb]))] (.c (.bool true))) {d t1 t2 t3 t4 t5 t6 t7 : Nat} {one sq aa ab bb two s1 : Nat → Rat} {Ma Mb Mx : Nat → Nat → Rat} (K : Calls14 n na nb c qa qb d t1 t2 t3 t4 t5 t6 t7 one sq aa ab bb two s1 Ma Mb Mx) : FnOK Tryz.prog true 4 [.g [zl n c], .c (ql na qa), .c (ql nb qb)] (.c (.bool true)) := by
  have h0 := nfAwake_ok.weak (r := true)
  obtain ⟨k1, k2, k3, k4, k5, k6, k7, k8, k9, k10, k11, k12, k13, k14, k15, k16⟩ := K
  refine fn_okS (E := E1) E1_ok Tryz.func4 rfl (by kernel_rfl) ?_
  refine swp_seq0 E1_ok mixed (by kernel_rfl) ?_
  conv => whnf
  refine swp_seq0 E1_ok mixed (by kernel_rfl) ?_
  conv => whnf
  refine ⟨_, h0, ?_⟩
  conv => whnf
  refine swp_seq E1_ok mixed (by kernel_rfl) ?_
  conv => whnf
  refine ⟨_, h1, ?_⟩
  conv => whnf
  refine ⟨fun i j hi hj => ?_, ?_⟩
  · match i, j, hi, hj with
    | 0, 0, _, _ => rfl
    | 1, 0, _, _ => rfl
  conv => whnf
  refine ⟨_, h2, ?_⟩
  conv => whnf
  refine ⟨sf0 n na nb c qa qb, Weak.gen [some 0] rfl ⟨boxK rfl rfl, trivial⟩ ⟨.inl ⟨_, _, rfl, rfl, fun _ _ _ _ => rfl⟩, .inl ⟨_, _, rfl, rfl, fun _ _ _ _ => rfl⟩, ⟨_, rfl, rfl, rfl⟩, trivial⟩, ?_⟩
  refine swp_seq E1_ok mixed (by kernel_rfl) ?_
  conv => whnf
  refine ⟨_, k1, ?_⟩
  conv => whnf
  refine ⟨sf1 n na nb c qa qb t1 one, Weak.gen [some 0] rfl ⟨boxK rfl rfl, trivial⟩ ⟨.inl ⟨_, _, rfl, rfl, fun _ _ _ _ => rfl⟩, .inl ⟨_, _, rfl, rfl, fun _ _ _ _ => rfl⟩, ⟨_, rfl, rfl, rfl⟩, .inl ⟨_, _, rfl, rfl, fun _ _ _ _ => rfl⟩, ⟨_, rfl, rfl⟩, trivial⟩, ?_⟩
  refine swp_seq E1_ok mixed (by kernel_rfl) ?_
  conv => whnf
  refine ⟨_, k2, ?_⟩
  conv => whnf
  refine ⟨sf2 n na nb c qa qb t1 t2 one sq, Weak.gen [some 0] rfl ⟨boxK rfl rfl, trivial⟩ ⟨.inl ⟨_, _, rfl, rfl, fun _ _ _ _ => rfl⟩, .inl ⟨_, _, rfl, rfl, fun _ _ _ _ => rfl⟩, ⟨_, rfl, rfl, rfl⟩, .inl ⟨_, _, rfl, rfl, fun _ _ _ _ => rfl⟩, ⟨_, rfl, rfl⟩, .inl ⟨_, _, rfl, rfl, fun _ _ _ _ => rfl⟩, ⟨_, rfl, rfl⟩, trivial⟩, ?_⟩
  refine swp_seq E1_ok mixed (by kernel_rfl) ?_
  conv => whnf
  refine ⟨_, k3, ?_⟩
  conv => whnf
  refine ⟨sf3 n na nb c qa qb t1 t2 t3 one sq aa, Weak.gen [some 0] rfl ⟨boxK rfl rfl, trivial⟩ ⟨.inl ⟨_, _, rfl, rfl, fun _ _ _ _ => rfl⟩, .inl ⟨_, _, rfl, rfl, fun _ _ _ _ => rfl⟩, ⟨_, rfl, rfl, rfl⟩, .inl ⟨_, _, rfl, rfl, fun _ _ _ _ => rfl⟩, ⟨_, rfl, rfl⟩, .inl ⟨_, _, rfl, rfl, fun _ _ _ _ => rfl⟩, ⟨_, rfl, rfl⟩, .inl ⟨_, _, rfl, rfl, fun _ _ _ _ => rfl⟩, trivial⟩, ?_⟩
  refine swp_seq E1_ok mixed (by kernel_rfl) ?_
  conv => whnf
  refine ⟨_, k4, ?_⟩
  conv => whnf
  refine ⟨sf4 n na nb c qa qb t1 t2 t3 t4 one sq aa ab, Weak.gen [some 0] rfl ⟨boxK rfl rfl, trivial⟩ ⟨.inl ⟨_, _, rfl, rfl, fun _ _ _ _ => rfl⟩, .inl ⟨_, _, rfl, rfl, fun _ _ _ _ => rfl⟩, ⟨_, rfl, rfl, rfl⟩, .inl ⟨_, _, rfl, rfl, fun _ _ _ _ => rfl⟩, ⟨_, rfl, rfl⟩, .inl ⟨_, _, rfl, rfl, fun _ _ _ _ => rfl⟩, ⟨_, rfl, rfl⟩, .inl ⟨_, _, rfl, rfl, fun _ _ _ _ => rfl⟩, .inl ⟨_, _, rfl, rfl, fun _ _ _ _ => rfl⟩, trivial⟩, ?_⟩
  refine swp_seq E1_ok mixed (by kernel_rfl) ?_
  conv => whnf
  refine ⟨_, k5, ?_⟩
  conv => whnf
  refine ⟨sf5 n na nb c qa qb t1 t2 t3 t4 one sq aa ab, Weak.gen [some 0] rfl ⟨boxK rfl rfl, trivial⟩ ⟨.inl ⟨_, _, rfl, rfl, fun _ _ _ _ => rfl⟩, .inl ⟨_, _, rfl, rfl, fun _ _ _ _ => rfl⟩, ⟨_, rfl, rfl, rfl⟩, .inl ⟨_, _, rfl, rfl, fun _ _ _ _ => rfl⟩, ⟨_, rfl, rfl⟩, .inl ⟨_, _, rfl, rfl, fun _ _ _ _ => rfl⟩, ⟨_, rfl, rfl⟩, .inl ⟨_, _, rfl, rfl, fun _ _ _ _ => rfl⟩, .inl ⟨_, _, rfl, rfl, fun _ _ _ _ => rfl⟩, .inl ⟨_, _, rfl, rfl, fun _ _ _ _ => rfl⟩, trivial⟩, ?_⟩
  refine swp_seq E1_ok mixed (by kernel_rfl) ?_
  conv => whnf
  refine ⟨_, k6, ?_⟩
  conv => whnf
  refine ⟨sf6 n na nb c qa qb t1 t2 t3 t4 t5 one sq aa ab bb, Weak.gen [some 0] rfl ⟨boxK rfl rfl, trivial⟩ ⟨.inl ⟨_, _, rfl, rfl, fun _ _ _ _ => rfl⟩, .inl ⟨_, _, rfl, rfl, fun _ _ _ _ => rfl⟩, ⟨_, rfl, rfl, rfl⟩, .inl ⟨_, _, rfl, rfl, fun _ _ _ _ => rfl⟩, ⟨_, rfl, rfl⟩, .inl ⟨_, _, rfl, rfl, fun _ _ _ _ => rfl⟩, ⟨_, rfl, rfl⟩, .inl ⟨_, _, rfl, rfl, fun _ _ _ _ => rfl⟩, .inl ⟨_, _, rfl, rfl, fun _ _ _ _ => rfl⟩, .inl ⟨_, _, rfl, rfl, fun _ _ _ _ => rfl⟩, .inl ⟨_, _, rfl, rfl, fun _ _ _ _ => rfl⟩, trivial⟩, ?_⟩
  refine swp_seq E1_ok mixed (by kernel_rfl) ?_
  conv => whnf
  refine ⟨_, k7, ?_⟩
  conv => whnf
  refine ⟨sf7 n na nb c qa qb t1 t2 t3 t4 t5 t6 one sq aa ab bb two, Weak.gen [some 0] rfl ⟨boxK rfl rfl, trivial⟩ ⟨.inl ⟨_, _, rfl, rfl, fun _ _ _ _ => rfl⟩, .inl ⟨_, _, rfl, rfl, fun _ _ _ _ => rfl⟩, ⟨_, rfl, rfl, rfl⟩, .inl ⟨_, _, rfl, rfl, fun _ _ _ _ => rfl⟩, ⟨_, rfl, rfl⟩, .inl ⟨_, _, rfl, rfl, fun _ _ _ _ => rfl⟩, ⟨_, rfl, rfl⟩, .inl ⟨_, _, rfl, rfl, fun _ _ _ _ => rfl⟩, .inl ⟨_, _, rfl, rfl, fun _ _ _ _ => rfl⟩, .inl ⟨_, _, rfl, rfl, fun _ _ _ _ => rfl⟩, .inl ⟨_, _, rfl, rfl, fun _ _ _ _ => rfl⟩, .inl ⟨_, _, rfl, rfl, fun _ _ _ _ => rfl⟩, trivial⟩, ?_⟩
  refine swp_seq E1_ok mixed (by kernel_rfl) ?_
  conv => whnf
  refine ⟨_, k8, ?_⟩
  conv => whnf
  refine ⟨sf8 n na nb c qa qb t1 t2 t3 t4 t5 t6 t7 one sq aa ab bb two s1, Weak.gen [some 0] rfl ⟨boxK rfl rfl, trivial⟩ ⟨.inl ⟨_, _, rfl, rfl, fun _ _ _ _ => rfl⟩, .inl ⟨_, _, rfl, rfl, fun _ _ _ _ => rfl⟩, ⟨_, rfl, rfl, rfl⟩, .inl ⟨_, _, rfl, rfl, fun _ _ _ _ => rfl⟩, ⟨_, rfl, rfl⟩, .inl ⟨_, _, rfl, rfl, fun _ _ _ _ => rfl⟩, ⟨_, rfl, rfl⟩, .inl ⟨_, _, rfl, rfl, fun _ _ _ _ => rfl⟩, .inl ⟨_, _, rfl, rfl, fun _ _ _ _ => rfl⟩, .inl ⟨_, _, rfl, rfl, fun _ _ _ _ => rfl⟩, .inl ⟨_, _, rfl, rfl, fun _ _ _ _ => rfl⟩, .inl ⟨_, _, rfl, rfl, fun _ _ _ _ => rfl⟩, .inl ⟨_, _, rfl, rfl, fun _ _ _ _ => rfl⟩, trivial⟩, ?_⟩
  refine swp_seq E1_ok mixed (by kernel_rfl) ?_
  conv => whnf
  refine ⟨_, k9, ?_⟩
  conv => whnf
  refine ⟨sf9 n na nb c qa qb t1 t2 t3 t4 t5 t6 one sq aa ab bb two, Weak.gen [some 0] rfl ⟨boxK rfl rfl, trivial⟩ ⟨.inl ⟨_, _, rfl, rfl, fun _ _ _ _ => rfl⟩, .inl ⟨_, _, rfl, rfl, fun _ _ _ _ => rfl⟩, ⟨_, rfl, rfl, rfl⟩, .inl ⟨_, _, rfl, rfl, fun _ _ _ _ => rfl⟩, ⟨_, rfl, rfl⟩, .inl ⟨_, _, rfl, rfl, fun _ _ _ _ => rfl⟩, ⟨_, rfl, rfl⟩, .inl ⟨_, _, rfl, rfl, fun _ _ _ _ => rfl⟩, .inl ⟨_, _, rfl, rfl, fun _ _ _ _ => rfl⟩, .inl ⟨_, _, rfl, rfl, fun _ _ _ _ => rfl⟩, .inl ⟨_, _, rfl, rfl, fun _ _ _ _ => rfl⟩, .inl ⟨_, _, rfl, rfl, fun _ _ _ _ => rfl⟩, .inl ⟨_, _, rfl, rfl, fun _ _ _ _ => rfl⟩, ⟨_, rfl, rfl⟩, trivial⟩, ?_⟩
  refine swp_seq E1_ok mixed (by kernel_rfl) ?_
  conv => whnf
  refine ⟨_, k10, ?_⟩
  conv => whnf
  refine ⟨sf10 n na nb c qa qb d t1 t2 t3 t4 t5 t6 one sq aa ab bb two Ma, Weak.gen [some 0, some 1] rfl ⟨boxK rfl rfl, boxU rfl rfl rfl, trivial⟩ ⟨.inl ⟨_, _, rfl, rfl, fun _ _ _ _ => rfl⟩, .inl ⟨_, _, rfl, rfl, fun _ _ _ _ => rfl⟩, ⟨_, rfl, rfl, rfl⟩, .inl ⟨_, _, rfl, rfl, fun _ _ _ _ => rfl⟩, ⟨_, rfl, rfl⟩, .inl ⟨_, _, rfl, rfl, fun _ _ _ _ => rfl⟩, ⟨_, rfl, rfl⟩, .inl ⟨_, _, rfl, rfl, fun _ _ _ _ => rfl⟩, .inl ⟨_, _, rfl, rfl, fun _ _ _ _ => rfl⟩, .inl ⟨_, _, rfl, rfl, fun _ _ _ _ => rfl⟩, .inl ⟨_, _, rfl, rfl, fun _ _ _ _ => rfl⟩, .inl ⟨_, _, rfl, rfl, fun _ _ _ _ => rfl⟩, .inl ⟨_, _, rfl, rfl, fun _ _ _ _ => rfl⟩, ⟨_, rfl, rfl⟩, ⟨_, rfl, rfl, rfl⟩, ⟨_, rfl, rfl⟩, trivial⟩, ?_⟩
  refine swp_seq E1_ok mixed (by kernel_rfl) ?_
  conv => whnf
  refine ⟨_, k11, ?_⟩
  conv => whnf
  refine ⟨sf11 n na nb c qa qb d t1 t2 t3 t4 t5 t6 one sq aa ab bb two Ma Mb, Weak.gen [some 0, some 1, some 2] rfl ⟨boxK rfl rfl, boxK rfl rfl, boxU rfl rfl rfl, trivial⟩ ⟨.inl ⟨_, _, rfl, rfl, fun _ _ _ _ => rfl⟩, .inl ⟨_, _, rfl, rfl, fun _ _ _ _ => rfl⟩, ⟨_, rfl, rfl, rfl⟩, .inl ⟨_, _, rfl, rfl, fun _ _ _ _ => rfl⟩, ⟨_, rfl, rfl⟩, .inl ⟨_, _, rfl, rfl, fun _ _ _ _ => rfl⟩, ⟨_, rfl, rfl⟩, .inl ⟨_, _, rfl, rfl, fun _ _ _ _ => rfl⟩, .inl ⟨_, _, rfl, rfl, fun _ _ _ _ => rfl⟩, .inl ⟨_, _, rfl, rfl, fun _ _ _ _ => rfl⟩, .inl ⟨_, _, rfl, rfl, fun _ _ _ _ => rfl⟩, .inl ⟨_, _, rfl, rfl, fun _ _ _ _ => rfl⟩, .inl ⟨_, _, rfl, rfl, fun _ _ _ _ => rfl⟩, ⟨_, rfl, rfl⟩, ⟨_, rfl, rfl, rfl⟩, ⟨_, rfl, rfl⟩, ⟨_, rfl, rfl, rfl⟩, ⟨_, rfl, rfl⟩, trivial⟩, ?_⟩
  refine swp_seq E1_ok mixed (by kernel_rfl) ?_
  conv => whnf
  refine ⟨_, k12, ?_⟩
  conv => whnf
  refine ⟨sf12 n na nb c qa qb d t1 t2 t3 t4 t5 t6 one sq aa ab bb two Ma Mb Mx, Weak.gen [some 0, some 1, some 2, some 3] rfl ⟨boxK rfl rfl, boxK rfl rfl, boxK rfl rfl, boxU rfl rfl rfl, trivial⟩ ⟨.inl ⟨_, _, rfl, rfl, fun _ _ _ _ => rfl⟩, .inl ⟨_, _, rfl, rfl, fun _ _ _ _ => rfl⟩, ⟨_, rfl, rfl, rfl⟩, .inl ⟨_, _, rfl, rfl, fun _ _ _ _ => rfl⟩, ⟨_, rfl, rfl⟩, .inl ⟨_, _, rfl, rfl, fun _ _ _ _ => rfl⟩, ⟨_, rfl, rfl⟩, .inl ⟨_, _, rfl, rfl, fun _ _ _ _ => rfl⟩, .inl ⟨_, _, rfl, rfl, fun _ _ _ _ => rfl⟩, .inl ⟨_, _, rfl, rfl, fun _ _ _ _ => rfl⟩, .inl ⟨_, _, rfl, rfl, fun _ _ _ _ => rfl⟩, .inl ⟨_, _, rfl, rfl, fun _ _ _ _ => rfl⟩, .inl ⟨_, _, rfl, rfl, fun _ _ _ _ => rfl⟩, ⟨_, rfl, rfl⟩, ⟨_, rfl, rfl, rfl⟩, ⟨_, rfl, rfl⟩, ⟨_, rfl, rfl, rfl⟩, ⟨_, rfl, rfl⟩, ⟨_, rfl, rfl, rfl⟩, ⟨_, rfl, rfl⟩, trivial⟩, ?_⟩
  refine swp_of E1_ok mixed (by kernel_rfl) ?_
  conv => whnf
  refine ⟨_, k13, ?_⟩
  conv => whnf
  refine ⟨_, k14, ?_⟩
  conv => whnf
  refine ⟨_, k15, ?_⟩
  conv => whnf
  refine ⟨_, k16, ?_⟩
  conv => whnf
  exact ⟨rfl, Sub.refl _⟩
open Classical in
/-- **The law's answer.** -/
theorem field_ok {n na nb : Nat} {c : Nat → RawZ} {qa qb : Nat → RawR} (hc : ∀ i, i < n → wr (c i)) (hz : ∀ i, n ≤ i → vz c i = 0) (ha : ∀ j, j < na → dgq (qa j)) (hb : ∀ j, j < nb → dgq (qb j)) : FnOK Tryz.prog true 4 [.g [zl n c], .c (ql na qa), .c (ql nb qb)] (.c (.bool true)) := by
  have h1 := (light_ok (m := 6) (r := decide (lite n (vz c) 6)) hc ⟨fun a => of_decide_eq_true a, fun a => decide_eq_true a⟩).weak (r := true)
  have h2 := (short_two ha hb (r := decide ((na ≤ 12 ∧ ∀ j, j < na → okq (qa j)) ∧ nb ≤ 12 ∧ ∀ j, j < nb → okq (qb j))) ⟨fun a => of_decide_eq_true a, fun a => decide_eq_true a⟩).weak (r := true)
  by_cases g1 : lite n (vz c) 6
  · rw [decide_eq_true g1] at h1
    by_cases g2 : (na ≤ 12 ∧ ∀ j, j < na → okq (qa j)) ∧ nb ≤ 12 ∧ ∀ j, j < nb → okq (qb j)
    · rw [decide_eq_true g2] at h2
      obtain ⟨d, f, _, _, hk⟩ := field_of hc hz g1
      obtain ⟨D, d0, d1, eA, eB⟩ := pair_of ha hb g2.1.1 g2.2.1 g2.1.2 g2.2.2
      obtain ⟨t1, t2, t3, t4, t5, t6, t7, one, sq, aa, ab, bb, two, s1, Ma, Mb, Mx, _, K⟩ := calls14 hk eA eB d0 d1
      exact field_yes h1 h2 K
    · rw [decide_eq_false g2] at h2
      exact field_no2 h1 h2
  · rw [decide_eq_false g1] at h1
    exact field_no1 h1
end Rf
end Go.Proofs.YtnoecgnhepppkaaGreat
