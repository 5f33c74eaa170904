/- Runs whose results are told cell by cell. -/
import Derived.Test.YtmbejakmeijcbaaGreatZr7
import Derived.Test.YtmbejakmeijcbaaGreatZr5
import Derived.Test.YtmbejakmeijcbaaGreatProg
import Derived.KernelRfl
namespace Go.Proofs.YtmbejakmeijcbaaGreat
open Go.RowKit
def sameC : Cell → Cell → Bool
 | .bool a, .bool b => a == b
 | .int k a, .int l b => decide (k = l) && decide (a = b)
 | .nil, .nil => true
 | .nil, .row _ n _ => n == 0
 | .row sz n f, .row sz' n' f' => sz == sz' && (n == n' && ((List.range n).all fun i => (List.range sz).all fun j => sameC (f i j) (f' i j)))
 | _, _ => false
theorem sameC_ok (a : Cell) : ∀ (b : Cell), sameC a b = true → ∀ (D : Nat → Prop) (w : World) (v : Value), CRel D w [] a v → CRel D w [] b v := by
 induction a with
 | bool a =>
  intro b h D w v hv
  cases b with
  | bool b => simp [sameC] at h; subst h; exact hv
  | _ => simp [sameC] at h
 | int k a =>
  intro b h D w v hv
  cases b with
  | int l b => simp [sameC] at h; obtain ⟨rfl, rfl⟩ := h; exact hv
  | _ => simp [sameC] at h
 | nil =>
  intro b h D w v hv
  cases b with
  | nil => exact hv
  | row sz n f =>
   have h : n = 0 := by simpa [sameC] using h
   subst h
   have hv : v = .slice none 0 0 := hv
   exact ⟨none, 0, hv, Nat.le_refl _, fun h => absurd h (Nat.lt_irrefl 0)⟩
  | _ => simp [sameC] at h
 | row sz n f ih =>
  intro b h D w v hv
  cases b with
  | row sz' n' f' =>
   simp only [sameC, Bool.and_eq_true, beq_iff_eq, List.all_eq_true, List.mem_range] at h
   obtain ⟨rfl, rfl, h⟩ := h
   obtain ⟨A, c, e1, e2, e3⟩ := hv
   refine ⟨A, c, e1, e2, fun hn => ?_⟩
   obtain ⟨b, o, g1, g2, g3, g4⟩ := e3 hn
   refine ⟨b, o, g1, g2, g3, fun i j hi hj => ?_⟩
   obtain ⟨u, hu, hr⟩ := g4 i j hi hj
   exact ⟨u, hu, ih i j (f' i j) (h i hi j hj) D w u hr⟩
  | _ => simp [sameC] at h
 | _ => intro b h; cases b <;> simp [sameC] at h
def sameL : List Cell → List Cell → Bool
 | [], [] => true
 | a :: l, b :: l' => sameC a b && sameL l l'
 | _, _ => false
def sameV : V → V → Bool
 | .c a, .c b => sameC a b
 | .g l, .g l' => sameL l l'
 | .t2 a b, .t2 c d => sameV a c && sameV b d
 | _, _ => false
theorem sameL_ok : ∀ (l l' : List Cell), sameL l l' = true → ∀ (D : Nat → Prop) (w : World) (vs : List Value), CRels D w [] l vs → CRels D w [] l' vs
 | [], [], _, _, _, _, hv => hv
 | a :: l, b :: l', h, D, w, v :: vs, hv => by
  simp only [sameL, Bool.and_eq_true] at h
  exact ⟨sameC_ok a b h.1 D w v hv.1, sameL_ok l l' h.2 D w vs hv.2⟩
 | [], _ :: _, h, _, _, _, _ => by simp [sameL] at h
 | _ :: _, [], h, _, _, _, _ => by simp [sameL] at h
 | _ :: _, _ :: _, _, _, _, [], hv => hv.elim
theorem sameV_ok : ∀ (a b : V), sameV a b = true → ∀ (D : Nat → Prop) (w : World) (v : Value), VRel D w [] a v → VRel D w [] b v
 | .c a, .c b, h, D, w, v, hv => sameC_ok a b h D w v hv
 | .g l, .g l', h, D, w, v, hv => by
  obtain ⟨vs, h1, h2⟩ := hv
  exact ⟨vs, h1, sameL_ok l l' h D w _ h2⟩
 | .t2 a b, .t2 c d, h, D, w, v, hv => by
  simp only [sameV, Bool.and_eq_true] at h
  obtain ⟨x, y, h1, h2, h3⟩ := hv
  exact ⟨x, y, h1, sameV_ok a c h.1 D w x h2, sameV_ok b d h.2 D w y h3⟩
 | .c _, .g _, h, _, _, _, _ => by simp [sameV] at h
 | .c _, .t2 .., h, _, _, _, _ => by simp [sameV] at h
 | .c _, .t3 .., h, _, _, _, _ => by simp [sameV] at h
 | .c _, .t4 .., h, _, _, _, _ => by simp [sameV] at h
 | .g _, .c _, h, _, _, _, _ => by simp [sameV] at h
 | .g _, .t2 .., h, _, _, _, _ => by simp [sameV] at h
 | .g _, .t3 .., h, _, _, _, _ => by simp [sameV] at h
 | .g _, .t4 .., h, _, _, _, _ => by simp [sameV] at h
 | .t2 .., .c _, h, _, _, _, _ => by simp [sameV] at h
 | .t2 .., .g _, h, _, _, _, _ => by simp [sameV] at h
 | .t2 .., .t3 .., h, _, _, _, _ => by simp [sameV] at h
 | .t2 .., .t4 .., h, _, _, _, _ => by simp [sameV] at h
 | .t3 .., _, h, _, _, _, _ => by simp [sameV] at h
 | .t4 .., _, h, _, _, _, _ => by simp [sameV] at h
 | .un, _, h, _, _, _, _ => by simp [sameV] at h
 | .c _, .un, h, _, _, _, _ => by simp [sameV] at h
 | .g _, .un, h, _, _, _, _ => by simp [sameV] at h
 | .t2 .., .un, h, _, _, _, _ => by simp [sameV] at h
theorem run_same {inl : FuncId → Bool} {f : FuncId} {args : List V} {Y : V} (h : (pureX orcC (runX ER orcC okF inl 1000 40) f args).map (fun X => sameV X Y) = some true) : FnOK Tryz.prog false f args Y := by
 cases hx : pureX orcC (runX ER orcC okF inl 1000 40) f args with
 | none => rw [hx] at h; cases h
 | some X =>
  rw [hx] at h
  have h : sameV X Y = true := by simpa using h
  have hf := run_call orcC_ok hx
  refine ⟨hf.1, fun D w vs h1 h2 h3 => (hf.2 D w vs h1 h2 h3).mono ?_⟩
  rintro e w' ⟨v, h4, h5, h6⟩
  exact ⟨v, h4, sameV_ok X Y h D w' v h5, h6⟩
end Go.Proofs.YtmbejakmeijcbaaGreat
/- Types of the program, as a table; the program as an environment of abstract runs. -/
namespace Go.Proofs.YtmbejakmeijcbaaGreat
open Go.RowKit
theorem mixed : Tryz.prog.follows .mixedOrders = true := by kernel_rfl
def tyTab : List (Nat × TI) :=
 (44, ⟨true, 2, [.bool false, .nil], 32, [some (0, 1), some (1, 1)], none, none, 3⟩) ::
 (46, ⟨true, 4, [.bool false, .nil, .bool false, .nil], 64, [some (0, 2), some (2, 2)], none, none, 0⟩) ::
 (42, ⟨false, 1, [.nil], 24, [], some 115, none, 0⟩) ::
 (115, ⟨false, 1, [.int .u32 0], 4, [], none, some .u32, 0⟩) ::
 (4, ⟨false, 1, [.bool false], 1, [], none, none, 1⟩) ::
 (3, ⟨false, 1, [.int .i64 0], 8, [], none, some .i64, 0⟩) ::
 (24, ⟨false, 1, [.nil], 24, [], some 46, none, 0⟩) ::
 (146, ⟨false, 1, [.nil], 24, [], some 46, none, 0⟩) ::
 (88, ⟨true, 3, [.int .i64 0, .int .i64 0, .nil], 40, [some (0, 1), some (1, 1), some (2, 1)], none, none, 3⟩) ::
 (170, ⟨false, 1, [.nil], 24, [], some 24, none, 0⟩) ::
 (151, ⟨false, 1, [.nil], 24, [], some 24, none, 0⟩) ::
 (86, ⟨false, 1, [.nil], 24, [], some 3, none, 0⟩) ::
 (26, ⟨false, 1, [.int .i64 0], 8, [], none, some .i64, 0⟩) ::
 (85, ⟨false, 1, [.int .u64 0], 8, [], none, some .u64, 0⟩) ::
 (9, ⟨false, 1, [.str ⟨#[]⟩], 16, [], none, none, 2⟩) ::
 (34, ⟨true, 1, [.nil], 24, [some (0, 1)], none, none, 3⟩) ::
 (150, ⟨true, 2, [.nil, .int .i64 0], 32, [some (0, 1), some (1, 1)], none, none, 3⟩) ::
 (31, ⟨false, 1, [.nil], 24, [], some 44, none, 0⟩) ::
 (32, ⟨false, 1, [.nil], 24, [], some 44, none, 0⟩) ::
 (25, ⟨false, 1, [.nil], 24, [], some 46, none, 0⟩) ::
 (124, ⟨false, 1, [.int .u64 0], 8, [], none, some .u64, 0⟩) ::
 []
def tyE (T : Nat) : Option TI := (tyTab.find? fun p => p.1 == T).map (·.2)
theorem tyTab_ok : ∀ p ∈ tyTab, tyOf Tryz.prog p.1 = some p.2 := by
 unfold tyTab
 repeat (refine List.forall_mem_cons.2 ⟨by kernel_rfl, ?_⟩)
 exact fun p h => absurd h List.not_mem_nil
theorem tyE_ok (T : Nat) (ti : TI) (h : tyE T = some ti) : tyOf Tryz.prog T = some ti := by
 unfold tyE at h
 cases hf : tyTab.find? fun p => p.1 == T with
 | none => rw [hf] at h; cases h
 | some p =>
  rw [hf] at h
  have h1 := List.find?_some hf
  have h2 := tyTab_ok p (List.mem_of_find?_eq_some hf)
  simp at h h1
  rw [← h1, h2, h]
noncomputable def E1 : Env := ⟨Tryz.prog, true, tyE, 0⟩
noncomputable def E1m : Env := ⟨Tryz.prog, true, tyE, 1⟩
noncomputable def E0 : Env := ⟨Tryz.prog, false, tyE, 0⟩
noncomputable def E0m : Env := ⟨Tryz.prog, false, tyE, 1⟩
theorem E0m_ok : EnvOK E0m := ⟨tyE_ok⟩
theorem E1_ok : EnvOK E1 := ⟨tyE_ok⟩
theorem E1m_ok : EnvOK E1m := ⟨tyE_ok⟩
theorem E0_ok : EnvOK E0 := ⟨tyE_ok⟩
end Go.Proofs.YtmbejakmeijcbaaGreat
/- An append keeps what stood: the old array's places too. -/
namespace Go.Proofs.YtmbejakmeijcbaaGreat
open Go.RowKit
def RelR (C : Ctx) (ρ : List Loc) (σ : St) (a : Act) (w : World) : Prop := Sat C.D0 C.w0 C.r ρ σ.bl w ∧ (C.N ≤ a.tmps.size ∧ LocsLe C.ρ0 ρ) ∧ a.defers = [] ∧ ∀ t, VRel (Dof C.D0 ρ σ.bl) w ρ (σ.tm t) (a.tmps.getD t undef)
theorem RelR.put {C : Ctx} {ρ : List Loc} {σ : St} {a : Act} {w : World} (h : RelR C ρ σ a w) {dst : Option Nat} (hd : dstOK C.N dst) {v : V} {x : Value} (hv : VRel (Dof C.D0 ρ σ.bl) w ρ v x) : RelR C ρ (σ.put dst v) (a.put dst x) w := by
 obtain ⟨hs, hN, hdf, hf⟩ := h
 obtain ⟨h1, h2, h3⟩ := frame_put hN.1 hd hf hv
 exact ⟨by rw [St.put_bl]; exact hs, ⟨h1, hN.2⟩, h2.trans hdf, by rw [St.put_bl]; exact h3⟩
theorem append_runK {P : Program} {D0 : Nat → Prop} {w0 : Base} {w : World} {r : Bool} {ρ : List Loc} {bl : List Blk} (h : Sat D0 w0 r ρ bl w) {k : Nat} {l : Loc} {B : Blk} (h1 : ρ[k]? = some l) (h2 : bl[k]? = some B) (h3 : B.st = 0)
  {t ty : TypeId} {i : TypeInfo} {z : Value} (ht : P.underlying t = some (.slice B.t)) (hi : P.info? B.t = some i) (hz : i.zero = some z) (hsz : i.size = B.sz) (hzs : z.cells.size = B.sz) (hzU : r = true → ∀ (x : Nat) (d : Int), z.cells[x]? ≠ some (.int .u32 d))
  {m c : Nat} {A : Option Addr} {news : List Value} (hl : news.length = m * B.sz) (hA : 0 < m → ∃ a, A = some a ∧ ∀ j u, news[j]? = some u → w.cell? (a.add j) = some u) (h1c : ∀ u ∈ news, u.oneCell' = true) (hnU : r = true → ∀ (x : Nat) (d : Int), news[x]? ≠ some (.int .u32 d))
  (hmax : B.n + m ≤ maxLen) (hbytes : (B.n + m) * i.bytes ≤ 140737488355328) {fy : Nat → Nat → Cell} (hfy : ∀ a b, a < m → b < B.sz → ∃ u, news[a * B.sz + b]? = some u ∧ CRel (Dof D0 ρ bl) w ρ (fy a b) u) :
  ∃ w' l', (Builtin.append_ #[t, t] ty #[l.v, .slice A m c]).run P w = .ok l'.v w' ∧ Grown w w' l l' B.t B.sz (B.n + m) (Dof D0 ρ bl) ρ r (appF B.n B.f fy) ∧ (∀ x, x < w.heap.size → l.b ≠ some x → w'.heap[x]? = w.heap[x]?) ∧ w.heap.size ≤ w'.heap.size ∧ w'.os = w.os ∧ w'.tape = w.tape ∧ w'.output = w.output ∧ (l'.b = l.b ∨ ∀ x, x < w.heap.size → w'.heap[x]? = w.heap[x]?) := by
 obtain ⟨q0, q1⟩ := h.at_ k l B h1 h2 (by omega)
 have hm63 : ((B.n + m : Nat) : Int) ≤ 9223372036854775807 := by simp only [maxLen] at hmax; omega
 have zU : r = true → ∀ (n x : Nat) (d : Int), (Builtin.zeroCells z.cells n)[x]? ≠ some (.int .u32 d) := by
  intro hr n x d e
  have hx : x < (Builtin.zeroCells z.cells n).size := (Array.getElem?_eq_some_iff.1 e).1
  rw [size_zeroCells] at hx
  have hp : 0 < z.cells.size := by
   rcases Nat.eq_zero_or_pos z.cells.size with e0 | e0
   ·rw [e0] at hx; simp at hx
   ·exact e0
  have hlt : x % z.cells.size < z.cells.size := Nat.mod_lt _ hp
  simp only [Builtin.zeroCells] at e
  rw [Array.getElem?_map, Array.getElem?_range, if_pos (by simpa using hx)] at e
  simp only [Option.map_some, Option.some.injEq] at e
  rw [getElem!_pos z.cells _ hlt] at e
  exact hzU hr (x % z.cells.size) d (by rw [Array.getElem?_eq_getElem hlt, e])
 rcases q1 with ⟨n0, b0, v0⟩ | ⟨g, cap, cs, gb, gm, gv, gh, gs, gn, gc, gf⟩
 ·rcases Nat.eq_zero_or_pos m with hm | hm
  ·subst hm
   refine ⟨w, ⟨l.u + 1, none, 0, 0⟩, ?_, .inl ⟨by omega, rfl⟩, fun _ _ _ => rfl, Nat.le_refl _, rfl, rfl, rfl, .inr fun _ _ => rfl⟩
   rw [v0]; exact run_append_zero ht hi none 0 0 c A (Nat.le_refl _)
  ·obtain ⟨a, rfl, hnews⟩ := hA hm
   have hr := run_append_nil (P := P) w t ty B.t i z ht hi hz a m c news (by rw [hsz]; exact hl) hnews hm (by omega) (by rw [n0] at hbytes; simp only [Nat.zero_add] at hbytes; omega)
   have hge := grownCap_ge w m 0 B.t
   have hcm : grownCap w m 0 B.t ≤ maxLen := grownCap_le_maxLen w m 0 B.t (by omega)
   refine ⟨_, ⟨l.u + 1, some w.heap.size, m, grownCap w m 0 B.t⟩, by rw [v0]; exact hr, .inr ⟨_, _, _, by rw [n0, Nat.zero_add], .inr (Nat.le_refl _), heap_alloc_new w.drew _, ?_, by omega, hcm, fun x y hx hy => ?_, fun hr' x d e => ?_⟩, fun x hx _ => heap_alloc_old w.drew _ hx, by simp, rfl, rfl, rfl, .inr fun x hx => heap_alloc_old w.drew _ hx⟩
   ·rw [Array.size_append, List.size_toArray, hl, size_zeroCells, hzs, ← Nat.add_mul]; congr 1; omega
   ·rw [n0, Nat.zero_add] at hx
    obtain ⟨u, hu, hur⟩ := hfy x y hx hy
    refine ⟨u, ?_, by unfold appF; rw [n0, if_neg (by omega)]; exact hur⟩
    rw [Array.getElem?_append_left (by rw [List.size_toArray]; exact (List.getElem?_eq_some_iff.1 hu).1)]
    simpa using hu
   ·rcases Nat.lt_or_ge x news.length with hx | hx
    ·rw [Array.getElem?_append_left (by simpa using hx)] at e
     exact hnU hr' x d (by simpa using e)
    ·rw [Array.getElem?_append_right (by simpa using hx)] at e
     exact zU hr' _ _ d e
 ·have hnoU : r = true → ∀ (x : Nat) (d : Int), cs[x]? ≠ some (.int .u32 d) := by
   intro hr x d e
   refine h.noU hr g x d (.inr ⟨k, l, B, h1, h2, h3, gb⟩) ?_
   simp only [World.cell?, gh, Option.isSome_none, Bool.false_eq_true, if_false]
   exact e
  have hsmall : B.n * B.sz ≤ cs.size := by rw [gs]; exact Nat.mul_le_mul_right _ gn
  rcases Nat.eq_zero_or_pos m with hm | hm
  ·subst hm
   refine ⟨w, ⟨l.u + 1, some g, B.n, cap⟩, ?_, .inr ⟨g, cap, cs, rfl, .inl gb, gh, gs, gn, gc, fun x y hx hy => ?_, hnoU⟩, fun _ _ _ => rfl, Nat.le_refl _, rfl, rfl, rfl, .inr fun _ _ => rfl⟩
   ·rw [gv]; exact run_append_zero ht hi _ _ _ c A gn
   ·obtain ⟨u, hu, hur⟩ := gf x y hx hy
    rw [if_pos h3] at hur
    exact ⟨u, hu, by unfold appF; rw [if_pos (show x < B.n by omega)]; exact hur⟩
  ·obtain ⟨a, rfl, hnews⟩ := hA hm
   by_cases hroom : B.n + m ≤ cap
   ·have hfit : B.n * i.size + news.length ≤ cs.size := by rw [hsz, hl, gs, ← Nat.add_mul]; exact Nat.mul_le_mul_right _ hroom
    have hr := run_append_room (P := P) (ty := ty) w t B.t i ht hi g B.n cap cs gh a m c news (by rw [hsz]; exact hl) hnews h1c hroom hfit
    rw [hsz] at hr hfit
    have hget : ∀ x : Nat, (cs.toList.take (B.n * B.sz) ++ news ++ cs.toList.drop (B.n * B.sz + news.length)).toArray[x]? = if x < B.n * B.sz then cs[x]? else if x < B.n * B.sz + news.length then news[x - B.n * B.sz]? else cs[x]? := by
     intro x
     simp only [List.getElem?_toArray, List.append_assoc]
     have htl : (cs.toList.take (B.n * B.sz)).length = B.n * B.sz := by simp; omega
     rcases Nat.lt_or_ge x (B.n * B.sz) with hx | hx
     ·rw [List.getElem?_append_left (by omega), if_pos hx, List.getElem?_take_of_lt hx]; simp
     ·rw [List.getElem?_append_right (by omega), htl, if_neg (by omega)]
      rcases Nat.lt_or_ge (x - B.n * B.sz) news.length with hx2 | hx2
      ·rw [List.getElem?_append_left hx2, if_pos (by omega)]
      ·rw [List.getElem?_append_right hx2, if_neg (by omega), List.getElem?_drop]
       simp
       congr 1
       omega
    refine ⟨_, ⟨l.u + 1, some g, B.n + m, cap⟩, by rw [gv]; exact hr, .inr ⟨g, cap, _, rfl, .inl gb, setRow_heap w g cs _ B.t _ gh, ?_, hroom, gc, fun x y hx hy => ?_, fun hr' x d e => ?_⟩, fun x _ hne => setRow_other w g x _ (fun e => hne (by rw [e]; exact gb)), by simp, rfl, rfl, rfl, .inl gb.symm⟩
    ·simp only [List.size_toArray, List.length_append, List.length_take, List.length_drop, Array.length_toList]
     omega
    ·rw [hget]
     rcases idx_split hx hy with ⟨e1, e2⟩ | ⟨e1, e2, e3, e4, e5⟩
     ·obtain ⟨u, hu, hur⟩ := gf x y e1 hy
      rw [if_pos h3] at hur
      exact ⟨u, by rw [if_pos e2]; exact hu, by unfold appF; rw [if_pos e1]; exact hur⟩
     ·obtain ⟨u, hu, hur⟩ := hfy (x - B.n) y e2 hy
      exact ⟨u, by rw [if_neg (by omega), if_pos (by omega), e4]; exact hu, by unfold appF; rw [if_neg (by omega)]; exact hur⟩
    ·rw [hget] at e
     split at e
     ·exact hnoU hr' x d e
     ·split at e
      ·exact hnU hr' _ d e
      ·exact hnoU hr' x d e
   ·have holds : ∀ j u, (cs.toList.take (B.n * B.sz))[j]? = some u → w.cell? ((⟨g, 0, none⟩ : Addr).add j) = some u := by
     intro j u hj
     have hjl : j < B.n * B.sz := by have := (List.getElem?_eq_some_iff.1 hj).1; simp at this; omega
     rw [List.getElem?_take_of_lt hjl] at hj
     rw [Addr.add_lit, Nat.zero_add]
     simp only [World.cell?, gh, Option.isSome_none, Bool.false_eq_true, if_false]
     simpa using hj
    have hlo : (cs.toList.take (B.n * B.sz)).length = B.n * B.sz := by simp; omega
    have hr := run_append_grow (P := P) (ty := ty) w t B.t i z ht hi hz ⟨g, 0, none⟩ B.n cap _ (by rw [hsz]; exact hlo) holds a m c news (by rw [hsz]; exact hl) hnews (by omega) (by omega) (growslice_fits (by omega) hbytes)
    have hge := grownCap_ge w (B.n + m) cap B.t
    have hcm : grownCap w (B.n + m) cap B.t ≤ maxLen := grownCap_le_maxLen w (B.n + m) cap B.t hmax
    have hget : ∀ x : Nat, x < (B.n + m) * B.sz → ((cs.toList.take (B.n * B.sz)).toArray ++ news.toArray ++ Builtin.zeroCells z.cells (grownCap w (B.n + m) cap B.t - (B.n + m)))[x]? = if x < B.n * B.sz then cs[x]? else news[x - B.n * B.sz]? := by
     intro x hx
     rw [Nat.add_mul] at hx
     rw [Array.getElem?_append_left (by simp; omega)]
     rcases Nat.lt_or_ge x (B.n * B.sz) with hx1 | hx1
     ·rw [Array.getElem?_append_left (by simp; omega), if_pos hx1]
      simp [List.getElem?_take_of_lt hx1]
     ·rw [Array.getElem?_append_right (by simp; omega), if_neg (by omega)]
      simp only [List.size_toArray, hlo, List.getElem?_toArray]
    refine ⟨_, ⟨l.u + 1, some w.heap.size, B.n + m, grownCap w (B.n + m) cap B.t⟩, by rw [gv]; exact hr, .inr ⟨_, _, _, rfl, .inr (Nat.le_refl _), heap_alloc_new w.drew _, ?_, by omega, hcm, fun x y hx hy => ?_, fun hr' x d e => ?_⟩, fun x hx _ => heap_alloc_old w.drew _ hx, by simp, rfl, rfl, rfl, .inr fun x hx => heap_alloc_old w.drew _ hx⟩
    ·rw [Array.size_append, Array.size_append, List.size_toArray, List.size_toArray, hlo, hl, size_zeroCells, hzs, ← Nat.add_mul, ← Nat.add_mul]; congr 1; omega
    ·rw [hget _ (idx_lt hx hy (Nat.le_refl _))]
     rcases idx_split hx hy with ⟨e1, e2⟩ | ⟨e1, e2, e3, e4, e5⟩
     ·obtain ⟨u, hu, hur⟩ := gf x y e1 hy
      rw [if_pos h3] at hur
      exact ⟨u, by rw [if_pos e2]; exact hu, by unfold appF; rw [if_pos e1]; exact hur⟩
     ·obtain ⟨u, hu, hur⟩ := hfy (x - B.n) y e2 hy
      exact ⟨u, by rw [if_neg (by omega), e4]; exact hu, by unfold appF; rw [if_neg (by omega)]; exact hur⟩
    ·rcases Nat.lt_or_ge x ((B.n + m) * B.sz) with hx | hx
     ·rw [hget x hx] at e
      split at e
      ·exact hnoU hr' x d e
      ·exact hnU hr' _ d e
     ·rw [Nat.add_mul] at hx
      rw [Array.getElem?_append_right (by simp; omega)] at e
      exact zU hr' _ _ d e
theorem app_coreK {P : Program} {C : Ctx} {σ : St} {a : Act} {w : World} {ρ : List Loc} (hs : Sat C.D0 C.w0 C.r ρ σ.bl w) (hN : C.N ≤ a.tmps.size ∧ LocsLe C.ρ0 ρ) (hdf : a.defers = []) (hf : ∀ t, VRel (Dof C.D0 ρ σ.bl) w ρ (σ.tm t) (a.tmps.getD t undef))
  {k u m : Nat} {B : Blk} (hB : σ.bl[k]? = some B) (hu : B.u = u) (h0 : B.st = 0) {vx vy : Value} (hvx : CRel (Dof C.D0 ρ σ.bl) w ρ (.gs k u) vx) {y : V} (hvy : VRel (Dof C.D0 ρ σ.bl) w ρ y vy) {fy : Nat → Nat → Cell} (hsrc : srcA σ.bl B.sz k y = some (m, fy))
  {T ty : TypeId} {ti te : TI} (ht : tyOf P T = some ti) (he : ti.elem = some B.t) (hte : tyOf P B.t = some te) (hsz : te.size = B.sz) (hzl : te.zero.length = te.size) (hpos : 0 < te.size) (hzU : C.r = true → te.zero.all Cell.noU = true) (hby : te.bytes ≤ 8388608) (hmax : B.n + m ≤ 16777216)
  (hone : ∀ i j, i < m → j < B.sz → St.one σ.bl (fy i j) = true ∧ (C.r = true → (fy i j).noU = true)) {dst : Option Nat} (hd : dstOK C.N dst) :
  ∃ v' w', (Builtin.append_ #[T, T] ty #[vx, vy]).run P w = .ok v' w' ∧ ∃ (l l' : Loc), ρ[k]? = some l ∧ vx = l.v ∧ v' = l'.v ∧ RelR C (ρ.set k l') (St.put { σ with bl := σ.bl.set k ⟨B.t, B.sz, B.n + m, B.u + 1, 0, appF B.n B.f fy⟩ } dst (.c (.gs k (u + 1)))) (a.put dst v') w' ∧ (∀ x, x < w.heap.size → l.b ≠ some x → w'.heap[x]? = w.heap[x]?) ∧ w.heap.size ≤ w'.heap.size ∧ (l'.b = l.b ∨ ∀ x, x < w.heap.size → w'.heap[x]? = w.heap[x]?) ∧ (∀ x, x < w.heap.size → Dof C.D0 (ρ.set k l') (σ.bl.set k ⟨B.t, B.sz, B.n + m, B.u + 1, 0, appF B.n B.f fy⟩) x → Dof C.D0 ρ σ.bl x) := by
 obtain ⟨l, h1, h2, h3⟩ := hvx
 obtain ⟨g0, _⟩ := hs.at_ k l B h1 hB (by omega)
 have hvl := h3 (by omega)
 obtain ⟨A, c, news, rfl, n1, n2, n3, n4⟩ := src_rel hs (by omega) hvy hsrc
 obtain ⟨d, i, zv, hdd, hi, hz, rfl⟩ := tyOf_spec hte
 obtain ⟨w', l', r1, r2, r3, r4, r5, r6, r7, r8⟩ := append_runK (P := P) (ty := ty) hs h1 hB h0 (under_elem ht he) hi hz hsz (by rw [← hsz, ← hzl]; simp [tiOf]) (fun hr x dd e => by
   have := List.all_eq_true.1 (hzU hr) (cellOf (.int .u32 dd)) (List.mem_map.2 ⟨_, by rw [Array.mem_toList_iff]; exact Array.mem_of_getElem? e, rfl⟩)
   simp [cellOf, Cell.noU] at this) n1 n2 (fun x hx => by
   obtain ⟨j, hj⟩ := List.getElem?_of_mem hx
   obtain ⟨p, q, hp, hq, hr⟩ := n4 j x hj
   exact (one_rel hs (hone p q hp hq).1 hr).1) (fun hr x dd e => by
   obtain ⟨p, q, hp, hq, hrr⟩ := n4 x _ e
   exact noU_rel hs (hone p q hp hq).1 ((hone p q hp hq).2 hr) hrr dd rfl) (by unfold maxLen; omega) (by
   have : (B.n + m) * i.bytes ≤ 16777216 * 8388608 := Nat.mul_le_mul hmax hby
   omega) n3
 obtain ⟨s1, s2, s3, s4⟩ := hs.bump h1 hB h0 r2 r3 r4 r5 r6 r7
 refine ⟨l'.v, w', by rw [hvl]; exact r1, l, l', h1, hvl, rfl, RelR.put (σ := { σ with bl := σ.bl.set k ⟨B.t, B.sz, B.n + m, B.u + 1, 0, appF B.n B.f fy⟩ }) ⟨s1, ⟨hN.1, hN.2.trans s4⟩, hdf, frame_step s2 s3 s4 hf⟩ hd ?_, r3, r4, r8, s3⟩
 have hlu : l'.u = l.u + 1 := by
  rcases r2 with ⟨_, e⟩ | ⟨g, cap', cs', e, _⟩ <;> rw [e]
 exact ⟨l', List.getElem?_set_self (List.getElem?_eq_some_iff.1 h1).1, by omega, fun _ => rfl⟩
def keepC (alias : Bool) (k u sz m : Nat) (f : Nat → Nat → Cell) : Cell := match alias with
 | true => .sl k (u + 1) sz 0 m
 | false => .row sz m f
theorem app_keep {P : Program} {C : Ctx} {σ : St} {a : Act} {w : World} {ρ : List Loc} (hs : Sat C.D0 C.w0 C.r ρ σ.bl w) (hN : C.N ≤ a.tmps.size ∧ LocsLe C.ρ0 ρ) (hdf : a.defers = []) (hf : ∀ t, VRel (Dof C.D0 ρ σ.bl) w ρ (σ.tm t) (a.tmps.getD t undef))
  {k u m : Nat} {B : Blk} (hB : σ.bl[k]? = some B) (hu : B.u = u) (h0 : B.st = 0) {vx vy : Value} (hvx : CRel (Dof C.D0 ρ σ.bl) w ρ (.gs k u) vx) {y : V} (hvy : VRel (Dof C.D0 ρ σ.bl) w ρ y vy) {fy : Nat → Nat → Cell} (hsrc : srcA σ.bl B.sz k y = some (m, fy))
  {T ty : TypeId} {ti te : TI} (ht : tyOf P T = some ti) (he : ti.elem = some B.t) (hte : tyOf P B.t = some te) (hsz : te.size = B.sz) (hzl : te.zero.length = te.size) (hpos : 0 < te.size) (hzU : C.r = true → te.zero.all Cell.noU = true) (hby : te.bytes ≤ 8388608) (hmax : B.n + m ≤ 16777216)
  (hone : ∀ i j, i < m → j < B.sz → St.one σ.bl (fy i j) = true ∧ (C.r = true → (fy i j).noU = true)) {d s c : Nat} (hd : dstOK C.N (some d)) (hds : s ≠ d) (hsl : σ.tm s = .c (.sl k u B.sz 0 c)) (hcl : ∀ i j, i < c → j < B.sz → (B.f i j).clos = true) :
  ∃ v' w' alias, (Builtin.append_ #[T, T] ty #[vx, vy]).run P w = .ok v' w' ∧ Rel C (St.put (St.put { σ with bl := σ.bl.set k ⟨B.t, B.sz, B.n + m, B.u + 1, 0, appF B.n B.f fy⟩ } (some d) (.c (.gs k (u + 1)))) (some s) (.c (keepC alias k u B.sz c B.f))) (a.put (some d) v') w' := by
 obtain ⟨v', w', r1, l, l', h1, e1, e2, ⟨s1, s2, s3, s4⟩, r3, r4, r8, r9⟩ := app_coreK (P := P) (ty := ty) hs hN hdf hf hB hu h0 hvx hvy hsrc ht he hte hsz hzl hpos hzU hby hmax hone (dst := some d) hd
 have hkl : k < ρ.length := (List.getElem?_eq_some_iff.1 h1).1
 have hkb : k < σ.bl.length := (List.getElem?_eq_some_iff.1 hB).1
 obtain ⟨g0, g1⟩ := hs.at_ k l B h1 hB (by omega)
 -- what the slot holds
 have hv := hf s
 rw [hsl] at hv
 obtain ⟨l1, q1, q2, q3⟩ := hv
 rw [h1] at q1
 cases q1
 obtain ⟨q4, A, cp, q5, q6, q7⟩ := q3 (by omega)
 have hln : l.n = B.n := loc_n hs h1 hB (by omega)
 -- the block behind the append
 have hat' : (ρ.set k l')[k]? = some l' := List.getElem?_set_self hkl
 have hbl' : (σ.bl.set k ⟨B.t, B.sz, B.n + m, B.u + 1, 0, appF B.n B.f fy⟩)[k]? = some ⟨B.t, B.sz, B.n + m, B.u + 1, 0, appF B.n B.f fy⟩ := List.getElem?_set_self hkb
 have hput : ∀ (τ : St) (v : V), (St.put τ (some d) v).bl = τ.bl := fun τ v => St.put_bl τ (some d) v
 rw [hput] at s1 s4
 obtain ⟨g2, g3⟩ := s1.at_ k l' _ hat' hbl' (Nat.zero_le 1)
 have hln' : l'.n = B.n + m := loc_n s1 hat' hbl' (Nat.zero_le 1)
 have hval : (a.put (some d) v').tmps.getD s undef = a.tmps.getD s undef := by
  show (a.tmps.setIfInBounds d v').getD s undef = _
  rw [Array.getD_eq_getD_getElem?, Array.getD_eq_getD_getElem?, Array.getElem?_setIfInBounds_ne (fun e => hds e.symm)]
 have fin : ∀ alias : Bool, CRel (Dof C.D0 (ρ.set k l') (σ.bl.set k ⟨B.t, B.sz, B.n + m, B.u + 1, 0, appF B.n B.f fy⟩)) w' (ρ.set k l') (keepC alias k u B.sz c B.f) (a.tmps.getD s undef) → Rel C (St.put (St.put { σ with bl := σ.bl.set k ⟨B.t, B.sz, B.n + m, B.u + 1, 0, appF B.n B.f fy⟩ } (some d) (.c (.gs k (u + 1)))) (some s) (.c (keepC alias k u B.sz c B.f))) (a.put (some d) v') w' := fun alias hk => by
  refine ⟨ρ.set k l', by rw [St.put_bl, hput]; exact s1, s2, s3, fun t => ?_⟩
  rw [St.put_bl, hput]
  show VRel _ _ _ (upd _ s _ t) _
  unfold upd
  by_cases e : t = s
  ·rw [if_pos e, e, hval]
   exact hk
  ·rw [if_neg e]
   exact s4 t
 rcases r8 with r8 | r8
 ·refine ⟨v', w', true, r1, fin true ⟨l', hat', ?_, fun _ => ⟨by omega, A, cp, q5, q6, fun hn => ?_⟩⟩⟩
  ·show u + 1 ≤ l'.u
   rw [g2]
   show u + 1 ≤ B.u + 1
   omega
  ·obtain ⟨b, b1, b2⟩ := q7 hn
   exact ⟨b, by rw [r8]; exact b1, b2⟩
 ·by_cases hal : l'.b = l.b
  ·refine ⟨v', w', true, r1, fin true ⟨l', hat', ?_, fun _ => ⟨by omega, A, cp, q5, q6, fun hn => ?_⟩⟩⟩
   ·show u + 1 ≤ l'.u
    rw [g2]
    show u + 1 ≤ B.u + 1
    omega
   ·obtain ⟨b, b1, b2⟩ := q7 hn
    exact ⟨b, by rw [hal]; exact b1, b2⟩
  ·refine ⟨v', w', false, r1, fin false ⟨A, cp, q5, q6, fun hn => ?_⟩⟩
   obtain ⟨b, b1, b2⟩ := q7 hn
   have hlt : b < w.heap.size := hs.lt (.inr ⟨k, l, B, h1, hB, h0, b1⟩)
   refine ⟨b, 0 * B.sz, b2, Nat.lt_of_lt_of_le hlt r4, ?_, fun i j hi hj => ?_⟩
   ·rintro (hx | ⟨k2, l2, B2, t1, t2, t3, t4⟩)
    ·have t5 := hs.own h1 hB (by omega) b1
     have t6 := hs.d0 b hx
     rcases t5 with t5 | t5
     ·have t5 : C.w0.heap.size ≤ b := t5
      have := t6.1
      omega
     ·exact t6.2 t5
    ·by_cases e : k2 = k
     ·subst e
      rw [hat'] at t1
      cases t1
      exact hal (by rw [t4, b1])
     ·rw [List.getElem?_set_ne (fun h => e h.symm)] at t1 t2
      exact e (hs.dist k2 k l2 l B2 B b t1 h1 t2 hB (by omega) (by omega) t4 b1)
   ·rcases g1 with ⟨g4, _, _⟩ | ⟨b', cap, cs, g4, g5, g6, g7, g8, g9, g10, g11⟩
    ·omega
    ·rw [g4] at b1
     cases b1
     obtain ⟨x, hx, hxr⟩ := g11 i j (by omega) hj
     rw [if_pos h0] at hxr
     refine ⟨x, ?_, (hxr.clos (ρ' := []) (hcl i j hi hj)).step ⟨r4, fun y hy _ => r8 y hy⟩ (fun y hy hD => ?_) (LocsLe.refl _)⟩
     ·rw [Nat.zero_mul, Nat.zero_add]
      simp only [World.cell?, r8 b hlt, g7]
      simpa using hx
     ·exact r9 y hy hD
end Go.Proofs.YtmbejakmeijcbaaGreat
/- A region with an append, a slot that holds a part of the list remembered. -/
namespace Go.Proofs.YtmbejakmeijcbaaGreat
open Go.RowKit
theorem aops_app {E : Env} (hE : EnvOK E) {C : Ctx} (hC : C.r = E.r) {ops : Array Oper} {Q : Exit → Act → World → Prop} {K : St → Prop} {l2 : List Oper} (hQ : ∀ σ a w, K σ → Rel C σ a w → wpList E.P ops Q l2 a w) :
  ∀ (l : List Oper) (σ : St) (a : Act) (w : World), (∀ o ∈ l, dstOK C.N o.dst) → aops E ops l σ K → Rel C σ a w → wpList E.P ops Q (l ++ l2) a w
 | [], σ, a, w, _, h, hr => hQ σ a w h hr
 | o :: rest, σ, a, w, hd, h, hr => by
  have ih := fun σ a w => aops_app (ops := ops) hE hC hQ rest σ a w (fun o ho => hd o (by simp [ho]))
  rw [List.cons_append]
  unfold wpList
  simp only [aops] at h
  split at h
  ·rename_i hg
   rw [if_pos (by simp [Region.wanted, hg])]
   exact .inl (aop_sound hE hC h (hd o (by simp)) hr fun σ' a' w' hk hrel => ih σ' a' w' hk hrel)
  ·rename_i g want hg
   split at h
   ·rename_i d b hgv
    have h := cs_iff.1 h
    rw [gw_true, gw_false] at h
    obtain ⟨hy, hv, hlt, htm⟩ := guard_val (a := a) (w := w) hgv (by obtain ⟨ρ, hs, hN, hdf, hf⟩ := hr; exact fun d _ => ⟨_, ρ, hf d⟩)
    have hwt : Region.wanted o (yielded ops a.tmps) = (b == want) := by
     unfold Region.wanted
     rw [hg]
     simp only [hy]
     rfl
    rw [hwt]
    by_cases e : b = want
    ·rw [if_pos (by simp [e])]
     refine .inl (aop_sound hE hC (h.1 e) (hd o (by simp)) (put_same hr fun D ρ => ?_) fun σ' a' w' hk hrel => ih σ' a' w' hk hrel)
     rw [hv, e]; rfl
    ·have e' : b = !want := by cases b <;> cases want <;> simp_all
     rw [if_neg (by simpa using e)]
     have h2 : Rel C (σ.put (some d) (.c (.bool !want))) a w := put_same hr fun D ρ => by rw [hv, e']; rfl
     obtain ⟨ρ, hs, hN, hdf, hf⟩ := h2
     exact ih _ _ _ (h.2 e') (Rel.put hs hN hdf hf (hd o (by simp)) rfl)
   ·split at h
    ·rename_i hgu
     have hy := guard_un (a := a) (w := w) hgu (by obtain ⟨ρ, hs, hN, hdf, hf⟩ := hr; exact fun d _ => ⟨_, ρ, hf d⟩)
     have hwt : Region.wanted o (yielded ops a.tmps) = false := by
      unfold Region.wanted
      rw [hg]
      simp only [hy]
      rfl
     rw [hwt, if_neg (by simp)]
     obtain ⟨ρ, hs, hN, hdf, hf⟩ := hr
     exact ih _ _ _ h (Rel.put hs hN hdf hf (hd o (by simp)) rfl)
    ·exact h.elim
structure AppK (E : Env) (o : Oper) (s : Nat) (σ : St) (k u c m d : Nat) (B : Blk) (fy : Nat → Nat → Cell) : Prop where
 op : ∃ (x y : Operand) (T : TypeId) (ti te : TI), o.op = .call { callee := .builtin .append, args := #[x, y], argTypes := #[T, T] } ∧ E.ty T = some ti ∧ ti.elem = some B.t ∧ E.ty B.t = some te ∧ σ.ev x = .c (.gs k u) ∧ srcA σ.bl B.sz k (σ.ev y) = some (m, fy) ∧ te.size = B.sz ∧ te.zero.length = te.size ∧ 0 < te.size ∧ (E.r = true → te.zero.all Cell.noU = true) ∧ te.bytes ≤ 8388608
 guard : o.guard = none
 dst : o.dst = some d
 ne : s ≠ d
 bl : σ.bl[k]? = some B
 ver : B.u = u
 live : B.st = 0
 max : B.n + m ≤ 16777216
 one : ∀ i j, i < m → j < B.sz → St.one σ.bl (fy i j) = true ∧ (E.r = true → (fy i j).noU = true)
 part : σ.tm s = .c (.sl k u B.sz 0 c)
 clos : ∀ i j, i < c → j < B.sz → (B.f i j).clos = true
def appSt (σ : St) (s k u c m d : Nat) (B : Blk) (fy : Nat → Nat → Cell) (alias : Bool) : St := St.put (St.put { σ with bl := σ.bl.set k ⟨B.t, B.sz, B.n + m, B.u + 1, 0, appF B.n B.f fy⟩ } (some d) (.c (.gs k (u + 1)))) (some s) (.c (keepC alias k u B.sz c B.f))
theorem appK_sound {E : Env} (hE : EnvOK E) {C : Ctx} (hC : C.r = E.r) {o : Oper} {σ : St} {a : Act} {w : World} {s k u c m d : Nat} {B : Blk} {fy : Nat → Nat → Cell} (h : AppK E o s σ k u c m d B fy) (hd : dstOK C.N o.dst) (hr : Rel C σ a w) {next : Act → World → Prop} {Q : Exit → Act → World → Prop}
  (hn : ∀ alias a' w', Rel C (appSt σ s k u c m d B fy alias) a' w' → next a' w') : o.wp E.P a w next Q := by
 obtain ⟨x, y, T, ti, te, hx, t1, t2, t3, t4, t5, t6, t7, t8, t9, t10⟩ := h.op
 obtain ⟨ρ, hs, hN, hdf, hf⟩ := hr
 have hvx := ev_rel hf x
 rw [t4] at hvx
 have hti := hE.ty _ _ t1
 obtain ⟨v', w', al, p1, p2⟩ := app_keep (P := E.P) (ty := o.type) hs hN hdf hf h.bl h.ver h.live hvx (ev_rel hf y) t5 hti t2 (hE.ty _ _ t3) t6 t7 t8 (fun hr => t9 (by rw [← hC]; exact hr)) t10 h.max (fun i j hi hj => ⟨(h.one i j hi hj).1, fun hr => (h.one i j hi hj).2 (by rw [← hC]; exact hr)⟩) (by rw [← h.dst]; exact hd) h.ne h.part h.clos
 unfold Oper.wp execOp
 simp only [hx, resolve, invoke, builtin, Sem.run_bind, Sem.run_pure, Result.andThen_ok, List.map_toArray, List.map_cons, List.map_nil, p1]
 show next (a.put o.dst v') w'
 rw [h.dst]
 exact hn al _ _ p2
theorem swp_keep {E : Env} (hE : EnvOK E) {N id : Nat} {ops : Array Oper} {pre post : List Oper} {o : Oper} {s : Nat} (hl : ops.toList = pre ++ o :: post) (hdst : (ops.toList.all (dstB N)) = true) {σ : St} {R : Exit → St → Prop}
  (h : aops E ops pre σ fun τ => ∃ k u c m d B fy, AppK E o s τ k u c m d B fy ∧ ∀ alias, aops E ops post (appSt τ s k u c m d B fy alias) (R .normal)) : Swp E N (.region id ops false) σ R := by
 refine ⟨fun C a w h1 h2 h3 hr => ?_⟩
 have hdo : ∀ o' ∈ ops.toList, dstOK C.N o'.dst := by
  intro o' ho d hd'
  have := List.all_eq_true.1 hdst o' ho
  unfold dstB at this
  rw [hd'] at this
  rw [h3]
  simpa using this
 refine wp_region_list ?_
 rw [hl] at hdo ⊢
 refine aops_app hE h1 (fun τ a w hk hrel => ?_) pre σ a w (fun o' ho => hdo o' (by simp [ho])) h hr
 obtain ⟨k, u, c, m, d, B, fy, hK, hrest⟩ := hk
 unfold wpList
 rw [if_pos (by simp [Region.wanted, hK.guard])]
 refine .inl (appK_sound hE h1 hK (hdo o (by simp)) hrel fun al a' w' hrel' => ?_)
 exact aops_sound hE h1 (fun σ a w hk hrel => ⟨σ, hrel, hk⟩) post _ a' w' (fun o' ho => hdo o' (by simp [ho])) (hrest al) hrel'
end Go.Proofs.YtmbejakmeijcbaaGreat
/- Blocks told anew in place, the first of them kept as it lies. -/
namespace Go.Proofs.YtmbejakmeijcbaaGreat
open Go.RowKit
theorem genE {tm : Nat → V} {bl : List Blk} {tl : List (Nat × V)} {xs : List Gx} (pre : List Blk) (hpre : bl.take pre.length = pre) (hst2 : pre.all (fun B => Nat.ble 2 B.st) = true) (ks : List (Option Nat)) (hi : injK ks = true) (hb : srcsG pre.length bl ks ks xs) (hl : allP tl fun p => regV pre.length bl ks (tm p.1) p.2) {C : Ctx} {a : Act} {w : World} {ρ : List Loc} (hs : Sat C.D0 C.w0 C.r ρ bl w) (hf : ∀ t, VRel (Dof C.D0 ρ bl) w ρ (tm t) (a.tmps.getD t undef)) :
  Sat C.D0 C.w0 C.r (ρ.take pre.length ++ ks.map (locK ρ)) (pre ++ xs.map gb) w ∧ ∀ t, VRel (Dof C.D0 (ρ.take pre.length ++ ks.map (locK ρ)) (pre ++ xs.map gb)) w (ρ.take pre.length ++ ks.map (locK ρ)) (asg tl t) (a.tmps.getD t undef) := by
 obtain ⟨hlen, hget⟩ := srcsG_get hb
 have hlb : bl.length = ρ.length := hs.len.symm
 have hq : pre.length ≤ ρ.length := by
  have := congrArg List.length hpre
  rw [List.length_take] at this
  omega
 have hql : (ρ.take pre.length).length = pre.length := by rw [List.length_take]; omega
 have get : ∀ (j : Nat) (l : Loc) (B : Blk), (ρ.take pre.length ++ ks.map (locK ρ))[j]? = some l → (pre ++ xs.map gb)[j]? = some B → 2 ≤ B.st ∨ pre.length ≤ j ∧ ((∃ (k : Nat) (lk : Loc) (Bk : Blk), ks[j - pre.length]? = some (some k) ∧ ρ[k]? = some lk ∧ bl[k]? = some Bk ∧ l = { lk with u := 0 } ∧ B.t = Bk.t ∧ B.sz = Bk.sz ∧ B.n = Bk.n ∧ Bk.st = 0 ∧ B.st = 0 ∧ B.u = 0 ∧ ∀ i j, i < B.n → j < B.sz → regC pre.length bl ks (B.f i j) fun y => Bk.f i j = y) ∨ (l = ⟨0, none, 0, 0⟩ ∧ B.n = 0 ∧ B.u = 0)) := by
  intro j l B e1 e2
  rcases Nat.lt_or_ge j pre.length with hj | hj
  ·left
   rw [List.getElem?_append_left hj] at e2
   exact Nat.le_of_ble_eq_true (List.all_eq_true.1 hst2 B (List.mem_of_getElem? e2))
  right
  refine ⟨hj, ?_⟩
  rw [List.getElem?_append_right (by omega), hql, List.getElem?_map] at e1
  rw [List.getElem?_append_right hj, List.getElem?_map] at e2
  cases hx : xs[j - pre.length]? with
  | none => rw [hx] at e2; cases e2
  | some x =>
   rw [hx] at e2
   simp at e2
   obtain ⟨k, hk, hsrc⟩ := hget _ x hx
   rw [hk] at e1
   simp at e1
   subst e1 e2
   cases k with
   | none => exact .inr ⟨rfl, hsrc, rfl⟩
   | some k =>
    obtain ⟨Bk, q1, q2, q3, q4, q5, q6⟩ := hsrc
    have hkl : k < ρ.length := by rw [hs.len]; exact (List.getElem?_eq_some_iff.1 q1).1
    refine .inl ⟨k, ρ[k], Bk, hk, List.getElem?_eq_getElem hkl, q1, ?_, q2.symm, q3.symm, q4.symm, q5, rfl, rfl, q6⟩
    simp [locK, List.getD, List.getElem?_eq_getElem hkl]
 have hD : ∀ b, Dof C.D0 (ρ.take pre.length ++ ks.map (locK ρ)) (pre ++ xs.map gb) b → Dof C.D0 ρ bl b := by
  rintro b (hx | ⟨j, l, B, e1, e2, e3, e4⟩)
  ·exact .inl hx
  ·rcases get j l B e1 e2 with q0 | ⟨_, ⟨k, lk, Bk, q1, q2, q3, q4, q5, q6, q7, q8, q9, q10⟩ | ⟨q1, q2⟩⟩
   ·omega
   ·subst q4
    exact .inr ⟨k, lk, Bk, q2, q3, q8, e4⟩
   ·subst q1; cases e4
 have at_j : ∀ j k, pre.length.ble j = true → ks[j - pre.length]? = some k → (ρ.take pre.length ++ ks.map (locK ρ))[j]? = some (locK ρ k) := fun j k h1 h2 => by
  have := Nat.le_of_ble_eq_true h1
  rw [List.getElem?_append_right (by omega), hql, List.getElem?_map, h2]; rfl
 have out : ∀ (k : Nat) (l : Loc) (B : Blk) (b : Nat), ρ[k]? = some l → bl[k]? = some B → B.st ≤ 1 → l.b = some b → pre.length.ble k = true → (ks.any fun x => x == some k) = false → ¬ Dof C.D0 (ρ.take pre.length ++ ks.map (locK ρ)) (pre ++ xs.map gb) b := by
  rintro k l B b p1 p2 p3 p4 p5 p6 (hx | ⟨j, l', B', e1, e2, e3, e4⟩)
  ·have h1 := hs.own p1 p2 p3 p4
   have h2 := hs.d0 b hx
   rcases h1 with h1 | h1
   ·have := h2.1
    have h3 : C.w0.heap.size ≤ b := h1
    omega
   ·exact h2.2 h1
  ·rcases get j l' B' e1 e2 with q0 | ⟨_, ⟨k', lk, Bk, q1, q2, q3, q4, q5, q6, q7, q8, q9, q10⟩ | ⟨q1, q2⟩⟩
   ·omega
   ·subst q4
    have := hs.dist k k' l lk B Bk b p1 q2 p2 q3 p3 (by omega) p4 e4
    subst this
    have := List.any_eq_false.1 p6 (some k) (List.mem_of_getElem? q1)
    simp at this
   ·subst q1; cases e4
 refine ⟨⟨hs.below, hs.d0, by rw [List.length_append, hql]; simp [hlen], fun j l B e1 e2 hst => ?_, fun i j li lj Bi Bj b e1 e2 e3 e4 e5 e6 e7 e8 => ?_, fun hr b o d hb => hs.noU hr b o d (hD b hb)⟩, fun t => ?_⟩
 ·rcases get j l B e1 e2 with q0 | ⟨_, ⟨k, lk, Bk, q1, q2, q3, q4, q5, q6, q7, q8, q9, q10, q11⟩ | ⟨q1, q2, q3⟩⟩
  ·omega
  ·subst q4
   refine ⟨q10.symm, ?_⟩
   rcases (hs.at_ k lk Bk q2 q3 (by omega)).2 with ⟨g1, g2, g3⟩ | ⟨b, cap, cs, g2, g3, g4, g5, g6, g7, g8, g9⟩
   ·exact .inl ⟨q7.trans g1, g2, g3⟩
   ·refine .inr ⟨b, cap, cs, g2, g3, by rw [q7]; exact g4, by rw [q5]; exact g5, by rw [q6]; exact g6, by rw [q7]; exact g7, g8, fun x y hx hy => ?_⟩
    obtain ⟨u, hu, hur⟩ := g9 x y (by omega) (by omega)
    refine ⟨u, by rw [q6]; exact hu, ?_⟩
    rw [if_pos q8] at hur
    rw [if_pos q9]
    exact regC_rel hs hD at_j out (q11 x y hx hy) fun z hz => by subst hz; exact hur
  ·subst q1
   exact ⟨q3.symm, .inl ⟨q2, rfl, rfl⟩⟩
 ·rcases get i li Bi e1 e3 with q0 | ⟨hi1, ⟨k, lk, Bk, q1, q2, q3, q4, q5, q6, q7, q8, q9, q10⟩ | ⟨q1, q2⟩⟩
  ·omega
  ·rcases get j lj Bj e2 e4 with p0 | ⟨hj1, ⟨k', lk', Bk', p1, p2, p3, p4, p5, p6, p7, p8, p9, p10⟩ | ⟨p1, p2⟩⟩
   ·omega
   ·subst q4 p4
    have := hs.dist k k' lk lk' Bk Bk' b q2 p2 q3 p3 (by omega) (by omega) e7 e8
    subst this
    have := injK_eq hi q1 p1
    omega
   ·subst p1; cases e8
  ·subst q1; cases e7
 ·rcases asg_mem tl t with e | e
  ·show VRel _ _ _ (asg tl t) _
   rw [e]; trivial
  ·have e1 := allP_mem hl _ e
   have e2 : VRel (Dof C.D0 ρ bl) w ρ (tm t) (a.tmps.getD t undef) := hf t
   show VRel _ _ _ (asg tl t) _
   generalize asg tl t = y at e1 ⊢
   have e1 : regV pre.length bl ks (tm t) y := e1
   have fin : ∀ y : V, tm t = y ∧ y.clos = true → VRel (Dof C.D0 (ρ.take pre.length ++ ks.map (locK ρ)) (pre ++ xs.map gb)) w (ρ.take pre.length ++ ks.map (locK ρ)) y (a.tmps.getD t undef) := fun y h => by
    rw [h.1] at e2
    exact (e2.clos h.2).step (Ext.refl _ _) (fun b _ hb => hD b hb) (LocsLe.refl _)
   match y, e1 with
   | .c y, e1 =>
    exact regC_rel hs hD at_j out e1 fun x hx => by
     have hx : tm t = .c x := hx
     rw [hx] at e2
     exact e2
   | .g l, e1 =>
    rcases e1 with ⟨h1, h2⟩ | ⟨l', h1, h2⟩
    ·exact fin _ ⟨h1, h2⟩
    ·rw [h1] at e2
     obtain ⟨vs, h3, h4⟩ := e2
     exact ⟨vs, h3, regL_rel hs hD at_j out h2 h4⟩
   | .t2 .., e1 => exact fin _ e1
   | .t3 .., e1 => exact fin _ e1
   | .t4 .., e1 => exact fin _ e1
   | .un, e1 => exact fin _ e1
theorem Weak.gen2 {tm : Nat → V} {bl : List Blk} {tl : List (Nat × V)} {xs : List Gx} (ks : List (Option Nat)) (h0 : ∃ B, bl[0]? = some B ∧ B.u = 0 ∧ B.st = 0) (hi : injK (some 0 :: ks) = true) (hb : srcsG 0 bl (some 0 :: ks) (some 0 :: ks) xs) (hl : allP tl fun p => regV 0 bl (some 0 :: ks) (tm p.1) p.2) : Weak 1 ⟨tm, bl⟩ (gst tl xs) := by
 rintro C a w hm0 ⟨ρ, hs, hN, hdf, hf⟩
 obtain ⟨g1, g2⟩ := genE [] rfl rfl (some 0 :: ks) hi hb hl hs hf
 refine ⟨_, g1, ⟨hN.1, fun k l h => ?_⟩, hdf, g2⟩
 obtain ⟨l', h1, h2⟩ := hN.2 k l h
 have hk : k < 1 := Nat.lt_of_lt_of_le (List.getElem?_eq_some_iff.1 h).1 hm0
 obtain rfl := Nat.lt_one_iff.1 hk
 obtain ⟨B, a3, a4, a5⟩ := h0
 have e1 := (hs.at_ 0 l' B h1 a3 (by omega)).1
 refine ⟨l', ?_, h2⟩
 show some (locK ρ (some 0)) = some l'
 simp only [locK, List.getD, h1, Option.getD_some]
 rw [a4] at e1
 rw [← e1]
end Go.Proofs.YtmbejakmeijcbaaGreat
/- The closure of arith.Divisors: a list of numbers, longer by its multiples. -/
namespace Go.Proofs.YtmbejakmeijcbaaGreat
open Go.RowKit
theorem Swp.weak {E : Env} {N : Nat} {c : Code} {σ σ2 : St} {R : Exit → St → Prop} (hw : Weak E.m0 σ σ2) (h : Swp E N c σ2 R) : Swp E N c σ R := ⟨fun C a w h1 h2 h3 hr => h.run C a w h1 h2 h3 (hw C a w h2 hr)⟩
namespace Dv
def F (n : Nat) (f : Nat → Int) (p : Int) (i : Nat) : Int := f (i % n) * p ^ (i / n)
theorem F_low {n i : Nat} {f : Nat → Int} {p : Int} (h : i < n) : F n f p i = f i := by
 unfold F
 rw [Nat.mod_eq_of_lt h, Nat.div_eq_of_lt h, Int.pow_zero, Int.mul_one]
theorem F_next {n t q : Nat} {f : Nat → Int} {p : Int} (h : t < n) : F n f p (n * (q + 1) + t) = F n f p t * p ^ (q + 1) := by
 rw [F_low h]
 unfold F
 rw [Nat.mul_add_mod, Nat.mod_eq_of_lt h, Nat.mul_add_div (by omega), Nat.div_eq_of_lt h, Nat.add_zero]
abbrev gI (n : Nat) (g : Nat → Int) : Gx := ⟨3, 1, n, fun i _ => .int .i64 (g i)⟩
abbrev gBox : Gx := ⟨86, 1, 1, fun _ _ => .gs 1 0⟩
abbrev kC (n : Nat) (g : Nat → Int) (al : Bool) : Cell := match al with
 | true => .sl 1 0 1 0 n
 | false => .row 1 n fun i _ => .int .i64 (g i)
abbrev sO (n : Nat) (g : Nat → Int) (p e : Int) (q : Nat) : St := gst [(0, .c (.int .i64 p)), (1, .c (.int .i64 (e - q))), (2, .c (.p 0 0 1 0 0)), (5, .c (.int .i64 n)), (6, .c (.int .i64 (p ^ (q + 1))))] [gBox, gI (n * (q + 1)) g]
abbrev sI (n : Nat) (g : Nat → Int) (p e : Int) (q t : Nat) (al : Bool) : St := gst [(0, .c (.int .i64 p)), (1, .c (.int .i64 (e - q))), (2, .c (.p 0 0 1 0 0)), (5, .c (.int .i64 n)), (6, .c (.int .i64 (p ^ (q + 1)))), (21, .c (kC n g al)), (22, .c (.int .i64 n)), (23, .c (.int .i64 t))] [gBox, gI (n * (q + 1) + t) g]
abbrev sJ (n : Nat) (g : Nat → Int) (p e : Int) (q t : Nat) (al : Bool) : St := gst [(0, .c (.int .i64 p)), (1, .c (.int .i64 (e - q))), (2, .c (.p 0 0 1 0 0)), (5, .c (.int .i64 n)), (6, .c (.int .i64 (p ^ (q + 1)))), (8, .c (.int .i64 (g t))), (21, .c (kC n g al)), (22, .c (.int .i64 n)), (23, .c (.int .i64 t))] [gBox, gI (n * (q + 1) + t) g]
abbrev sK (n : Nat) (g : Nat → Int) (p e : Int) (q t : Nat) (al : Bool) : St := gst [(0, .c (.int .i64 p)), (1, .c (.int .i64 (e - q))), (2, .c (.p 0 0 1 0 0)), (5, .c (.int .i64 n)), (6, .c (.int .i64 (p ^ (q + 1)))), (21, .c (kC n g al)), (22, .c (.int .i64 n)), (23, .c (.int .i64 t))] [gBox, gI (n * (q + 1) + (t + 1)) g]
theorem app_int {n q t : Nat} {g : Nat → Int} {x : Int} (hx : x = g (n * (q + 1) + t)) (i j : Nat) (hi : i < n * (q + 1) + (t + 1)) (hj : j < 1) : appF (n * (q + 1) + t) (fun i _ => .int .i64 (g i)) (rowF 1 [.int .i64 x]) i j = .int .i64 (g i) := by
 obtain rfl := Nat.lt_one_iff.1 hj
 unfold appF
 split
 ·rfl
 ·rename_i c
  have e : i = n * (q + 1) + t := by omega
  rw [e, Nat.sub_self, hx]
  rfl
theorem one1 {bl : List Blk} {x : Int} (i j : Nat) (hi : i < 1) (hj : j < 1) : St.one bl (rowF 1 [.int .i64 x] i j) = true ∧ (E0m.r = true → (rowF 1 [Cell.int .i64 x] i j).noU = true) := by
 obtain rfl := Nat.lt_one_iff.1 hi
 obtain rfl := Nat.lt_one_iff.1 hj
 exact ⟨rfl, fun _ => rfl⟩
theorem upd1 {f : Nat → Nat → Cell} {x : Cell} {i j : Nat} (hi : i < 1) (hj : j < 1) : updF f 0 0 [x] i j = x := by
 obtain rfl := Nat.lt_one_iff.1 hi
 obtain rfl := Nat.lt_one_iff.1 hj
 rfl
structure Bds (n : Nat) (f : Nat → Int) (p e : Int) : Prop where
 pos : 1 ≤ n
 low : n ≤ 1000
 e0 : 0 ≤ e
 e1 : e ≤ 1000
 num : ∀ i q : Nat, i < n → (q : Int) < e → inR .i64 (F n f p i * p ^ (q + 1))
 pow : ∀ q : Nat, (q : Int) < e → inR .i64 (p ^ (q + 1) * p)
set_option maxHeartbeats 4000000 in
theorem div_swp {n : Nat} {f : Nat → Int} {p e : Int} (hb : Bds n f p e) (c : Code) (hc : Tryz.f96.body = some c) :
  Swp E0m 34 c (gst [(0, .c (.int .i64 p)), (1, .c (.int .i64 e)), (2, .c (.p 0 0 1 0 0))] [gBox, gI n (F n f p)]) fun x σ => (x = .normal ∨ x = .ret) ∧ Weak 1 σ (gst [] [gBox, gI (n * (e.toNat + 1)) (F n f p)]) := by
 obtain rfl := Option.some.inj hc.symm
 obtain ⟨h1, h2, h3, h4, h5, h6⟩ := hb
 have hF : ∀ q t : Nat, t < n → F n f p t * p ^ (q + 1) = F n f p (n * (q + 1) + t) := fun q t ht => (F_next ht).symm
 generalize F n f p = g at *
 have hN : ∀ q : Nat, (q : Int) ≤ e → n * (q + 1) ≤ 1001000 := fun q hq => Nat.le_trans (Nat.mul_le_mul h2 (show q + 1 ≤ 1001 by omega)) (by decide)
 have p1 : p = p ^ (0 + 1) := by rw [Nat.zero_add, Int.pow_succ, Int.pow_zero, Int.one_mul]
 have n1 : n = n * (0 + 1) := by rw [Nat.zero_add, Nat.mul_one]
 refine swp_seq0 E0m_ok mixed (by kernel_rfl) ?_
 conv => whnf
 refine swp_seq0 E0m_ok mixed (by kernel_rfl) ?_
 conv => whnf
 refine swp_block ?_
 refine swp_loop (fun q : Nat => sO n g p e q) (fun q => e.toNat - q) (fun q => (q : Int) ≤ e) 0 ?_ (by omega) fun q hq => ?_
 ·exact Weak.gen2 [some 1] ⟨_, rfl, rfl, rfl⟩ rfl ⟨⟨_, rfl, rfl, rfl, rfl, rfl, fun i j hi hj => ⟨_, rfl, rfl, rfl⟩⟩, ⟨_, rfl, rfl, rfl, n1, rfl, fun i j hi hj => regE rfl rfl⟩, trivial⟩ ⟨⟨_, rfl, rfl⟩, ⟨_, rfl, by show e = e - ((0 : Nat) : Int); omega⟩, ⟨_, rfl, rfl, rfl⟩, ⟨_, rfl, rfl⟩, ⟨_, rfl, p1⟩, trivial⟩
 have hN := hN q hq
 have hF := hF q
 have h5 := fun i a b => h5 i q a b
 have h6 := h6 q
 refine swp_seq0 E0m_ok mixed (by kernel_rfl) ?_
 conv => whnf
 refine bcase (fun (h : decide ((0 : Int) < e - (q : Int)) = true) => ?_) fun (h : decide ((0 : Int) < e - (q : Int)) = false) => ?_
 ·have h := of_decide_eq_true h
  have h6 := h6 (by omega)
  have hn1 : n ≤ n * (q + 1) := Nat.le_mul_of_pos_right n (by omega)
  have hn2 : (n : Int) ≤ ((n * (q + 1) : Nat) : Int) := by exact_mod_cast hn1
  conv => whnf
  refine swp_seqS (swp_block ?_)
  refine swp_seq E0m_ok mixed (by kernel_rfl) ?_
  conv => whnf
  refine ⟨by omega, by omega, ?_⟩
  conv => whnf
  refine ⟨hn2, ?_⟩
  conv => whnf
  refine ⟨sI n g p e q 0 true, Weak.gen2 [some 1] ⟨_, rfl, rfl, rfl⟩ rfl ⟨⟨_, rfl, rfl, rfl, rfl, rfl, fun i j hi hj => ⟨_, rfl, rfl, rfl⟩⟩, ⟨_, rfl, rfl, rfl, rfl, rfl, fun i j hi hj => regE rfl rfl⟩, trivial⟩ ⟨⟨_, rfl, rfl⟩, ⟨_, rfl, rfl⟩, ⟨_, rfl, rfl, rfl⟩, ⟨_, rfl, rfl⟩, ⟨_, rfl, rfl⟩, ⟨_, _, rfl, rfl, rfl, by omega⟩, ⟨_, rfl, by omega⟩, ⟨_, rfl, rfl⟩, trivial⟩, ?_⟩
  refine swp_block ?_
  refine swp_loop (fun x : Nat × Bool => sI n g p e q x.1 x.2) (fun x => n - x.1) (fun x => x.1 ≤ n) (0, true) (Weak.refl _) (Nat.zero_le _) ?_
  rintro ⟨t, al⟩ ht
  have ht : t ≤ n := ht
  have hF := hF t
  have h5 := h5 t
  refine swp_seq0 E0m_ok mixed (by kernel_rfl) ?_
  conv => whnf
  refine swp_seq0 E0m_ok mixed (by kernel_rfl) ?_
  conv => whnf
  refine bcase (fun (k : decide ((t : Int) < n) = true) => ?_) fun (k : decide ((t : Int) < n) = false) => ?_
  ·have k := of_decide_eq_true k
   have hF := hF (by omega)
   have h5 := h5 (by omega) (by omega)
   conv => whnf
   refine swp_seqS (swp_block ?_)
   have eq8 : g (0 + ((t : Nat) : Int).toNat) = g t := by rw [Int.toNat_natCast, Nat.zero_add]
   have hl : n * (q + 1) + t + 1 ≤ 16777216 := by omega
   have hm1 : n - (t + 1) < n - t := by omega
   have hm2 : t + 1 ≤ n := by omega
   cases al
   ·refine swp_seq E0m_ok mixed (by kernel_rfl) ?_
    conv => whnf
    refine ⟨Int.natCast_nonneg t, k, ?_⟩
    conv => whnf
    refine ⟨sJ n g p e q t false, Weak.gen2 [some 1] ⟨_, rfl, rfl, rfl⟩ rfl ⟨⟨_, rfl, rfl, rfl, rfl, rfl, fun i j hi hj => ⟨_, rfl, rfl, rfl⟩⟩, ⟨_, rfl, rfl, rfl, rfl, rfl, fun i j hi hj => regE rfl rfl⟩, trivial⟩ ⟨⟨_, rfl, rfl⟩, ⟨_, rfl, rfl⟩, ⟨_, rfl, rfl, rfl⟩, ⟨_, rfl, rfl⟩, ⟨_, rfl, rfl⟩, ⟨_, rfl, rfl⟩, .inl ⟨_, _, rfl, rfl, fun _ _ _ _ => rfl⟩, ⟨_, rfl, rfl⟩, ⟨_, rfl, rfl⟩, trivial⟩, ?_⟩
    refine swp_of E0m_ok mixed (by kernel_rfl) ?_
    conv => whnf
    refine ⟨h5, ?_⟩
    conv => whnf
    refine ⟨hl, ?_⟩
    conv => whnf
    refine ⟨fun i j hi hj => one1 i j hi hj, ?_⟩
    conv => whnf
    refine Swp.weak (σ2 := sK n g p e q t false) (Weak.gen2 [some 1] ⟨_, rfl, rfl, rfl⟩ rfl ⟨⟨_, rfl, rfl, rfl, rfl, rfl, fun i j hi hj => ⟨_, rfl, upd1 hi hj, rfl⟩⟩, ⟨_, rfl, rfl, rfl, rfl, rfl, fun i j hi hj => regE (app_int hF i j hi hj) rfl⟩, trivial⟩ ⟨⟨_, rfl, rfl⟩, ⟨_, rfl, rfl⟩, ⟨_, rfl, rfl, rfl⟩, ⟨_, rfl, rfl⟩, ⟨_, rfl, rfl⟩, .inl ⟨_, _, rfl, rfl, fun _ _ _ _ => rfl⟩, ⟨_, rfl, rfl⟩, ⟨_, rfl, rfl⟩, trivial⟩) ?_
    refine swp_of E0m_ok mixed (by kernel_rfl) ?_
    conv => whnf
    refine ⟨⟨by omega, by omega⟩, ?_⟩
    conv => whnf
    exact ⟨(t + 1, false), hm1, Weak.gen2 [some 1] ⟨_, rfl, rfl, rfl⟩ rfl ⟨⟨_, rfl, rfl, rfl, rfl, rfl, fun i j hi hj => ⟨_, rfl, rfl, rfl⟩⟩, ⟨_, rfl, rfl, rfl, rfl, rfl, fun i j hi hj => regE rfl rfl⟩, trivial⟩ ⟨⟨_, rfl, rfl⟩, ⟨_, rfl, rfl⟩, ⟨_, rfl, rfl, rfl⟩, ⟨_, rfl, rfl⟩, ⟨_, rfl, rfl⟩, .inl ⟨_, _, rfl, rfl, fun _ _ _ _ => rfl⟩, ⟨_, rfl, rfl⟩, ⟨_, rfl, rfl⟩, trivial⟩, hm2⟩
   ·refine swp_seq E0m_ok mixed (by kernel_rfl) ?_
    conv => whnf
    refine ⟨Int.natCast_nonneg t, k, ?_⟩
    conv => whnf
    refine ⟨sJ n g p e q t true, Weak.gen2 [some 1] ⟨_, rfl, rfl, rfl⟩ rfl ⟨⟨_, rfl, rfl, rfl, rfl, rfl, fun i j hi hj => ⟨_, rfl, rfl, rfl⟩⟩, ⟨_, rfl, rfl, rfl, rfl, rfl, fun i j hi hj => regE rfl rfl⟩, trivial⟩ ⟨⟨_, rfl, rfl⟩, ⟨_, rfl, rfl⟩, ⟨_, rfl, rfl, rfl⟩, ⟨_, rfl, rfl⟩, ⟨_, rfl, rfl⟩, ⟨_, rfl, eq8⟩, ⟨_, _, rfl, rfl, rfl, rfl⟩, ⟨_, rfl, rfl⟩, ⟨_, rfl, rfl⟩, trivial⟩, ?_⟩
    refine swp_keep E0m_ok (pre := [_, _, _, _, _]) (post := [_]) (s := 21) rfl (by kernel_rfl) ?_
    conv => whnf
    refine ⟨h5, ?_⟩
    conv => whnf
    refine ⟨1, 0, n, 1, 32, _, _, ⟨⟨_, _, _, _, _, rfl, rfl, rfl, rfl, rfl, rfl, rfl, rfl, by decide, fun _ => rfl, by decide⟩, rfl, rfl, by decide, rfl, rfl, rfl, ?_, fun i j hi hj => ?_, rfl, fun i j hi hj => rfl⟩, fun al => ?_⟩
    ·exact hl
    ·exact one1 i j hi hj
    ·cases al
     ·conv => whnf
      refine Swp.weak (σ2 := sK n g p e q t false) (Weak.gen2 [some 1] ⟨_, rfl, rfl, rfl⟩ rfl ⟨⟨_, rfl, rfl, rfl, rfl, rfl, fun i j hi hj => ⟨_, rfl, upd1 hi hj, rfl⟩⟩, ⟨_, rfl, rfl, rfl, rfl, rfl, fun i j hi hj => regE (app_int hF i j hi hj) rfl⟩, trivial⟩ ⟨⟨_, rfl, rfl⟩, ⟨_, rfl, rfl⟩, ⟨_, rfl, rfl, rfl⟩, ⟨_, rfl, rfl⟩, ⟨_, rfl, rfl⟩, .inl ⟨_, _, rfl, rfl, fun _ _ _ _ => rfl⟩, ⟨_, rfl, rfl⟩, ⟨_, rfl, rfl⟩, trivial⟩) ?_
      refine swp_of E0m_ok mixed (by kernel_rfl) ?_
      conv => whnf
      refine ⟨⟨by omega, by omega⟩, ?_⟩
      conv => whnf
      exact ⟨(t + 1, false), hm1, Weak.gen2 [some 1] ⟨_, rfl, rfl, rfl⟩ rfl ⟨⟨_, rfl, rfl, rfl, rfl, rfl, fun i j hi hj => ⟨_, rfl, rfl, rfl⟩⟩, ⟨_, rfl, rfl, rfl, rfl, rfl, fun i j hi hj => regE rfl rfl⟩, trivial⟩ ⟨⟨_, rfl, rfl⟩, ⟨_, rfl, rfl⟩, ⟨_, rfl, rfl, rfl⟩, ⟨_, rfl, rfl⟩, ⟨_, rfl, rfl⟩, .inl ⟨_, _, rfl, rfl, fun _ _ _ _ => rfl⟩, ⟨_, rfl, rfl⟩, ⟨_, rfl, rfl⟩, trivial⟩, hm2⟩
     ·conv => whnf
      refine Swp.weak (σ2 := sK n g p e q t true) (Weak.gen2 [some 1] ⟨_, rfl, rfl, rfl⟩ rfl ⟨⟨_, rfl, rfl, rfl, rfl, rfl, fun i j hi hj => ⟨_, rfl, upd1 hi hj, rfl⟩⟩, ⟨_, rfl, rfl, rfl, rfl, rfl, fun i j hi hj => regE (app_int hF i j hi hj) rfl⟩, trivial⟩ ⟨⟨_, rfl, rfl⟩, ⟨_, rfl, rfl⟩, ⟨_, rfl, rfl, rfl⟩, ⟨_, rfl, rfl⟩, ⟨_, rfl, rfl⟩, ⟨_, _, rfl, rfl, rfl, rfl⟩, ⟨_, rfl, rfl⟩, ⟨_, rfl, rfl⟩, trivial⟩) ?_
      refine swp_of E0m_ok mixed (by kernel_rfl) ?_
      conv => whnf
      refine ⟨⟨by omega, by omega⟩, ?_⟩
      conv => whnf
      exact ⟨(t + 1, true), hm1, Weak.gen2 [some 1] ⟨_, rfl, rfl, rfl⟩ rfl ⟨⟨_, rfl, rfl, rfl, rfl, rfl, fun i j hi hj => ⟨_, rfl, rfl, rfl⟩⟩, ⟨_, rfl, rfl, rfl, rfl, rfl, fun i j hi hj => regE rfl rfl⟩, trivial⟩ ⟨⟨_, rfl, rfl⟩, ⟨_, rfl, rfl⟩, ⟨_, rfl, rfl, rfl⟩, ⟨_, rfl, rfl⟩, ⟨_, rfl, rfl⟩, ⟨_, _, rfl, rfl, rfl, rfl⟩, ⟨_, rfl, rfl⟩, ⟨_, rfl, rfl⟩, trivial⟩, hm2⟩
  ·have k := of_decide_eq_false k
   have k1 : t = n := by omega
   have e1 : n * (q + 1) + t = n * (q + 1 + 1) := by rw [k1, Nat.mul_succ n (q + 1)]
   have e2 : e - (q : Int) - 1 = e - ((q + 1 : Nat) : Int) := by omega
   have e3 : p ^ (q + 1) * p = p ^ (q + 1 + 1) := (Int.pow_succ p (q + 1)).symm
   have m1 : e.toNat - (q + 1) < e.toNat - q := by omega
   have m2 : ((q + 1 : Nat) : Int) ≤ e := by omega
   conv => whnf
   refine swp_of E0m_ok mixed (by kernel_rfl) ?_
   conv => whnf
   refine ⟨⟨by omega, by omega⟩, ?_⟩
   conv => whnf
   refine ⟨h6, ?_⟩
   conv => whnf
   exact ⟨q + 1, m1, Weak.gen2 [some 1] ⟨_, rfl, rfl, rfl⟩ rfl ⟨⟨_, rfl, rfl, rfl, rfl, rfl, fun i j hi hj => ⟨_, rfl, rfl, rfl⟩⟩, ⟨_, rfl, rfl, rfl, e1, rfl, fun i j hi hj => regE rfl rfl⟩, trivial⟩ ⟨⟨_, rfl, rfl⟩, ⟨_, rfl, e2⟩, ⟨_, rfl, rfl, rfl⟩, ⟨_, rfl, rfl⟩, ⟨_, rfl, e3⟩, trivial⟩, m2⟩
 ·have h := of_decide_eq_false h
  have e1 : q = e.toNat := by omega
  have e2 : n * (q + 1) = n * (e.toNat + 1) := by rw [e1]
  conv => whnf
  exact ⟨.inl rfl, Weak.gen2 [some 1] ⟨_, rfl, rfl, rfl⟩ rfl ⟨⟨_, rfl, rfl, rfl, rfl, rfl, fun i j hi hj => ⟨_, rfl, rfl, rfl⟩⟩, ⟨_, rfl, rfl, rfl, e2, rfl, fun i j hi hj => regE rfl rfl⟩, trivial⟩ trivial⟩
end Dv
end Go.Proofs.YtmbejakmeijcbaaGreat
/- The closure of arith.Divisors as a contract over its caller's blocks. -/
namespace Go.Proofs.YtmbejakmeijcbaaGreat
open Go.RowKit
namespace Dv
theorem two_back {D0 : Nat → Prop} {w0 : Base} {r : Bool} {w : World} {la l1 : Loc} {Ba Bx : Blk} (v : Nat) (hs : Sat D0 w0 r [l1, la] [Bx, Ba] w) (h1 : Bx.st = 0) (h2 : Ba.st = 0) (h5 : ∀ i j, Bx.f i j = .gs 1 Ba.u) (h6 : ∀ i j, (Ba.f i j).clos = true) :
  Sat D0 w0 r [{ la with u := v }, l1] [{ Ba with u := v }, { Bx with f := fun _ _ => .gs 0 v }] w := by
 have hD : ∀ b, Dof D0 [{ la with u := v }, l1] [{ Ba with u := v }, { Bx with f := fun _ _ => .gs 0 v }] b → Dof D0 [l1, la] [Bx, Ba] b := by
  rintro b (h | ⟨k, l, B, e1, e2, e3, e4⟩)
  ·exact .inl h
  ·match k, e1, e2 with
   | 0, e1, e2 => cases e1; cases e2; exact .inr ⟨1, la, Ba, rfl, rfl, h2, e4⟩
   | 1, e1, e2 => cases e1; cases e2; exact .inr ⟨0, l1, Bx, rfl, rfl, h1, e4⟩
   | k + 2, e1, _ => simp at e1
 have ha := hs.at_ 1 la Ba rfl rfl (by omega)
 have hx := hs.at_ 0 l1 Bx rfl rfl (by omega)
 refine ⟨hs.below, hs.d0, rfl, fun k l B e1 e2 => ?_, fun i j li lj Bi Bj b e1 e2 e3 e4 e5 e6 e7 e8 => ?_, fun hr b o d hb => hs.noU hr b o d (hD b hb)⟩
 ·match k, e1, e2 with
  | 0, e1, e2 =>
   cases e1; cases e2
   refine fun _ => ⟨rfl, ?_⟩
   rcases ha.2 with ⟨g1, g2, g3⟩ | ⟨b, cap, cs, g2, g3, g4, g5, g6, g7, g8, g9⟩
   ·exact .inl ⟨g1, g2, g3⟩
   ·refine .inr ⟨b, cap, cs, g2, g3, g4, g5, g6, g7, g8, fun i j hi hj => ?_⟩
    obtain ⟨u, hu, hr⟩ := g9 i j hi hj
    exact ⟨u, hu, (hr.clos (h6 i j)).step (Ext.refl _ _) (fun b _ hb => hD b hb) (LocsLe.refl _)⟩
  | 1, e1, e2 =>
   cases e1; cases e2
   refine fun _ => ⟨hx.1, ?_⟩
   rcases hx.2 with ⟨g1, g2, g3⟩ | ⟨b, cap, cs, g2, g3, g4, g5, g6, g7, g8, g9⟩
   ·exact .inl ⟨g1, g2, g3⟩
   ·refine .inr ⟨b, cap, cs, g2, g3, g4, g5, g6, g7, g8, fun i j hi hj => ?_⟩
    obtain ⟨u, hu, hr⟩ := g9 i j hi hj
    rw [if_pos h1, h5] at hr
    obtain ⟨l, q1, q2, q3⟩ := hr
    cases q1
    refine ⟨u, hu, ?_⟩
    rw [if_pos h1]
    exact ⟨_, rfl, Nat.le_refl _, fun _ => q3 ha.1⟩
  | k + 2, e1, _ => simp at e1
 ·match i, j, e1, e2, e3, e4 with
  | 0, 0, _, _, _, _ => rfl
  | 1, 1, _, _, _, _ => rfl
  | 0, 1, e1, e2, e3, e4 =>
   cases e1; cases e2; cases e3; cases e4
   have := hs.dist 1 0 la l1 Ba Bx b rfl rfl rfl rfl (by omega) (by omega) e7 e8
   omega
  | 1, 0, e1, e2, e3, e4 =>
   cases e1; cases e2; cases e3; cases e4
   have := hs.dist 0 1 l1 la Bx Ba b rfl rfl rfl rfl (by omega) (by omega) e7 e8
   omega
  | k + 2, _, e1, _, _, _ => simp at e1
  | _, k + 2, _, e2, _, _ => simp at e2
theorem frame_rel {D : Nat → Prop} {w : World} {ρ : List Loc} {args : List V} {vs : List Value} {N : Nat} (hargs : VRels D w ρ args vs) (t : Nat) : VRel D w ρ (args.getD t (.c .any)) ((vs.toArray ++ Array.replicate (N - vs.toArray.size) undef).getD t undef) := by
 have hlen := hargs.length
 have h2 := hargs.get t
 rcases Nat.lt_or_ge t vs.length with hlt | hge
 ·have : (vs.toArray ++ Array.replicate (N - vs.toArray.size) undef).getD t undef = vs.getD t undef := by
   rw [Array.getD_eq_getD_getElem?, Array.getElem?_append_left (by simpa using hlt)]
   simp [List.getD]
  rw [this]; exact h2
 ·rw [show args.getD t (V.c .any) = .c .any by rw [List.getD, List.getElem?_eq_none (by omega)]; rfl]
  trivial
theorem div_fnS {n u : Nat} {f : Nat → Int} {p e : Int} {fA fB : Nat → Nat → Cell} (hb : Bds n f p e) (t5 : ∀ i j, i < n → j < 1 → fA i j = .int .i64 (F n f p i)) (s5 : ∀ i j, i < 1 → j < 1 → fB i j = .gs 0 u) :
  FnS Tryz.prog false 96 [⟨3, 1, n, u, 0, fA⟩, ⟨86, 1, 1, 0, 0, fB⟩] [.c (.int .i64 p), .c (.int .i64 e), .c (.p 1 0 1 0 0)] (.c .any) [⟨3, 1, n * (e.toNat + 1), u + 1, 0, fun i _ => .int .i64 (F n f p i)⟩, ⟨86, 1, 1, 0, 0, fun _ _ => .gs 0 (u + 1)⟩] := by
 refine ⟨by kernel_rfl, fun D w0 ρ w vs hs hargs => ?_⟩
 obtain ⟨c, hc⟩ : ∃ c, Tryz.f96.body = some c := ⟨_, rfl⟩
 refine calls_of_wp (fn := Tryz.f96) (c := c) (Tryz.func96) hc ?_
 have hrl := hs.len
 match ρ, hs, hargs, hrl with
 | [l0, l1], hs, hargs, _ =>
  have u0 : l0.u = u := (hs.at_ 0 l0 _ rfl rfl (Nat.zero_le 1)).1
  have u1 : l1.u = 0 := (hs.at_ 1 l1 _ rfl rfl (Nat.zero_le 1)).1
  have el : { l1 with u := 0 } = l1 := by rw [← u1]
  obtain ⟨g1, g2⟩ := genE (C := ⟨D, w0, false, 34, []⟩) (a := { tmps := vs.toArray ++ Array.replicate (34 - vs.toArray.size) undef, defers := [] }) (tm := fun t => [V.c (.int .i64 p), .c (.int .i64 e), .c (.p 1 0 1 0 0)].getD t (.c .any)) (tl := [(0, .c (.int .i64 p)), (1, .c (.int .i64 e)), (2, .c (.p 0 0 1 0 0))]) (xs := [gBox, gI n (F n f p)]) [] rfl rfl [some 1, some 0] rfl
   ⟨⟨_, rfl, rfl, rfl, rfl, rfl, fun i j hi hj => ⟨_, rfl, s5 i j hi hj, rfl⟩⟩, ⟨_, rfl, rfl, rfl, rfl, rfl, fun i j hi hj => regE (t5 i j hi hj) rfl⟩, trivial⟩ ⟨⟨_, rfl, rfl⟩, ⟨_, rfl, rfl⟩, ⟨_, rfl, rfl, rfl⟩, trivial⟩ hs (frame_rel hargs)
  have e1 : List.take ([] : List Blk).length [l0, l1] ++ [some 1, some 0].map (locK [l0, l1]) = [l1, { l0 with u := 0 }] := by
   show [{ l1 with u := 0 }, { l0 with u := 0 }] = _
   rw [el]
  rw [e1] at g1 g2
  have hrel : Rel ⟨D, w0, false, 34, [l1]⟩ (gst [(0, .c (.int .i64 p)), (1, .c (.int .i64 e)), (2, .c (.p 0 0 1 0 0))] [gBox, gI n (F n f p)]) { tmps := vs.toArray ++ Array.replicate (34 - vs.toArray.size) undef, defers := [] } w :=
   ⟨_, g1, ⟨by simp; omega, LocsLe.append [l1] _⟩, rfl, g2⟩
  refine wp_mono ((div_swp hb c hc).run _ _ _ rfl (Nat.le_refl _) rfl hrel) ?_
  rintro x a w' ⟨σ, hr, hx, hw⟩
  obtain ⟨ρ2, hs2, hN2, hdf2, hf2⟩ := hw _ a w' (Nat.le_refl _) hr
  have hl2 := hs2.len
  match ρ2, hs2, hN2, hf2, hl2 with
  | [m1, ma], hs2, hN2, hf2, _ =>
   have v1 : m1.u = 0 := (hs2.at_ 0 m1 _ rfl rfl (Nat.zero_le 1)).1
   obtain ⟨l', r1, r2, r3⟩ := hN2.2 0 l1 rfl
   cases r1
   have em : m1 = l1 := r2 (by omega)
   obtain ⟨y, hy, _⟩ := ret_run (v := .c .any) (fn := Tryz.f96) E0m_ok hs2 hf2 rfl
   have fin : a.defers = [] ∧ ∃ v, (results Tryz.f96 a.tmps).run Tryz.prog w' = .ok v w' ∧ ∃ y ρ', Ending.returned v = .returned y ∧ Sat D w0 false ρ' [⟨3, 1, n * (e.toNat + 1), u + 1, 0, fun i _ => .int .i64 (F n f p i)⟩, ⟨86, 1, 1, 0, 0, fun _ _ => .gs 0 (u + 1)⟩] w' ∧ LocsLe [l0, l1] ρ' ∧ VRel (Dof D ρ' [⟨3, 1, n * (e.toNat + 1), u + 1, 0, fun i _ => .int .i64 (F n f p i)⟩, ⟨86, 1, 1, 0, 0, fun _ _ => .gs 0 (u + 1)⟩]) w' ρ' (.c .any) y := by
    refine ⟨hdf2, y, hy, y, _, rfl, two_back (u + 1) hs2 rfl rfl (fun _ _ => rfl) (fun _ _ => rfl), fun k l hk => ?_, trivial⟩
    match k, hk with
    | 0, hk =>
     cases hk
     exact ⟨_, rfl, fun h => by have h : u + 1 = l0.u := h; omega, by show l0.u ≤ u + 1; omega⟩
    | 1, hk =>
     cases hk
     exact ⟨m1, rfl, fun _ => em, by omega⟩
    | k + 2, hk => simp at hk
   rcases hx with rfl | rfl
   ·exact fin
   ·exact fin
end Dv
end Go.Proofs.YtmbejakmeijcbaaGreat
/- The evaluator with a table of calls; the runs of arith.Divisors and what stands on it. -/
namespace Go.Proofs.YtmbejakmeijcbaaGreat
open Go.RowKit
def clnY (f : FuncId) : Bool := [100].contains f
def opY (E : Env) (q : FuncId → List V → Option V) (qs : FuncId → List Blk → List V → Option (V × List Blk)) (inl : FuncId → Bool) (o : Oper) (σ : St) : Option St :=
 match o.op with
 | .call { callee := .value g, args, .. } => match calleeX σ g with
  | some (f, _) => match clnY f with
   | true => opX E q qs inl o (dfzL (args.toList.flatMap fun x => nmV (σ.ev x)) σ)
   | false => opX E q qs inl o σ
  | none => none
 | _ => opX E q qs inl o σ
theorem opY_ok {E : Env} (hE : EnvOK E) {q : FuncId → List V → Option V} {qs : FuncId → List Blk → List V → Option (V × List Blk)} (hq : ∀ f ags X, q f ags = some X → FnOK E.P E.r f ags X) (hqs : ∀ f bl ags X bl', qs f bl ags = some (X, bl') → FnS E.P E.r f bl ags X bl') {inl : FuncId → Bool} {o : Oper} {σ σ' : St} (h : opY E q qs inl o σ = some σ') : OpGo E o σ σ' := by
 unfold opY at h
 split at h
 ·split at h
  ·split at h
   ·exact OpGo.lax (Lax.dfzL _ σ) (opX_ok hE hq hqs h)
   ·exact opX_ok hE hq hqs h
  ·cases h
 ·exact opX_ok hE hq hqs h
def regY (E : Env) (q : FuncId → List V → Option V) (qs : FuncId → List Blk → List V → Option (V × List Blk)) (inl : FuncId → Bool) (ops : Array Oper) : List Oper → St → Option St
 | [], σ => some σ
 | o :: rest, σ => match o.guard with
  | none => match opY E q qs inl o σ with
   | some σ' => regY E q qs inl ops rest σ'
   | none => none
  | some (g, want) => match guardV σ ops g with
   | some (d, b) => match gw want b with
    | true => match opY E q qs inl o (σ.put (some d) (.c (.bool want))) with
     | some σ' => regY E q qs inl ops rest σ'
     | none => none
    | false => regY E q qs inl ops rest ((σ.put (some d) (.c (.bool !want))).put o.dst .un)
   | none => match guardU σ ops g with
    | true => regY E q qs inl ops rest (σ.put o.dst .un)
    | false => none
theorem regY_ok {E : Env} (hE : EnvOK E) {q : FuncId → List V → Option V} {qs : FuncId → List Blk → List V → Option (V × List Blk)} (hq : ∀ f ags X, q f ags = some X → FnOK E.P E.r f ags X) (hqs : ∀ f bl ags X bl', qs f bl ags = some (X, bl') → FnS E.P E.r f bl ags X bl') {inl : FuncId → Bool} {ops : Array Oper} {C : Ctx} (hC : C.r = E.r) {Q : Exit → Act → World → Prop} {σ1 : St} (hQ : ∀ a w, Rel C σ1 a w → Q .normal a w) :
  ∀ (l : List Oper) (σ : St) (a : Act) (w : World), (∀ o ∈ l, dstOK C.N o.dst) → regY E q qs inl ops l σ = some σ1 → Rel C σ a w → wpList E.P ops Q l a w
 | [], σ, a, w, _, h, hr => by cases h; exact hQ a w hr
 | o :: rest, σ, a, w, hd, h, hr => by
  have ih := fun σ a w => regY_ok (inl := inl) (ops := ops) hE hq hqs hC hQ rest σ a w (fun o ho => hd o (by simp [ho]))
  unfold wpList
  simp only [regY] at h
  split at h
  ·rename_i hg
   rw [if_pos (by simp [Region.wanted, hg])]
   split at h
   ·rename_i σ2 h2
    exact .inl (opY_ok hE hq hqs h2 hC (hd o (by simp)) hr fun a' w' hrel => ih σ2 a' w' h hrel)
   ·cases h
  ·rename_i g want hg
   split at h
   ·rename_i d b hgv
    obtain ⟨hy, hv, hlt, htm⟩ := guard_val (a := a) (w := w) hgv (by obtain ⟨ρ, hs, hN, hdf, hf⟩ := hr; exact fun d _ => ⟨_, ρ, hf d⟩)
    have hwt : Region.wanted o (yielded ops a.tmps) = (b == want) := by
     unfold Region.wanted
     rw [hg]
     simp only [hy]
     rfl
    rw [hwt]
    split at h
    ·rename_i hb
     have e := gw_true.1 hb
     rw [if_pos (by simp [e])]
     split at h
     ·rename_i σ2 h2
      refine .inl (opY_ok hE hq hqs h2 hC (hd o (by simp)) (put_same hr fun D ρ => ?_) fun a' w' hrel => ih σ2 a' w' h hrel)
      rw [hv, e]; rfl
     ·cases h
    ·rename_i hb
     have e' := gw_false.1 hb
     have e : ¬ b = want := by rw [e']; cases want <;> simp
     rw [if_neg (by simpa using e)]
     have h2 : Rel C (σ.put (some d) (.c (.bool !want))) a w := put_same hr fun D ρ => by rw [hv, e']; rfl
     obtain ⟨ρ, hs, hN, hdf, hf⟩ := h2
     exact ih _ _ _ h (Rel.put hs hN hdf hf (hd o (by simp)) rfl)
   ·split at h
    ·rename_i hgu
     have hy := guard_un (a := a) (w := w) hgu (by obtain ⟨ρ, hs, hN, hdf, hf⟩ := hr; exact fun d _ => ⟨_, ρ, hf d⟩)
     have hwt : Region.wanted o (yielded ops a.tmps) = false := by
      unfold Region.wanted
      rw [hg]
      simp only [hy]
      rfl
     rw [hwt, if_neg (by simp)]
     obtain ⟨ρ, hs, hN, hdf, hf⟩ := hr
     exact ih _ _ _ h (Rel.put hs hN hdf hf (hd o (by simp)) rfl)
    ·cases h
def loopY (N : Nat) (body : St → Option (Exit × St)) : Nat → St → Option (Exit × St)
 | 0, _ => none
 | n + 1, σ => fSt N σ fun σ => match body σ with
  | some (.normal, σ') => loopY N body n σ'
  | r => r
def codeY (E : Env) (q : FuncId → List V → Option V) (qs : FuncId → List Blk → List V → Option (V × List Blk)) (inl : FuncId → Bool) (N lf : Nat) : Code → St → Option (Exit × St)
 | .skip, σ => some (.normal, σ)
 | .region _ ops draw, σ => match draw with
  | true => match aheadX E q ops σ.bl.length ops.toList 0 { σ with bl := σ.bl ++ List.replicate (freshN ops.toList) phB } with
   | some σ' => some (.normal, σ')
   | none => none
  | false => match regY E q qs inl ops ops.toList σ with
   | some σ' => some (.normal, σ')
   | none => none
 | .seq a b, σ => match codeY E q qs inl N lf a σ with
  | some (.normal, σ') => codeY E q qs inl N lf b σ'
  | r => r
 | .cond c x y, σ => match σ.ev c with
  | .c (.bool true) => codeY E q qs inl N lf x σ
  | .c (.bool false) => codeY E q qs inl N lf y σ
  | _ => none
 | .block id c, σ => match codeY E q qs inl N lf c σ with
  | some (.exit i, σ') => match Nat.beq i id with
   | true => some (.normal, σ')
   | false => some (.exit i, σ')
  | r => r
 | .exit id, σ => some (.exit id, σ)
 | .ret, σ => some (.ret, σ)
 | .label _, σ => some (.normal, σ)
 | .loop c, σ => loopY N (codeY E q qs inl N lf c) lf σ
 | _, _ => none
theorem codeY_ok {E : Env} (hE : EnvOK E) {q : FuncId → List V → Option V} {qs : FuncId → List Blk → List V → Option (V × List Blk)} (hq : ∀ f ags X, q f ags = some X → FnOK E.P E.r f ags X) (hqs : ∀ f bl ags X bl', qs f bl ags = some (X, bl') → FnS E.P E.r f bl ags X bl') {inl : FuncId → Bool} {N lf : Nat} (hm : E.P.follows .mixedOrders = true) {C : Ctx} (hC : C.r = E.r) :
  ∀ (c : Code) {σ : St} {r : Exit × St} {a : Act} {w : World}, codeB C.N c = true → codeY E q qs inl N lf c σ = some r → Rel C σ a w → c.wp E.P (QX C r) a w
 | .skip, σ, r, a, w, _, h, hr => by cases h; exact wp_skip ⟨rfl, hr⟩
 | .region id ops draw, σ, r, a, w, hc, h, hr => by
  simp only [codeB, Bool.and_eq_true] at hc
  simp only [codeY] at h
  cases draw with
  | true =>
   simp only at h
   split at h
   ·rename_i σ' h1
    cases h
    refine adraw_sound hE hC (K := fun s => s = σ') hm (fun s a w hs hrel => ⟨rfl, by rw [← hs]; exact hrel⟩) hc.1 (by simpa using hc.2) ?_ hr
    exact aheadX_ok hq _ _ h1 rfl
   ·cases h
  | false =>
   simp only at h
   split at h
   ·rename_i σ' h1
    cases h
    refine wp_region_list (regY_ok hE hq hqs hC (fun a w hrel => ⟨rfl, hrel⟩) ops.toList σ a w (fun o ho d hd' => ?_) h1 hr)
    have := List.all_eq_true.1 hc.1 o ho
    unfold dstB at this
    rw [hd'] at this
    simpa using this
   ·cases h
 | .seq x y, σ, r, a, w, hc, h, hr => by
  simp only [codeB, Bool.and_eq_true] at hc
  simp only [codeY] at h
  split at h
  ·rename_i σ' h1
   refine wp_seq (wp_mono (codeY_ok hE hq hqs hm hC x hc.1 h1 hr) ?_)
   rintro e a' w' ⟨rfl, hrel⟩
   exact codeY_ok hE hq hqs hm hC y hc.2 h hrel
  ·rename_i hno
   refine wp_seq (wp_mono (codeY_ok hE hq hqs hm hC x hc.1 h hr) ?_)
   rintro e a' w' ⟨rfl, hrel⟩
   obtain ⟨e, σ'⟩ := r
   cases e with
   | normal => exact absurd h (hno σ')
   | _ => exact ⟨rfl, hrel⟩
 | .cond c x y, σ, r, a, w, hc, h, hr => by
  simp only [codeB, Bool.and_eq_true] at hc
  simp only [codeY] at h
  have he : ∀ b, σ.ev c = .c (.bool b) → a.eval c = .bool b := by
   intro b hb
   obtain ⟨ρ, hs, hN, hdf, hf⟩ := hr
   have := ev_rel hf c
   rw [hb] at this
   exact this
  split at h
  ·rename_i hb
   exact wp_cond_split (he _ hb) (fun _ => codeY_ok hE hq hqs hm hC x hc.1 h hr) (fun e => by cases e)
  ·rename_i hb
   exact wp_cond_split (he _ hb) (fun e => by cases e) (fun _ => codeY_ok hE hq hqs hm hC y hc.2 h hr)
  ·cases h
 | .block id c, σ, r, a, w, hc, h, hr => by
  simp only [codeB] at hc
  simp only [codeY] at h
  split at h
  ·rename_i i σ' h1
   refine wp_block (wp_mono (codeY_ok hE hq hqs hm hC c hc h1 hr) ?_)
   rintro e a' w' ⟨rfl, hrel⟩
   simp only [Exit.inBlock]
   split at h
   ·rename_i hb
    cases h
    rw [if_pos (Nat.eq_of_beq_eq_true hb)]
    exact ⟨rfl, hrel⟩
   ·rename_i hb
    cases h
    rw [if_neg (Nat.ne_of_beq_eq_false hb)]
    exact ⟨rfl, hrel⟩
  ·rename_i hno
   refine wp_block (wp_mono (codeY_ok hE hq hqs hm hC c hc h hr) ?_)
   rintro e a' w' ⟨rfl, hrel⟩
   obtain ⟨e, σ'⟩ := r
   cases e with
   | exit i => exact absurd h (hno i σ')
   | _ => exact ⟨rfl, hrel⟩
 | .exit id, σ, r, a, w, _, h, hr => by cases h; exact wp_exit ⟨rfl, hr⟩
 | .ret, σ, r, a, w, _, h, hr => by cases h; exact wp_ret ⟨rfl, hr⟩
 | .label l, σ, r, a, w, _, h, hr => by cases h; exact wp_label ⟨rfl, hr⟩
 | .loop c, σ, r, a, w, hc, h, hr => by
  simp only [codeB] at hc
  simp only [codeY] at h
  refine wp_loop_ghost (fun n a w => ∃ σ, Rel C σ a w ∧ loopY N (codeY E q qs inl N lf c) n σ = some r) lf ⟨σ, hr, h⟩ ?_
  rintro n a w ⟨σ1, hrel, hn⟩
  cases n with
  | zero => cases hn
  | succ n =>
   simp only [loopY, fSt_eq] at hn
   have hrel2 := Lax.nrm N σ1 C a w hrel
   split at hn
   ·rename_i σ2 h2
    refine wp_mono (codeY_ok hE hq hqs hm hC c hc h2 hrel2) ?_
    rintro e a' w' ⟨rfl, hrel3⟩
    exact ⟨n, Nat.lt_succ_self n, σ2, hrel3, hn⟩
   ·rename_i hno
    refine wp_mono (codeY_ok hE hq hqs hm hC c hc hn hrel2) ?_
    rintro e a' w' ⟨rfl, hrel3⟩
    obtain ⟨e, σ2⟩ := r
    cases e with
    | normal => exact absurd hn (hno σ2)
    | _ => exact ⟨rfl, hrel3⟩
 | .rangeFunc .., _, _, _, _, _, h, _ => by cases h
 | .scope _, _, _, _, _, _, h, _ => by cases h
 | .goto _, _, _, _, _, _, h, _ => by cases h
 | .refuse _, _, _, _, _, _, h, _ => by cases h
def runY (E : Env) (orc : FuncId → List V → Option V) (spc : FuncId → List Blk → List V → Option (V × List Blk)) (ok inl : FuncId → Bool) (lf : Nat) : Nat → FuncId → List Blk → List V → Option (V × List Blk)
 | 0, _, _, _ => none
 | d + 1, f, bl, ags => match spc f bl ags with
  | some r => some r
  | none => match ok f with
  | false => none
  | true => match E.P.funcs[f]? with
   | some fn => match fn.body with
    | some c => fVs ags fun ags => match codeY E (pureX orc (runY E orc spc ok inl lf d)) (runY E orc spc ok inl lf d) inl fn.ntmps lf c ⟨frame0 ags, bl⟩ with
     | some (e, σ) => match e with
      | .normal | .ret => match retV E σ fn.results.toList with
       | some v => fV v fun v => fBs σ.bl fun bl' => some (trimX v bl' bl.length)
       | none => none
      | _ => none
     | none => none
    | none => none
   | none => none
theorem runY_ok {E : Env} (hE : EnvOK E) (hm : E.P.follows .mixedOrders = true) {orc : FuncId → List V → Option V} (ho : ∀ f ags X, orc f ags = some X → FnOK E.P E.r f ags X) {spc : FuncId → List Blk → List V → Option (V × List Blk)} (hsp : ∀ f bl ags X bl', spc f bl ags = some (X, bl') → FnS E.P E.r f bl ags X bl') {ok inl : FuncId → Bool} (hok : ∀ f fn c, ok f = true → E.P.funcs[f]? = some fn → fn.body = some c → codeB fn.ntmps c = true ∧ hasBody E.P f = true) {lf : Nat} :
  ∀ (d : Nat) (f : FuncId) (bl : List Blk) (ags : List V) (X : V) (bl' : List Blk), runY E orc spc ok inl lf d f bl ags = some (X, bl') → FnS E.P E.r f bl ags X bl'
 | 0, _, _, _, _, _, h => by cases h
 | d + 1, f, bl, ags, X, bl', h => by
  simp only [runY] at h
  split at h
  ·rename_i r hr
   cases h
   exact hsp _ _ _ _ _ hr
  split at h
  ·cases h
  rename_i hokf
  split at h
  case h_2 => cases h
  rename_i fn hfn
  split at h
  case h_2 => cases h
  rename_i c hc
  rw [fVs_eq] at h
  split at h
  case h_2 => cases h
  rename_i e σ hrun
  obtain ⟨hcb, hbd⟩ := hok f fn c hokf hfn hc
  have ih := runY_ok hE hm ho hsp hok (inl := inl) (lf := lf) d
  refine ⟨hbd, fun D0 w0 ρ w vs hs hargs => ?_⟩
  refine calls_of_wp hfn hc ?_
  let C : Ctx := ⟨D0, w0, E.r, fn.ntmps, ρ⟩
  have hlen := hargs.length
  have hargs' := nrmVs_rel hargs
  have hrel : Rel C ⟨frame0 (ags.map nrmV), bl⟩ { tmps := vs.toArray ++ Array.replicate (fn.ntmps - vs.toArray.size) undef, defers := [] } w := by
   refine ⟨ρ, hs, ⟨by simp [C]; omega, LocsLe.refl _⟩, rfl, fun t => ?_⟩
   have h1 := hargs'.get t
   show VRel (Dof D0 ρ bl) w ρ ((ags.map nrmV).getD t (.c .any)) _
   rcases Nat.lt_or_ge t vs.length with hlt | hge
   ·have : (vs.toArray ++ Array.replicate (fn.ntmps - vs.toArray.size) undef).getD t undef = vs.getD t undef := by
     rw [Array.getD_eq_getD_getElem?, Array.getElem?_append_left (by simpa using hlt)]
     simp [List.getD]
    rw [this]; exact h1
   ·rw [show (ags.map nrmV).getD t (V.c .any) = .c .any by rw [List.getD, List.getElem?_eq_none (by simp; omega)]; rfl]
    trivial
  refine wp_mono (codeY_ok hE (pureX_ok ho ih) ih hm rfl c hcb hrun hrel) ?_
  rintro e' a w' ⟨rfl, hr⟩
  have fin : (match retV E σ fn.results.toList with
    | some v => fV v fun v => fBs σ.bl fun bl' => some (trimX v bl' bl.length)
    | none => none) = some (X, bl') → a.defers = [] ∧ ∃ v, (results fn a.tmps).run E.P w' = .ok v w' ∧ ∃ u ρ', Ending.returned v = .returned u ∧ Sat D0 w0 E.r ρ' bl' w' ∧ LocsLe ρ ρ' ∧ VRel (Dof D0 ρ' bl') w' ρ' X u := by
   intro hk
   split at hk
   ·rename_i v hv
    rw [fV_eq, fBs_eq] at hk
    obtain ⟨ρ1, hs1, hN1, hdf1, hf1⟩ := hr
    obtain ⟨x, hx, hxr⟩ := ret_run hE hs1 hf1 hv
    have hrel2 : Rel ⟨D0, w0, E.r, 0, ρ⟩ ⟨asg [(0, v)], σ.bl⟩ ⟨#[x], []⟩ w' := by
     refine ⟨ρ1, hs1, ⟨Nat.zero_le _, hN1.2⟩, rfl, fun t => ?_⟩
     show VRel _ _ _ (if t = 0 then v else .c .any) _
     split
     ·rename_i e; subst e; exact hxr
     ·trivial
    obtain ⟨ρ2, hs2, hN2, _, hf2⟩ := Lax.nrm 1 _ _ _ _ hrel2
    have h3 : VRel (Dof D0 ρ2 (σ.bl.map nrmB)) w' ρ2 (nrmV v) x := hf2 0
    refine ⟨hdf1, x, hx, x, ?_⟩
    unfold trimX at hk
    split at hk
    ·rename_i hb
     cases hk
     simp only [Bool.and_eq_true] at hb
     obtain ⟨t1, t2⟩ := hs2.take bl.length fun k B hk hB hst i j hi hj => by
      have hmem : B ∈ (σ.bl.map nrmB).take bl.length := List.mem_of_getElem? (by rw [List.getElem?_take_of_lt hk]; exact hB)
      have := List.all_eq_true.1 hb.2 B hmem
      simp only [hst, beq_self_eq_true, Bool.not_true, Bool.false_or] at this
      exact allIJ_ok this hi hj
     exact ⟨_, rfl, t1, hN2.2.take (Nat.le_of_eq hs.len), (h3.take hb.1).step (Ext.refl _ _) (fun b _ hb => t2 b hb) (LocsLe.refl _)⟩
    ·cases hk
     exact ⟨ρ2, rfl, hs2, hN2.2, h3⟩
   ·cases hk
  cases e' with
  | normal => exact fin h
  | ret => exact fin h
  | exit i => cases h
  | goto l => cases h
  | panic ch => cases h
  | outgrown => cases h

def valC : Cell → Int
 | .int .i64 x => x
 | _ => 0
def isI : Cell → Bool
 | .int .i64 _ => true
 | _ => false
theorem isI_ok {c : Cell} (h : isI c = true) : c = .int .i64 (valC c) := by
 unfold isI at h
 split at h
 ·rfl
 ·cases h
def isG (u : Nat) : Cell → Bool
 | .gs 0 v => v == u
 | _ => false
theorem isG_ok {u : Nat} {c : Cell} (h : isG u c = true) : c = .gs 0 u := by
 unfold isG at h
 split at h
 ·rw [beq_iff_eq.1 h]
 ·cases h
def dvB (B0 B1 : Blk) (p e : Int) : Bool :=
 B0.t == 3 && B0.sz == 1 && B0.st == 0 && B1.t == 86 && B1.sz == 1 && B1.n == 1 && B1.u == 0 && B1.st == 0 && isG B0.u (B1.f 0 0) && allIJ B0.n 1 (fun i _ => isI (B0.f i 0)) && decide (1 ≤ B0.n) && decide (B0.n ≤ 1000) && decide (0 ≤ e) && decide (e ≤ 1000) && allIJ B0.n e.toNat (fun i q => inRX .i64 (valC (B0.f i 0) * p ^ (q + 1))) && allIJ e.toNat 1 (fun q _ => inRX .i64 (p ^ (q + 1) * p))
def dvX (f : FuncId) (bl : List Blk) (ags : List V) : Option (V × List Blk) := match f == 96 with
 | false => none
 | true => match bl, ags with
  | [B0, B1], [.c (.int .i64 p), .c (.int .i64 e), .c (.p 1 0 1 0 0)] => match dvB B0 B1 p e with
   | true => some (.c .any, [⟨3, 1, B0.n * (e.toNat + 1), B0.u + 1, 0, fun i _ => .int .i64 (Dv.F B0.n (fun i => valC (B0.f i 0)) p i)⟩, ⟨86, 1, 1, 0, 0, fun _ _ => .gs 0 (B0.u + 1)⟩])
   | false => none
  | _, _ => none
theorem dvX_ok (f : FuncId) (bl : List Blk) (ags : List V) (X : V) (bl' : List Blk) (h : dvX f bl ags = some (X, bl')) : FnS Tryz.prog false f bl ags X bl' := by
 unfold dvX at h
 split at h
 ·cases h
 rename_i hf
 split at h
 ·rename_i B0 B1 p e
  split at h
  ·rename_i hd
   cases h
   rw [beq_iff_eq.1 hf]
   unfold dvB at hd
   simp only [Bool.and_eq_true, beq_iff_eq, decide_eq_true_eq] at hd
   obtain ⟨⟨⟨⟨⟨⟨⟨⟨⟨⟨⟨⟨⟨⟨⟨a1, a2⟩, a3⟩, a4⟩, a5⟩, a6⟩, a7⟩, a8⟩, a9⟩, b1⟩, b2⟩, b3⟩, b4⟩, b5⟩, b6⟩, b7⟩ := hd
   obtain ⟨t0, s0, n0, u0, st0, f0⟩ := B0
   obtain ⟨t1, s1, n1, u1, st1, f1⟩ := B1
   simp only at a1 a2 a3 a4 a5 a6 a7 a8 a9 b1 b2 b3 b6
   subst a1 a2 a3 a4 a5 a6 a7 a8
   refine Dv.div_fnS ⟨b2, b3, b4, b5, fun i q hi hq => ?_, fun q hq => ?_⟩ (fun i j hi hj => ?_) fun i j hi hj => ?_
   ·rw [Dv.F_low hi]
    exact inRX_ok (allIJ_ok b6 hi (show q < e.toNat by omega))
   ·exact inRX_ok (allIJ_ok b7 (show q < e.toNat by omega) (Nat.zero_lt_one))
   ·obtain rfl := Nat.lt_one_iff.1 hj
    show f0 i 0 = _
    rw [Dv.F_low hi]
    exact isI_ok (allIJ_ok b1 hi Nat.zero_lt_one)
   ·obtain rfl := Nat.lt_one_iff.1 hi
    obtain rfl := Nat.lt_one_iff.1 hj
    exact isG_ok a9
  ·cases h
 ·cases h
theorem runY_same {orc : FuncId → List V → Option V} (ho : ∀ f l X, orc f l = some X → FnOK Tryz.prog false f l X) {inl : FuncId → Bool} {f : FuncId} {args : List V} {Y : V} (h : (pureX orc (runY ER orc dvX okF inl 1000 40) f args).map (fun X => sameV X Y) = some true) : FnOK Tryz.prog false f args Y := by
 cases hx : pureX orc (runY ER orc dvX okF inl 1000 40) f args with
 | none => rw [hx] at h; cases h
 | some X =>
  rw [hx] at h
  have h : sameV X Y = true := by simpa using h
  have h1 := runY_ok (E := ER) ER_ok (by rw [ER_P]; exact mixedR) (by rw [ER_P, ER_r]; exact ho) (by rw [ER_P, ER_r]; exact dvX_ok) (by rw [ER_P]; exact okF_ok) (inl := inl) (lf := 1000) 40
  rw [ER_P, ER_r] at h1
  have hf := pureX_ok ho h1 f args X hx
  refine ⟨hf.1, fun D w vs h1 h2 h3 => (hf.2 D w vs h1 h2 h3).mono ?_⟩
  rintro e w' ⟨v, h4, h5, h6⟩
  exact ⟨v, h4, sameV_ok X Y h D w' v h5, h6⟩
end Go.Proofs.YtmbejakmeijcbaaGreat
/- Plain facts on lists of digits to base 2^32: their value, carries, and uniqueness without leading zeros. No condition. -/
namespace Dg
def B : Nat := 4294967296
theorem B_eq : B = 4294967296 := rfl
theorem B_pos : 0 < B := by decide
def val : List Nat → Nat
 | [] => 0
 | d :: l => d + B * val l
def ok (l : List Nat) : Prop := ∀ d ∈ l, d < B
theorem ok_nil : ok [] := by intro d h; cases h
theorem ok_cons {d : Nat} {l : List Nat} : ok (d :: l) ↔ d < B ∧ ok l := by
 simp [ok]
theorem ok_get {l : List Nat} (h : ok l) {i : Nat} (hi : i < l.length) : l[i] < B := h _ (List.getElem_mem hi)
theorem ok_getD {l : List Nat} (h : ok l) (i : Nat) : l[i]?.getD 0 < B := by
 cases hi : l[i]? with
 | none => exact B_pos
 | some v => exact h v (List.mem_of_getElem? hi)
theorem ok_take {l : List Nat} (h : ok l) (k : Nat) : ok (l.take k) := fun d hd => h d (List.mem_of_mem_take hd)
theorem ok_drop {l : List Nat} (h : ok l) (k : Nat) : ok (l.drop k) := fun d hd => h d (List.mem_of_mem_drop hd)
theorem ok_set {l : List Nat} (h : ok l) {i d : Nat} (hd : d < B) : ok (l.set i d) := by
 intro x hx
 rcases List.mem_or_eq_of_mem_set hx with h1 | h1
 ·exact h x h1
 ·exact h1 ▸ hd
theorem ok_replicate (n : Nat) : ok (List.replicate n 0) := by
 intro d hd; rw [List.eq_of_mem_replicate hd]; exact B_pos
theorem val_append (a b : List Nat) : val (a ++ b) = val a + B ^ a.length * val b := by
 induction a with
 | nil => simp [val]
 | cons d l ih => simp only [List.cons_append, val, ih, List.length_cons, Nat.pow_succ]; grind
theorem val_replicate (n : Nat) : val (List.replicate n 0) = 0 := by
 induction n with
 | zero => rfl
 | succ n ih => simp [List.replicate_succ, val, ih]
theorem val_lt {l : List Nat} (h : ok l) : val l < B ^ l.length := by
 induction l with
 | nil => simp [val]
 | cons d l ih =>
  rw [ok_cons] at h
  have := ih h.2
  simp only [val, List.length_cons, Nat.pow_succ]
  have h2 : B * val l + B ≤ B * B ^ l.length := by
   have := Nat.mul_le_mul_left B this
   rw [Nat.mul_succ] at this; exact this
  have := h.1
  rw [Nat.mul_comm (B ^ _)]; omega
theorem val_snoc (l : List Nat) (d : Nat) : val (l ++ [d]) = val l + B ^ l.length * d := by
 rw [val_append]; simp [val]
theorem val_take_succ {l : List Nat} {k : Nat} (h : k < l.length) : val (l.take (k+1)) = val (l.take k) + B ^ k * l[k] := by
 rw [List.take_succ_eq_append_getElem h, val_snoc, List.length_take, Nat.min_eq_left (Nat.le_of_lt h)]
theorem val_take_drop (l : List Nat) {k : Nat} (h : k ≤ l.length) : val l = val (l.take k) + B ^ k * val (l.drop k) := by
 conv => lhs; rw [← List.take_append_drop k l]
 rw [val_append, List.length_take, Nat.min_eq_left h]
theorem val_set {l : List Nat} {i : Nat} (h : i < l.length) (d : Nat) : val (l.set i d) + B ^ i * l[i] = val l + B ^ i * d := by
 induction l generalizing i with
 | nil => simp at h
 | cons x l ih =>
  cases i with
  | zero => simp [val]; omega
  | succ i =>
   have := ih (i := i) (by simpa using h)
   simp only [List.set_cons_succ, val, List.getElem_cons_succ, Nat.pow_succ]
   grind
def trimmed (l : List Nat) : Prop := ∀ d, l.getLast? = some d → d ≠ 0
def trim : List Nat → List Nat
 | [] => []
 | d :: l => match trim l with
  | [] => if d = 0 then [] else [d]
  | r => d :: r
theorem val_trim (l : List Nat) : val (trim l) = val l := by
 induction l with
 | nil => rfl
 | cons d l ih =>
  unfold trim
  split
  ·rename_i h
   rw [h] at ih
   split
   ·rename_i h0; simp [val] at ih ⊢; rw [← ih, h0]; rfl
   ·simp [val] at ih ⊢; rw [← ih]; rfl
  ·simp only [val]; rw [ih]
theorem trim_trimmed (l : List Nat) : trimmed (trim l) := by
 induction l with
 | nil => intro d h; simp [trim] at h
 | cons d l ih =>
  unfold trim
  split
  ·split
   ·intro d h; simp at h
   ·intro x h; simp at h; omega
  ·rename_i r h
   intro x hx
   rw [List.getLast?_cons] at hx
   cases hr : (trim l).getLast? with
   | none => simp at hr; exact absurd hr h
   | some y => rw [hr] at hx; simp at hx; subst hx; exact ih y hr
theorem ok_trim {l : List Nat} (h : ok l) : ok (trim l) := by
 induction l with
 | nil => exact h
 | cons d l ih =>
  rw [ok_cons] at h
  unfold trim
  split
  ·split
   ·exact ok_nil
   ·exact ok_cons.2 ⟨h.1, ok_nil⟩
  ·exact ok_cons.2 ⟨h.1, ih h.2⟩
theorem val_eq_zero {l : List Nat} (h : trimmed l) : val l = 0 ↔ l = [] := by
 refine ⟨fun hv => ?_, fun h => by rw [h]; rfl⟩
 cases hl : l.getLast? with
 | none => simpa using hl
 | some d =>
  exfalso
  obtain ⟨m, rfl⟩ := List.getLast?_eq_some_iff.1 hl
  rw [val_snoc] at hv
  have hd := h d hl
  have : 0 < B ^ m.length * d := Nat.mul_pos (Nat.pow_pos B_pos) (by omega)
  omega
theorem trimmed_tail {d : Nat} {l : List Nat} (h : trimmed (d :: l)) : trimmed l := by
 intro x hx
 refine h x ?_
 rw [List.getLast?_cons, hx]; rfl
theorem val_inj {a b : List Nat} (ha : ok a) (hb : ok b) (ta : trimmed a) (tb : trimmed b) (h : val a = val b) : a = b := by
 induction a generalizing b with
 | nil => exact ((val_eq_zero tb).1 h.symm).symm
 | cons d l ih =>
  cases b with
  | nil => exact (val_eq_zero ta).1 h
  | cons e m =>
   rw [ok_cons] at ha hb
   simp only [val] at h
   have h1 : d = e := by
    have := congrArg (· % B) h
    simp only [Nat.add_mul_mod_self_left] at this
    rwa [Nat.mod_eq_of_lt ha.1, Nat.mod_eq_of_lt hb.1] at this
   subst h1
   have h2 : val l = val m := Nat.eq_of_mul_eq_mul_left B_pos (by omega)
   rw [ih ha.2 hb.2 (trimmed_tail ta) (trimmed_tail tb) h2]
theorem trim_of_trimmed {l : List Nat} (ho : ok l) (h : trimmed l) : trim l = l :=
 val_inj (ok_trim ho) ho (trim_trimmed l) h (val_trim l)
theorem pow_le_val {l : List Nat} (h : trimmed l) (hn : l ≠ []) : B ^ (l.length - 1) ≤ val l := by
 cases hl : l.getLast? with
 | none => exact absurd (by simpa using hl) hn
 | some d =>
  obtain ⟨m, rfl⟩ := List.getLast?_eq_some_iff.1 hl
  rw [val_snoc]
  have hd := h d hl
  have h2 : B ^ m.length * 1 ≤ B ^ m.length * d := Nat.mul_le_mul_left _ (by omega)
  simp; omega
theorem val_lt_of_length {a b : List Nat} (ha : ok a) (tb : trimmed b) (h : a.length < b.length) : val a < val b := by
 have h1 := val_lt ha
 have h2 := pow_le_val tb (by intro e; subst e; simp at h)
 have h3 : B ^ a.length ≤ B ^ (b.length - 1) := Nat.pow_le_pow_right B_pos (by omega)
 omega
end Dg
namespace Go.Proofs.YtmbejakmeijcbaaGreat
def sgn (neg : Bool) (k : Nat) : Int := if neg then -(k : Int) else k
end Go.Proofs.YtmbejakmeijcbaaGreat
/- Plain facts on sums, differences, products and quotients of lists of digits, one step of a loop at a time. No condition. -/
namespace Dg
theorem take_set_succ {o : List Nat} {k : Nat} (h : k < o.length) (d : Nat) : (o.set k d).take (k + 1) = o.take k ++ [d] := by
 rw [List.take_succ_eq_append_getElem (by simpa using h), List.take_set_of_le (Nat.le_refl k)]
 simp
theorem val_take_set_succ {o : List Nat} {k : Nat} (h : k < o.length) (d : Nat) : val ((o.set k d).take (k + 1)) = val (o.take k) + B ^ k * d := by
 rw [take_set_succ h, val_snoc, List.length_take, Nat.min_eq_left (Nat.le_of_lt h)]
theorem val_take_succ_getD (l : List Nat) (k : Nat) : val (l.take (k+1)) = val (l.take k) + B ^ k * (l[k]?.getD 0) := by
 by_cases h : k < l.length
 ·rw [val_take_succ h]; simp [h]
 ·rw [List.take_of_length_le (by omega), List.take_of_length_le (by omega)]; simp [h]
theorem take_all {l : List Nat} {k : Nat} (h : l.length ≤ k) : l.take k = l := List.take_of_length_le h

theorem plus_step {a b o : List Nat} {k c : Nat} (hk : k < o.length) (hI : val (o.take k) + B ^ k * c = val (a.take k) + val (b.take k)) :
  val ((o.set k ((a[k]?.getD 0 + b[k]?.getD 0 + c) % B)).take (k + 1)) + B ^ (k + 1) * ((a[k]?.getD 0 + b[k]?.getD 0 + c) / B) = val (a.take (k + 1)) + val (b.take (k + 1)) := by
 rw [val_take_set_succ hk, val_take_succ_getD, val_take_succ_getD]
 generalize a[k]?.getD 0 = x at *
 generalize b[k]?.getD 0 = y at *
 have h := Nat.div_add_mod (x + y + c) B
 rw [Nat.pow_succ]
 generalize (x + y + c) / B = q at *
 generalize (x + y + c) % B = r at *
 generalize B ^ k = P at *
 grind
theorem less_step {a b o : List Nat} {k c d c' : Nat} (hk : k < o.length) (hI : val (o.take k) + val (b.take k) = val (a.take k) + B ^ k * c)
  (h : d + b[k]?.getD 0 + c = a[k]?.getD 0 + B * c') :
  val ((o.set k d).take (k + 1)) + val (b.take (k + 1)) = val (a.take (k + 1)) + B ^ (k + 1) * c' := by
 rw [val_take_set_succ hk, val_take_succ_getD, val_take_succ_getD, Nat.pow_succ]
 generalize a[k]?.getD 0 = x at *
 generalize b[k]?.getD 0 = y at *
 generalize B ^ k = P at *
 have := congrArg (P * ·) h
 grind

theorem times_step {o : List Nat} {V x y i j c : Nat} (hk : i + j < o.length) (b : List Nat) (hy : b[j]?.getD 0 = y)
  (hI : val o + B ^ (i + j) * c = V + B ^ i * (x * val (b.take j))) :
  val (o.set (i + j) ((x * y + o[i + j]?.getD 0 + c) % B)) + B ^ (i + (j + 1)) * ((x * y + o[i + j]?.getD 0 + c) / B) = V + B ^ i * (x * val (b.take (j + 1))) := by
 have hs := val_set hk ((x * y + o[i + j]?.getD 0 + c) % B)
 rw [val_take_succ_getD, hy]
 have hg : o[i + j]?.getD 0 = o[i + j] := by simp [hk]
 rw [hg] at hs ⊢
 generalize o[i + j] = z at *
 have h := Nat.div_add_mod (x * y + z + c) B
 generalize (x * y + z + c) / B = q at *
 generalize (x * y + z + c) % B = r at *
 generalize val (o.set (i + j) r) = W at *
 generalize val (b.take j) = Y at *
 have e : B ^ (i + (j + 1)) * q = B ^ (i + j) * (B * q) := by rw [← Nat.add_assoc, Nat.pow_succ, Nat.mul_assoc]
 have e3 : B ^ i * (x * (Y + B ^ j * y)) = B ^ i * (x * Y) + B ^ (i + j) * (x * y) := by
  rw [Nat.pow_add, Nat.mul_add, Nat.mul_add]
  congr 1
  ac_rfl
 have e4 : B ^ (i + j) * (B * q) + B ^ (i + j) * r = B ^ (i + j) * (x * y) + B ^ (i + j) * z + B ^ (i + j) * c := by
  rw [← Nat.mul_add, h, Nat.mul_add, Nat.mul_add]
 rw [e, e3]
 generalize B ^ (i + j) * (B * q) = t1 at *
 generalize B ^ (i + j) * r = t2 at *
 generalize B ^ (i + j) * (x * y) = t3 at *
 generalize B ^ (i + j) * z = t4 at *
 generalize B ^ (i + j) * c = t5 at *
 omega
theorem times_bound {x y z c : Nat} (hx : x < B) (hy : y < B) (hz : z < B) (hc : c < B) : x * y + z + c < B * B := by
 have h1 : x * y ≤ (B - 1) * (B - 1) := Nat.mul_le_mul (by omega) (by omega)
 have h2 : (B - 1) * (B - 1) + (B - 1) + (B - 1) < B * B := by simp only [B_eq]; omega
 omega
theorem div_lt_B {t : Nat} (h : t < B * B) : t / B < B := Nat.div_lt_of_lt_mul h

theorem short_step {x d r : Nat} (X Q : Nat) (h : X = Q * d + r) : x + B * X = ((r * B + x) / d + B * Q) * d + (r * B + x) % d := by
 have h1 := Nat.div_add_mod (r * B + x) d
 have e : B * X = B * Q * d + r * B := by rw [h, Nat.mul_add, Nat.mul_assoc, Nat.mul_comm B r]
 rw [Nat.add_mul, Nat.mul_comm _ d, e]
 generalize B * Q * d = t at *
 generalize d * ((r * B + x) / d) = u at *
 generalize r * B = z at *
 omega
theorem short_lt {x d r : Nat} (hx : x < B) (hr : r < d) : (r * B + x) / d < B := by
 apply Nat.div_lt_of_lt_mul
 have : (r + 1) * B ≤ d * B := Nat.mul_le_mul_right B hr
 rw [Nat.add_mul] at this; omega
end Dg
/- Plain facts on the division of lists of digits: the guess at a digit of the quotient, its correction, the subtraction of a multiple. No condition. -/
namespace Dg
theorem mulsub_step {u v o : List Nat} {g k c c' b b' d : Nat} (hk : k < o.length)
  (hI : val (o.take k) + g * val (v.take k) = val (u.take k) + B ^ k * (c + b))
  (ht : g * v[k]?.getD 0 + c = (g * v[k]?.getD 0 + c) % B + B * c')
  (h : d + (g * v[k]?.getD 0 + c) % B + b = u[k]?.getD 0 + B * b') :
  val ((o.set k d).take (k + 1)) + g * val (v.take (k + 1)) = val (u.take (k + 1)) + B ^ (k + 1) * (c' + b') := by
 rw [val_take_set_succ hk, val_take_succ_getD, val_take_succ_getD]
 generalize (g * v[k]?.getD 0 + c) % B = lo at *
 have e : g * (val (v.take k) + B ^ k * v[k]?.getD 0) = g * val (v.take k) + B ^ k * (g * v[k]?.getD 0) := by
  rw [Nat.mul_add]; congr 1; ac_rfl
 have e2 : B ^ (k + 1) * (c' + b') = B ^ k * (B * c') + B ^ k * (B * b') := by
  rw [Nat.pow_succ, Nat.mul_add, Nat.mul_assoc, Nat.mul_assoc]
 have h3 : B ^ k * (g * v[k]?.getD 0) + B ^ k * c = B ^ k * lo + B ^ k * (B * c') := by rw [← Nat.mul_add, ht, Nat.mul_add]
 have h4 : B ^ k * d + B ^ k * lo + B ^ k * b = B ^ k * u[k]?.getD 0 + B ^ k * (B * b') := by rw [← Nat.mul_add, ← Nat.mul_add, h, Nat.mul_add]
 rw [e, e2]
 rw [Nat.mul_add] at hI
 generalize B ^ k * (g * v[k]?.getD 0) = t1 at *
 generalize B ^ k * (B * c') = t2 at *
 generalize B ^ k * (B * b') = t3 at *
 generalize B ^ k * d = t4 at *
 generalize B ^ k * lo = t5 at *
 generalize B ^ k * u[k]?.getD 0 = t6 at *
 generalize B ^ k * c = t7 at *
 generalize B ^ k * b = t8 at *
 omega

structure Ends (U V P top u0 v1 v2 u' v' : Nat) : Prop where
 hU : U = (top * B + u0) * P + u'
 hV : V = (v1 * B + v2) * P + v'
 hu : u' < P
 hv : v' < P
 hu0 : u0 < B
 hv2 : v2 < B
 hv1 : v1 < B
 norm : B ≤ 2 * v1

theorem guess_down {U V P top u0 v1 v2 u' v' g rest : Nat} (e : Ends U V P top u0 v1 v2 u' v') (hg : g * v1 + rest = top) (hc : rest * B + u0 < g * v2) : U < g * V := by
 have h1 : top * B + u0 + 1 ≤ g * (v1 * B + v2) := by
  have e1 : g * (v1 * B + v2) = g * v1 * B + g * v2 := by rw [Nat.mul_add, Nat.mul_assoc]
  have e2 : top * B = g * v1 * B + rest * B := by rw [← hg, Nat.add_mul]
  omega
 have h2 : (top * B + u0 + 1) * P ≤ g * (v1 * B + v2) * P := Nat.mul_le_mul_right P h1
 have h3 : g * V = g * (v1 * B + v2) * P + g * v' := by rw [e.hV, Nat.mul_add, Nat.mul_assoc]
 have h4 := e.hU
 have h5 := e.hu
 rw [Nat.add_mul, Nat.one_mul] at h2
 omega

theorem guess_stop {U V P top u0 v1 v2 u' v' g rest : Nat} (e : Ends U V P top u0 v1 v2 u' v') (hg : g * v1 + rest = top) (hc : g * v2 ≤ rest * B + u0) (hgB : g < B) (hg1 : 0 < g) :
  (g - 1) * V ≤ U := by
 have h1 : g * (v1 * B + v2) ≤ top * B + u0 := by
  have e1 : g * (v1 * B + v2) = g * v1 * B + g * v2 := by rw [Nat.mul_add, Nat.mul_assoc]
  have e2 : top * B = g * v1 * B + rest * B := by rw [← hg, Nat.add_mul]
  omega
 have h2 : g * (v1 * B + v2) * P ≤ (top * B + u0) * P := Nat.mul_le_mul_right P h1
 have hU := e.hU
 have hV : V ≤ (v1 * B + v2 + 1) * P := by rw [e.hV, Nat.add_mul (_ + _), Nat.one_mul]; have := e.hv; omega
 have h3 : (g - 1) * V ≤ (g - 1) * ((v1 * B + v2 + 1) * P) := Nat.mul_le_mul_left _ hV
 have h4 : (g - 1) * (v1 * B + v2 + 1) ≤ g * (v1 * B + v2) := by
  obtain ⟨k, rfl⟩ : ∃ k, g = k + 1 := ⟨g - 1, by omega⟩
  rw [Nat.add_sub_cancel, Nat.add_mul, Nat.mul_add, Nat.mul_one, Nat.one_mul]
  have : B * 1 ≤ v1 * B := by
   rw [Nat.mul_comm v1]
   refine Nat.mul_le_mul_left B ?_
   have := e.norm
   have hB : 2 ≤ B := by decide
   omega
  omega
 have h5 := Nat.mul_le_mul_right P h4
 rw [Nat.mul_assoc] at h5
 omega

theorem guess_start {U V P top u0 v1 v2 u' v' : Nat} (e : Ends U V P top u0 v1 v2 u' v') (hUV : U < V * B) : U < (top / v1 + 1) * V ∧ top / v1 ≤ B + 1 ∧ top / v1 * v1 + top % v1 = top ∧ top % v1 < v1 := by
 have hv1 : 0 < v1 := by have := e.norm; have := B_pos; omega
 have hm := Nat.div_add_mod top v1
 have hl := Nat.mod_lt top hv1
 rw [Nat.mul_comm] at hm
 refine ⟨?_, ?_, hm, hl⟩
 ·have h1 : top < (top / v1 + 1) * v1 := by rw [Nat.add_mul, Nat.one_mul]; omega
  have h2 : (top + 1) * B ≤ (top / v1 + 1) * v1 * B := Nat.mul_le_mul_right B h1
  have h3 : (top * B + u0 + 1) * P ≤ (top / v1 + 1) * v1 * B * P := Nat.mul_le_mul_right P (by rw [Nat.add_mul, Nat.one_mul] at h2; have := e.hu0; omega)
  have h4 : (top / v1 + 1) * v1 * B * P ≤ (top / v1 + 1) * V := by
   rw [Nat.mul_assoc, Nat.mul_assoc]
   refine Nat.mul_le_mul_left _ ?_
   rw [e.hV, ← Nat.mul_assoc, Nat.add_mul (v1 * B)]
   omega
  have hU := e.hU
  have := e.hu
  rw [Nat.add_mul (_ + _), Nat.one_mul] at h3
  omega
 ·apply Nat.le_of_lt_succ
  apply Nat.div_lt_of_lt_mul
  -- top * B * P <= U < V * B <= (v1 * B + v2 + 1) * P * B
  have h1 : top * B * P ≤ U := by rw [e.hU, Nat.add_mul (top * B)]; omega
  have hV : V < (v1 * B + v2 + 1) * P := by rw [e.hV, Nat.add_mul (_ + _), Nat.one_mul]; have := e.hv; omega
  have h2 : V * B ≤ (v1 * B + v2 + 1) * P * B := Nat.mul_le_mul_right B (Nat.le_of_lt hV)
  have h3 : top * (B * P) < (v1 * B + v2 + 1) * (B * P) := by
   have e1 : top * (B * P) = top * B * P := by rw [Nat.mul_assoc]
   have e2 : (v1 * B + v2 + 1) * (B * P) = (v1 * B + v2 + 1) * P * B := by ac_rfl
   omega
  have h4 : top < v1 * B + v2 + 1 := Nat.lt_of_mul_lt_mul_right h3
  have := e.hv2
  have := e.norm
  have e5 : v1 * (B + 1 + 1) = v1 * B + 2 * v1 := by rw [Nat.mul_add, Nat.mul_add]; omega
  show top < v1 * (B + 1 + 1)
  omega

theorem guess_right {U V W g M : Nat} (h : W + g * V = U) (hU : U < (g + 1) * V) : U / V = g ∧ U % V = W := by
 have hV : W < V := by rw [Nat.add_mul, Nat.one_mul] at hU; omega
 have := M
 subst h
 rw [Nat.add_mul_div_right _ _ (by omega), Nat.div_eq_of_lt hV, Nat.add_mul_mod_self_right, Nat.mod_eq_of_lt hV]
 simp
end Dg
/- Plain facts on lists of digits that are moved by binary places, and on their order. No condition. -/
namespace Dg
theorem pow_dvd_B {s : Nat} (hs : s ≤ 32) : ∃ m, B = 2 ^ s * m := by
 refine ⟨2 ^ (32 - s), ?_⟩
 rw [← Nat.pow_add, show s + (32 - s) = 32 from by omega]; rfl
theorem low_dvd {s x : Nat} (hs : s ≤ 32) : x * 2 ^ s % B = 2 ^ s * (x * 2 ^ s % B / 2 ^ s) := by
 obtain ⟨m, hm⟩ := pow_dvd_B hs
 rw [Nat.mul_div_cancel']
 rw [hm, Nat.mul_comm x, Nat.mul_mod_mul_left]
 exact Nat.dvd_mul_right _ _
theorem or_low {s x h : Nat} (hs : s ≤ 32) (hh : h < 2 ^ s) : h ||| (x * 2 ^ s % B) = h + x * 2 ^ s % B := by
 rw [low_dvd hs, Nat.or_comm, Nat.add_comm, Nat.two_pow_add_eq_or_of_lt hh]
theorem or_high {x h : Nat} (hh : x < B) : x ||| (h * B) = x + h * B := by
 have := Nat.two_pow_add_eq_or_of_lt (i := 32) (b := x) hh h
 rw [show (2 ^ 32 : Nat) = B from rfl] at this
 rw [Nat.or_comm, Nat.add_comm, Nat.mul_comm, this]
theorem high_lt {s x : Nat} (hx : x < B) : x * 2 ^ s / B < 2 ^ s := by
 apply Nat.div_lt_of_lt_mul
 exact Nat.mul_lt_mul_of_pos_right hx (Nat.pow_pos (by omega))
theorem pow_le_half {s : Nat} (hs : s ≤ 31) : 2 ^ s ≤ 2147483648 := by
 have := Nat.pow_le_pow_right (n := 2) (by omega) hs; exact this

theorem shifted_step {a o : List Nat} {i s : Nat} (hs : s ≤ 31) (hi : i + 1 < o.length) (hx : a[i]?.getD 0 < B)
  (hI : val (o.take (i + 1)) = val (a.take i) * 2 ^ s) (ho : o[i]?.getD 0 < 2 ^ s) :
  val (((o.set i (o[i]?.getD 0 ||| (a[i]?.getD 0 * 2 ^ s % B))).set (i + 1) (a[i]?.getD 0 * 2 ^ s / B)).take (i + 1 + 1)) = val (a.take (i + 1)) * 2 ^ s ∧
  a[i]?.getD 0 * 2 ^ s / B < 2 ^ s ∧ (o[i]?.getD 0 ||| (a[i]?.getD 0 * 2 ^ s % B)) < B := by
 rw [val_take_set_succ (by simpa using hi), val_take_set_succ (by omega), val_take_succ_getD, or_low (by omega) ho]
 rw [val_take_succ_getD] at hI
 generalize a[i]?.getD 0 = x at *
 generalize o[i]?.getD 0 = z at *
 have hdm := Nat.div_add_mod (x * 2 ^ s) B
 have hlow := low_dvd (s := s) (x := x) (by omega)
 obtain ⟨m, hm⟩ := pow_dvd_B (s := s) (by omega)
 have hml : x * 2 ^ s % B < B := Nat.mod_lt _ B_pos
 refine ⟨?_, high_lt hx, ?_⟩
 ·have e : B ^ (i + 1) * (x * 2 ^ s / B) = B ^ i * (B * (x * 2 ^ s / B)) := by rw [Nat.pow_succ, Nat.mul_assoc]
  have e2 : (val (a.take i) + B ^ i * x) * 2 ^ s = val (a.take i) * 2 ^ s + B ^ i * (x * 2 ^ s) := by rw [Nat.add_mul, Nat.mul_assoc]
  have e3 : B ^ i * (x * 2 ^ s) = B ^ i * (B * (x * 2 ^ s / B)) + B ^ i * (x * 2 ^ s % B) := by rw [← Nat.mul_add, hdm]
  rw [e, e2, e3, Nat.mul_add (B ^ i) z]
  generalize B ^ i * (B * (x * 2 ^ s / B)) = t1 at *
  generalize B ^ i * (x * 2 ^ s % B) = t2 at *
  omega
 ·generalize x * 2 ^ s % B = lo at *
  have h1 : lo / 2 ^ s < m := by
   apply Nat.div_lt_of_lt_mul; rw [← hm]; exact hml
  have h2 : 2 ^ s * (lo / 2 ^ s + 1) ≤ 2 ^ s * m := Nat.mul_le_mul_left _ h1
  rw [Nat.mul_add, ← hlow, ← hm, Nat.mul_one] at h2
  generalize 2 ^ s = P at *
  omega

def unsh (s : Nat) : List Nat → List Nat
 | [] => []
 | x :: l => (x + (l[0]?.getD 0) * B) / 2 ^ s % B :: unsh s l
theorem unsh_length (s : Nat) (l : List Nat) : (unsh s l).length = l.length := by
 induction l with
 | nil => rfl
 | cons x l ih => simp [unsh, ih]
theorem unsh_get (s : Nat) (l : List Nat) (i : Nat) (h : i < l.length) : (unsh s l)[i]? = some ((l[i] + (l[i + 1]?.getD 0) * B) / 2 ^ s % B) := by
 induction l generalizing i with
 | nil => simp at h
 | cons x l ih =>
  cases i with
  | zero => simp only [unsh, List.getElem?_cons_zero, List.getElem_cons_zero, List.getElem?_cons_succ, Nat.zero_add]
  | succ i => simp only [unsh, List.getElem?_cons_succ, List.getElem_cons_succ]; exact ih i (by simpa using h)
theorem val_unsh {s : Nat} (hs : s ≤ 31) {l : List Nat} (h : ok l) : val (unsh s l) = val l / 2 ^ s := by
 obtain ⟨m, hm⟩ := pow_dvd_B (s := s) (by omega)
 have hP : 0 < 2 ^ s := Nat.pow_pos (by omega)
 induction l with
 | nil => simp [unsh, val]
 | cons x l ih =>
  rw [ok_cons] at h
  simp only [unsh, val, ih h.2]
  -- val l = hd + B * r
  obtain ⟨hd, r, hv, hhd, hlt⟩ : ∃ hd r, val l = hd + B * r ∧ l[0]?.getD 0 = hd ∧ hd < B := by
   cases l with
   | nil => exact ⟨0, 0, by simp [val], rfl, B_pos⟩
   | cons y k => exact ⟨y, val k, rfl, rfl, (ok_cons.1 h.2).1⟩
  rw [hhd, hv]
  have h1 := h.1
  generalize hPe : 2 ^ s = P at *
  -- hd = P * a + b
  have hdm := Nat.div_add_mod hd P
  have hb := Nat.mod_lt hd hP
  generalize hd / P = a at *
  generalize hd % P = b at *
  subst hdm
  have e1 : x + (P * a + b) * B = (x + b * B) + P * (a * B) := by rw [Nat.add_mul, Nat.mul_assoc]; omega
  have e2 : P * a + b + B * r = b + P * (a + m * r) := by rw [Nat.mul_add, ← Nat.mul_assoc, ← hm]; omega
  have e3 : x + B * (b + P * (a + m * r)) = (x + b * B) + P * (B * (a + m * r)) := by
   rw [Nat.mul_add B b, Nat.mul_left_comm B P, Nat.mul_comm b B, Nat.add_assoc]
  rw [e1, e2, e3, Nat.add_mul_div_left _ _ hP, Nat.add_mul_div_left _ _ hP, Nat.add_mul_div_left _ _ hP, Nat.div_eq_of_lt hb, Nat.add_mul_mod_self_right]
  clear e1 e2 e3
  have h4 : (x + b * B) / P < B := by
   apply Nat.div_lt_of_lt_mul
   have : (b + 1) * B ≤ P * B := Nat.mul_le_mul_right B hb
   rw [Nat.add_mul] at this
   omega
  rw [Nat.mod_eq_of_lt h4, Nat.zero_add]

theorem lt_of_top {a b : List Nat} {i : Nat} (ha : ok a) (hab : a.length = b.length) (hi : i < a.length) (hd : a.drop (i + 1) = b.drop (i + 1)) (h : a[i] < b[i]'(by omega)) : val a < val b := by
 rw [val_take_drop a (k := i + 1) (by omega), val_take_drop b (k := i + 1) (by omega), hd, val_take_succ hi, val_take_succ (by omega)]
 have h1 := val_lt (ok_take ha i)
 rw [List.length_take, Nat.min_eq_left (by omega)] at h1
 have h2 : B ^ i * (a[i] + 1) ≤ B ^ i * (b[i]'(by omega)) := Nat.mul_le_mul_left _ h
 rw [Nat.mul_add] at h2
 omega
end Dg
/- Plain facts on one digit of a quotient, in the form in which the walk of digit wants them. No condition. -/
namespace Dg
theorem getD_eq {l : List Nat} {i : Nat} (h : i < l.length) : l[i]?.getD 0 = l[i] := by rw [List.getElem?_eq_getElem h]; rfl
theorem take_getD (l : List Nat) (k : Nat) : val (l.take (k + 1)) = val (l.take k) + B ^ k * l[k]?.getD 0 := val_take_succ_getD l k
theorem ends_of {O v : List Nat} {m : Nat} (hv : v.length = m + 2) (oO : ok O) (ov : ok v) (norm : B ≤ 2 * v[m + 1]?.getD 0) :
  Ends (val (O.take (m + 3))) (val v) (B ^ m) (O[m + 2]?.getD 0 * B + O[m + 1]?.getD 0) (O[m]?.getD 0) (v[m + 1]?.getD 0) (v[m]?.getD 0) (val (O.take m)) (val (v.take m)) := by
 refine ⟨?_, ?_, ?_, ?_, ok_getD oO m, ok_getD ov m, ok_getD ov (m + 1), norm⟩
 ·rw [take_getD, take_getD, take_getD, Nat.pow_succ B (m + 1), Nat.pow_succ B m]
  generalize B ^ m = P
  rw [Nat.add_mul (_ * _), Nat.add_mul (_ * _), Nat.add_mul (_ * _)]
  have e1 : P * B * B * O[m + 2]?.getD 0 = O[m + 2]?.getD 0 * B * B * P := by ac_rfl
  have e2 : P * B * O[m + 1]?.getD 0 = O[m + 1]?.getD 0 * B * P := by ac_rfl
  have e3 : P * O[m]?.getD 0 = O[m]?.getD 0 * P := by ac_rfl
  rw [e1, e2, e3]; omega
 ·have h : val v = val (v.take (m + 1 + 1)) := by rw [List.take_of_length_le (by omega)]
  rw [h, take_getD, take_getD, Nat.pow_succ]
  generalize B ^ m = P
  rw [Nat.add_mul]
  have e2 : P * B * v[m + 1]?.getD 0 = v[m + 1]?.getD 0 * B * P := by ac_rfl
  have e3 : P * v[m]?.getD 0 = v[m]?.getD 0 * P := by ac_rfl
  rw [e2, e3]; omega
 ·have := val_lt (ok_take oO m)
  rw [List.length_take] at this
  exact Nat.lt_of_lt_of_le this (Nat.pow_le_pow_right B_pos (by omega))
 ·have := val_lt (ok_take ov m)
  rw [List.length_take] at this
  exact Nat.lt_of_lt_of_le this (Nat.pow_le_pow_right B_pos (by omega))
def Guess (U V top v1 v2 g r : Nat) : Prop := g * v1 + r = top ∧ U < (g + 1) * V ∧ g ≤ B + 1 ∧ r < B ∧ top ≤ v1 * B + v2
theorem guess_init {U V P top u0 v1 v2 u' v' : Nat} (e : Ends U V P top u0 v1 v2 u' v') (h : U < V * B) : Guess U V top v1 v2 (top / v1) (top % v1) := by
 obtain ⟨h1, h2, h3, h4⟩ := guess_start e h
 refine ⟨h3, h1, h2, Nat.lt_trans h4 e.hv1, ?_⟩
 have hh1 : top * B * P ≤ U := by rw [e.hU, Nat.add_mul (top * B)]; omega
 have hV : V < (v1 * B + v2 + 1) * P := by rw [e.hV, Nat.add_mul (_ + _), Nat.one_mul]; have := e.hv; omega
 have hh2 : V * B ≤ (v1 * B + v2 + 1) * P * B := Nat.mul_le_mul_right B (Nat.le_of_lt hV)
 have hh3 : top * (B * P) < (v1 * B + v2 + 1) * (B * P) := by
  have e1 : top * (B * P) = top * B * P := by rw [Nat.mul_assoc]
  have e2 : (v1 * B + v2 + 1) * (B * P) = (v1 * B + v2 + 1) * P * B := by ac_rfl
  omega
 have := Nat.lt_of_mul_lt_mul_right hh3
 omega
theorem guess_round {U V P top u0 v1 v2 u' v' g r : Nat} (e : Ends U V P top u0 v1 v2 u' v') (h : U < V * B) (hg : Guess U V top v1 v2 g r) (hc : B ≤ g ∨ r * B + u0 < g * v2) :
  1 ≤ g ∧ (g - 1) * v1 + (r + v1) = top ∧ U < (g - 1 + 1) * V ∧ (B ≤ r + v1 → g - 1 < B) := by
 obtain ⟨h1, h2, h3, h4, h5⟩ := hg
 have hB := B_pos
 have hg1 : 1 ≤ g := by
  rcases hc with hc | hc
  ·omega
  ·rcases Nat.eq_zero_or_pos g with h0 | h0
   ·subst h0; omega
   ·exact h0
 obtain ⟨k, rfl⟩ : ∃ k, g = k + 1 := ⟨g - 1, by omega⟩
 rw [Nat.add_sub_cancel]
 rw [Nat.add_mul, Nat.one_mul] at h1
 refine ⟨hg1, by omega, ?_, ?_⟩
 ·rcases hc with hc | hc
  ·have := Nat.mul_le_mul_left V hc
   rw [Nat.mul_comm V (k + 1)] at this
   omega
  ·exact guess_down e (by rw [Nat.add_mul, Nat.one_mul]; exact h1) hc
 ·intro hr
  rcases Nat.lt_or_ge k B with hk | hk
  ·exact hk
  ·exfalso
   have hk2 : k = B := by omega
   subst hk2
   rw [Nat.mul_comm] at h1
   have := e.hv2
   omega
def Guessed (U V g : Nat) : Prop := g < B ∧ U < (g + 1) * V ∧ (0 < g → (g - 1) * V ≤ U)
theorem guess_exit {U V P top u0 v1 v2 u' v' g r : Nat} (e : Ends U V P top u0 v1 v2 u' v') (hg : Guess U V top v1 v2 g r) (hgB : g < B) (hc : g * v2 ≤ r * B + u0) : Guessed U V g :=
 ⟨hgB, hg.2.1, fun h0 => guess_stop e hg.1 hc hgB h0⟩
theorem guess_break {U V P top u0 v1 v2 u' v' g r : Nat} (e : Ends U V P top u0 v1 v2 u' v') (h1 : g * v1 + r = top) (h2 : U < (g + 1) * V) (hgB : g < B) (hr : B ≤ r) : Guessed U V g := by
 refine ⟨hgB, h2, fun h0 => guess_stop e h1 ?_ hgB h0⟩
 have h3 : g * v2 ≤ B * B := Nat.mul_le_mul (by omega) (Nat.le_of_lt e.hv2)
 have h4 : B * B ≤ r * B := Nat.mul_le_mul_right B hr
 omega
theorem sub_right {U V g W M b : Nat} (hg : Guessed U V g) (h : W + g * V = U + M * b) (hb : b = 0) : U / V = g ∧ U % V = W := by
 subst hb
 exact guess_right (M := 0) (by omega) hg.2.1
theorem sub_great {U V g W M b : Nat} (hg : Guessed U V g) (h : W + g * V = U + M * b) (hW : W < M) (hb : b = 1) : 0 < g ∧ U / V = g - 1 ∧ U % V + M = W + V := by
 subst hb
 have hgp : 0 < g := by
  rcases Nat.eq_zero_or_pos g with h0 | h0
  ·subst h0; omega
  ·exact h0
 have h2 := hg.2.2 hgp
 obtain ⟨k, rfl⟩ : ∃ k, g = k + 1 := ⟨g - 1, by omega⟩
 rw [Nat.add_sub_cancel] at h2 ⊢
 rw [Nat.add_mul, Nat.one_mul, Nat.mul_one] at h
 have hU : U < (k + 1) * V := by rw [Nat.add_mul, Nat.one_mul]; omega
 have h3 := guess_right (W := U - k * V) (M := 0) (by omega) hU
 refine ⟨hgp, h3.1, ?_⟩
 rw [h3.2]; omega
end Dg
/- Plain facts on the division of digits by digits, in the form in which the walk of divide wants them. No condition. -/
namespace Dg
theorem length_le_of_val {l : List Nat} {M : Nat} (h : trimmed l) (hv : val l < B ^ M) : l.length ≤ M := by
 rcases Nat.lt_or_ge M l.length with h1 | h1
 ·exfalso
  have h2 := pow_le_val h (by intro e; subst e; simp at h1)
  have h3 : B ^ M ≤ B ^ (l.length - 1) := Nat.pow_le_pow_right B_pos (by omega)
  omega
 ·exact h1
theorem val_drop_eq_zero {l : List Nat} {M : Nat} (hv : val l < B ^ M) : val (l.drop M) = 0 := by
 by_cases h : M ≤ l.length
 ·have := val_take_drop l h
  rcases Nat.eq_zero_or_pos (val (l.drop M)) with h0 | h0
  ·exact h0
  ·have h2 : B ^ M * 1 ≤ B ^ M * val (l.drop M) := Nat.mul_le_mul_left _ h0
   omega
 ·rw [List.drop_of_length_le (by omega)]; rfl
theorem val_take_of_lt {l : List Nat} {M : Nat} (hv : val l < B ^ M) : val (l.take M) = val l := by
 by_cases h : M ≤ l.length
 ·have := val_take_drop l h
  rw [val_drop_eq_zero hv] at this; omega
 ·rw [List.take_of_length_le (by omega)]
theorem moved {b vs : List Nat} {m s : Nat} (hb : b.length = m + 2) (ob : ok b) (hs1 : B ≤ 2 * (b[m + 1]?.getD 0 * 2 ^ s)) (hs2 : b[m + 1]?.getD 0 * 2 ^ s < B) (ov : ok vs) (hv : val vs = val b * 2 ^ s) :
  (trim vs).length = m + 2 ∧ B ≤ 2 * (trim vs)[m + 1]?.getD 0 ∧ val vs < B ^ (m + 2) ∧ B ^ (m + 1) * 2 ^ s ≤ val vs := by
 have hp : 0 < 2 ^ s := Nat.pow_pos (by omega)
 have e : val b = val (b.take (m + 1)) + B ^ (m + 1) * b[m + 1]?.getD 0 := by
  rw [← val_take_succ_getD, List.take_of_length_le (by omega)]
 have hlo := val_lt (ok_take ob (m + 1))
 rw [List.length_take, Nat.min_eq_left (by omega)] at hlo
 generalize b[m + 1]?.getD 0 = t at *
 -- the leading digit is at least 1
 have ht : 0 < t := by
  rcases Nat.eq_zero_or_pos t with h | h
  ·subst h; have := B_pos; omega
  ·exact h
 have hlow : B ^ (m + 1) * (t * 2 ^ s) ≤ val vs := by
  rw [hv, e, Nat.add_mul, Nat.mul_assoc]; omega
 have hlt : val vs < B ^ (m + 2) := by
  have h1 : val b < B ^ (m + 1) * (t + 1) := by rw [Nat.mul_add]; omega
  have h2 : val vs < B ^ (m + 1) * (t + 1) * 2 ^ s := by rw [hv]; exact Nat.mul_lt_mul_of_pos_right h1 hp
  have h3 : (t + 1) * 2 ^ s ≤ B := by
   -- 2 ^ s divides B and t * 2 ^ s < B
   rcases Nat.lt_or_ge B ((t + 1) * 2 ^ s) with h | h
   ·exfalso
    have hs : s ≤ 32 := by
     rcases Nat.lt_or_ge 32 s with h6 | h6
     ·exfalso
      have : 2 ^ 32 ≤ 2 ^ s := Nat.pow_le_pow_right (by omega) (by omega)
      have h7 : 1 * 2 ^ s ≤ t * 2 ^ s := Nat.mul_le_mul_right _ ht
      have h8 : (2 : Nat) ^ 32 = B := rfl
      omega
     ·exact h6
    obtain ⟨q, hq⟩ := pow_dvd_B hs
    rw [hq, Nat.mul_comm (2 ^ s)] at h hs2
    have h9 := Nat.lt_of_mul_lt_mul_right h
    have h10 := Nat.lt_of_mul_lt_mul_right hs2
    omega
   ·exact h
  have h4 : B ^ (m + 1) * (t + 1) * 2 ^ s ≤ B ^ (m + 1) * B := by rw [Nat.mul_assoc]; exact Nat.mul_le_mul_left _ h3
  rw [Nat.pow_succ B (m + 1)]
  omega
 have h1 : (trim vs).length ≤ m + 2 := length_le_of_val (trim_trimmed vs) (by rw [val_trim]; exact hlt)
 have hlow2 : B ^ (m + 1) * 2 ^ s ≤ val vs := by
  refine Nat.le_trans (Nat.mul_le_mul_left _ ?_) hlow
  have : 1 * 2 ^ s ≤ t * 2 ^ s := Nat.mul_le_mul_right _ ht
  omega
 have h2 : m + 1 < (trim vs).length := by
  rcases Nat.lt_or_ge (m + 1) (trim vs).length with h | h
  ·exact h
  ·exfalso
   have h3 := val_lt (ok_trim ov)
   rw [val_trim] at h3
   have h4 : B ^ (trim vs).length ≤ B ^ (m + 1) := Nat.pow_le_pow_right B_pos h
   have h5 : B ^ (m + 1) * 1 ≤ B ^ (m + 1) * 2 ^ s := Nat.mul_le_mul_left _ hp
   omega
 refine ⟨by omega, ?_, hlt, hlow2⟩
 have e2 : val (trim vs) = val ((trim vs).take (m + 1)) + B ^ (m + 1) * (trim vs)[m + 1]?.getD 0 := by
  rw [← val_take_succ_getD, List.take_of_length_le (by omega)]
 have hlo2 := val_lt (ok_take (ok_trim ov) (m + 1))
 rw [List.length_take, Nat.min_eq_left (by omega)] at hlo2
 rw [val_trim] at e2
 generalize (trim vs)[m + 1]?.getD 0 = r at *
 -- B ^ (m+1) * (t * 2^s) ≤ val vs < B ^ (m+1) * (r + 1)
 have h6 : B ^ (m + 1) * (t * 2 ^ s) < B ^ (m + 1) * (r + 1) := by rw [Nat.mul_add]; omega
 have h7 := Nat.lt_of_mul_lt_mul_left h6
 omega
def Made (X V k : Nat) (qs us : List Nat) : Prop := X = val (qs.drop k) * B ^ k * V + val us ∧ val (us.drop k) < V
theorem made_start {a us qs : List Nat} {n m s V : Nat} (ha : a.length = n) (oa : ok a) (hn : m + 2 ≤ n) (hus : us.length = n + 1) (hv : val us = val a * 2 ^ s) (hV : B ^ (m + 1) * 2 ^ s ≤ V) (hq : qs.length = n + 1 - (m + 2)) :
  Made (val a * 2 ^ s) V (n + 1 - (m + 2)) qs us := by
 refine ⟨by rw [List.drop_of_length_le (by omega), ← hv]; simp [val], ?_⟩
 have h1 := val_lt oa
 rw [ha] at h1
 have h2 := val_take_drop us (k := n + 1 - (m + 2)) (by omega)
 rw [hv] at h2
 have hp : 0 < 2 ^ s := Nat.pow_pos (by omega)
 have h3 : val a * 2 ^ s < B ^ n * 2 ^ s := Nat.mul_lt_mul_of_pos_right h1 hp
 have e : B ^ n = B ^ (n + 1 - (m + 2)) * B ^ (m + 1) := by rw [← Nat.pow_add]; congr 1; omega
 rw [e, Nat.mul_assoc] at h3
 have h4 : B ^ (n + 1 - (m + 2)) * val (us.drop (n + 1 - (m + 2))) < B ^ (n + 1 - (m + 2)) * (B ^ (m + 1) * 2 ^ s) := by omega
 have := Nat.lt_of_mul_lt_mul_left h4
 omega
theorem made_pre {X V k m : Nat} {qs us : List Nat} (hk : k < us.length) (ou : ok us) (hM : Made X V (k + 1) qs us) (hV : V < B ^ (m + 2)) :
  val ((us.drop k).take (m + 3)) < V * B ∧ val ((us.drop k).take (m + 3)) = val (us.drop k) := by
 have e : val (us.drop k) = us[k] + B * val (us.drop (k + 1)) := by rw [List.drop_eq_getElem_cons hk]; rfl
 have h1 := ok_get ou hk
 have h2 := hM.2
 have h3 : B * (val (us.drop (k + 1)) + 1) ≤ B * V := Nat.mul_le_mul_left _ h2
 rw [Nat.mul_add, Nat.mul_comm B V] at h3
 have h4 : val (us.drop k) < V * B := by omega
 have h5 : V * B < B ^ (m + 3) := by rw [Nat.pow_succ]; exact Nat.mul_lt_mul_of_pos_right hV B_pos
 have h6 := val_take_of_lt (l := us.drop k) (M := m + 3) (by omega)
 exact ⟨by omega, h6⟩
theorem above {us us' : List Nat} {k M : Nat} (hlen : us'.length = us.length) (hd : us'.drop (k + M) = us.drop (k + M)) (hp : val ((us.drop k).take M) = val (us.drop k)) :
  val (us'.drop k) = val ((us'.drop k).take M) := by
 by_cases hl : M ≤ (us.drop k).length
 ·have h1 := val_take_drop (us.drop k) (k := M) hl
  have h2 := val_take_drop (us'.drop k) (k := M) (by rw [List.length_drop] at hl ⊢; omega)
  rw [hp, List.drop_drop] at h1
  rw [List.drop_drop, hd] at h2
  have h0 : 0 < B ^ M := Nat.pow_pos B_pos
  rcases Nat.eq_zero_or_pos (val (us.drop (k + M))) with h | h
  ·rw [h] at h2; exact h2
  ·have := Nat.mul_pos h0 h; omega
 ·rw [List.take_of_length_le (by rw [List.length_drop] at hl ⊢; omega)]
theorem made_step {X V k m q : Nat} {qs us us' : List Nat} (hk : k < us.length) (hkq : k < qs.length) (hlen : us'.length = us.length) (hM : Made X V (k + 1) qs us) (hVp : 0 < V)
  (ht : us'.take k = us.take k) (hd : us'.drop (k + (m + 3)) = us.drop (k + (m + 3))) (hp : val ((us.drop k).take (m + 3)) = val (us.drop k))
  (hq : q = val ((us.drop k).take (m + 3)) / V) (hr : val ((us'.drop k).take (m + 3)) = val ((us.drop k).take (m + 3)) % V) :
  Made X V k (qs.set k q) us' := by
 have hval' := above hlen hd hp
 have hU := val_take_drop us (k := k) (by omega)
 have hU' := val_take_drop us' (k := k) (by omega)
 have hmod := Nat.div_add_mod (val (us.drop k)) V
 rw [hp] at hq hr
 rw [hr] at hval'
 have hlt := Nat.mod_lt (val (us.drop k)) hVp
 refine ⟨?_, by rw [hval']; exact hlt⟩
 have hkq' : k < (qs.set k q).length := by rw [List.length_set]; exact hkq
 have e1 : val ((qs.set k q).drop k) = q + B * val (qs.drop (k + 1)) := by
  rw [List.drop_eq_getElem_cons hkq', List.drop_set_of_lt (by omega)]; simp [val]
 have g1 := hM.1
 rw [hU, Nat.pow_succ] at g1
 have g2 : val us' = val (us.take k) + B ^ k * (val (us.drop k) % V) := by rw [hU', ht, hval']
 rw [g1, e1, g2, hq]
 clear g1 g2 e1 hU hU' hval' hd ht hp hr hM hq hkq' hlt
 generalize val (us.drop k) = U at *
 generalize val (qs.drop (k + 1)) = Q at *
 generalize val (us.take k) = T at *
 generalize U % V = r at *
 generalize U / V = q at *
 generalize B ^ k = P at *
 subst hmod
 rw [Nat.mul_add P, Nat.add_mul, Nat.add_mul]
 have e2 : Q * (P * B) * V = B * Q * P * V := by ac_rfl
 have e3 : P * (V * q) = q * P * V := by ac_rfl
 rw [e2, e3]
 generalize B * Q * P * V = t1
 generalize q * P * V = t2
 generalize P * r = t3
 omega
theorem made_end {x V y s : Nat} {qs us : List Nat} (hV : V = y * 2 ^ s) (hM : Made (x * 2 ^ s) V 0 qs us) : val qs = x / y ∧ val us / 2 ^ s = x % y := by
 obtain ⟨h1, h2⟩ := hM
 simp only [List.drop_zero, Nat.pow_zero, Nat.mul_one] at h1 h2
 have hp : 0 < 2 ^ s := Nat.pow_pos (by omega)
 subst hV
 -- the rest is a multiple of 2 ^ s
 have hy : 0 < y := by
  rcases Nat.eq_zero_or_pos y with h | h
  ·subst h; omega
  ·exact h
 have e : val us = (x - val qs * y) * 2 ^ s := by
  rw [Nat.sub_mul, Nat.mul_assoc]; omega
 have hle : val qs * y ≤ x := by
  have : val qs * y * 2 ^ s ≤ x * 2 ^ s := by rw [Nat.mul_assoc]; omega
  exact Nat.le_of_mul_le_mul_right this hp
 have hlt : x - val qs * y < y := by
  rw [e] at h2
  exact Nat.lt_of_mul_lt_mul_right h2
 have h3 := guess_right (U := x) (V := y) (W := x - val qs * y) (g := val qs) (M := 0) (by omega) (by rw [Nat.add_mul, Nat.one_mul]; omega)
 refine ⟨h3.1.symm, ?_⟩
 rw [e, Nat.mul_div_cancel _ hp, h3.2]
end Dg
