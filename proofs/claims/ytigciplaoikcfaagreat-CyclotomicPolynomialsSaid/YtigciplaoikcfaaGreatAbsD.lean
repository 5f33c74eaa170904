/- Abstract operations that leave the call's own blocks alone: loads, addresses, arithmetic, calls by contract. -/
import Derived.Test.YtigciplaoikcfaaGreatAbsC
namespace Go.Proofs.YtigciplaoikcfaaGreat
open Go.RowKit
def VRels (D : Nat → Prop) (w : World) (ρ : List Loc) : List V → List Value → Prop
  | [], [] => True
  | x :: xs, v :: vs => VRel D w ρ x v ∧ VRels D w ρ xs vs
  | _, _ => False
/-- A function that is entered when it is called. -/
def hasBody (P : Program) (f : FuncId) : Bool := match P.funcs[f]? with
  | some fn => fn.body.isSome && !(fn.name == "runtime.NumGoroutine")
  | none => false
/-- The contract of a function: called with what reads as args it hands back what reads as X, and old memory stands. r: where no closed block holds digits. -/
def FnOK (P : Program) (r : Bool) (f : FuncId) (args : List V) (X : V) : Prop :=
  hasBody P f = true ∧ ∀ (D : Nat → Prop) (w : World) (vs : List Value), (∀ b, D b → b < w.heap.size) → (r = true → ∀ (b o : Nat) (d : Int), D b → w.cell? ⟨b, o, none⟩ ≠ some (.int .u32 d)) → VRels D w [] args vs →
    Calls P f vs.toArray w fun e w' => ∃ v, e = .returned v ∧ VRel D w' [] X v ∧ Below w.heap.size w w'
theorem FnOK.weak {P : Program} {r : Bool} {f : FuncId} {args : List V} {X : V} (h : FnOK P false f args X) : FnOK P r f args X :=
  ⟨h.1, fun D w vs h1 _ h3 => h.2 D w vs h1 (fun e => by cases e) h3⟩
def V.clos : V → Bool
  | .c x => x.clos
  | .g l => l.all Cell.clos
  | _ => false
theorem CRels.clos {D : Nat → Prop} {w : World} {ρ ρ' : List Loc} : ∀ {l : List Cell} {vs : List Value}, CRels D w ρ l vs → l.all Cell.clos = true → CRels D w ρ' l vs
  | [], [], _, _ => trivial
  | _ :: _, _ :: _, h, hc => by
    simp only [List.all_cons, Bool.and_eq_true] at hc
    exact ⟨h.1.clos hc.1, CRels.clos h.2 hc.2⟩
  | [], _ :: _, h, _ => h.elim
  | _ :: _, [], h, _ => h.elim
theorem VRel.clos {D : Nat → Prop} {w : World} {ρ ρ' : List Loc} {x : V} {v : Value} (h : VRel D w ρ x v) (hc : x.clos = true) : VRel D w ρ' x v := by
  cases x with
  | c x => exact CRel.clos h hc
  | g l => obtain ⟨vs, h1, h2⟩ := h; exact ⟨vs, h1, h2.clos hc⟩
  | t2 a b => simp [V.clos] at hc
  | t3 a b d => simp [V.clos] at hc
  | t4 a b d e => simp [V.clos] at hc
/-- A slice of one's own that will not be written again reads as any other. -/
def St.closeC (bl : List Blk) : Cell → Cell
  | .gs k u => match bl[k]? with
    | some B => if B.st == 1 && B.u == u then .row B.sz B.n B.f else .gs k u
    | none => .gs k u
  | .sl k u sz o n => match bl[k]? with
    | some B => if B.st == 1 && (B.u == u && B.sz == sz) then .row sz n fun i j => B.f (o + i) j else .sl k u sz o n
    | none => .sl k u sz o n
  | .p k u sz i o => match bl[k]? with
    | some B => if B.st == 1 && (B.u == u && B.sz == sz) then .xp (sz - o) fun j => B.f i (o + j) else .p k u sz i o
    | none => .p k u sz i o
  | .cl F n f => .cl F n fun j => if j < n then St.closeC bl (f j) else .any
  | c => c
def St.close (bl : List Blk) : V → V
  | .c x => .c (St.closeC bl x)
  | .g l => .g (l.map (St.closeC bl))
  | x => x
theorem Sat.frozen {D0 : Nat → Prop} {w0 : Base} {w : World} {r : Bool} {ρ : List Loc} {bl : List Blk} (h : Sat D0 w0 r ρ bl w) {k : Nat} {l : Loc} {B : Blk} (h1 : ρ[k]? = some l) (h2 : bl[k]? = some B) (h3 : B.st = 1) {b : Nat} (h4 : l.b = some b) : ¬ Dof D0 ρ bl b := by
  rintro (hx | ⟨k', l', B', e1, e2, e3, e4⟩)
  · have e1 := h.d0 b hx
    rcases h.own h1 h2 (by omega) h4 with e2 | e2
    · omega
    · exact e1.2 e2
  · have := h.dist k k' l l' B B' b h1 e1 h2 e2 (by omega) (by omega) h4 e4
    subst this
    rw [h2] at e2; cases e2; omega
theorem loc_n {D0 : Nat → Prop} {w0 : Base} {w : World} {r : Bool} {ρ : List Loc} {bl : List Blk} (hs : Sat D0 w0 r ρ bl w) {k : Nat} {l : Loc} {B : Blk} (h1 : ρ[k]? = some l) (h2 : bl[k]? = some B) (h3 : B.st ≤ 1) : l.n = B.n := by
  rcases (hs.at_ k l B h1 h2 h3).2 with ⟨g1, _, g3⟩ | ⟨b, cap, cs, _, _, g3, _⟩
  · unfold Loc.v at g3; injection g3 with e1 e2 e3; omega
  · unfold Loc.v at g3; injection g3 with e1 e2 e3
theorem closeC_rel {D0 : Nat → Prop} {w0 : Base} {w : World} {r : Bool} {ρ : List Loc} {bl : List Blk} (h : Sat D0 w0 r ρ bl w) : ∀ {c : Cell} {v : Value} (_ : CRel (Dof D0 ρ bl) w ρ c v), CRel (Dof D0 ρ bl) w ρ (St.closeC bl c) v
  | .cl F n f, v, hc => by
    obtain ⟨caps, rfl, h1, h2⟩ := hc
    refine ⟨caps, rfl, h1, fun j hj => ?_⟩
    obtain ⟨u, hu, hr⟩ := h2 j hj
    exact ⟨u, hu, by show CRel _ _ _ (if j < n then St.closeC bl (f j) else .any) u; rw [if_pos hj]; exact closeC_rel h hr⟩
  | .p k u sz i o, v, hc => by
    have hc0 := hc
    obtain ⟨l, hl, hu, hv⟩ := hc
    simp only [St.closeC]
    split
    · rename_i B hB
      split
      · rename_i hst
        simp only [Bool.and_eq_true, beq_iff_eq] at hst
        have hln := loc_n h hl hB (by omega)
        obtain ⟨g0, g1⟩ := h.at_ k l B hl hB (by omega)
        obtain ⟨hi, b', e1, e2⟩ := hv (by omega)
        rcases g1 with ⟨g1, g2, _⟩ | ⟨b, cap, cs, g1, g2, g3, g4, g5, g6, g7, g8⟩
        · rw [g2] at e1; cases e1
        · rw [g1] at e1; cases e1
          refine ⟨b', i * sz + o, e2, heap_lt g4, h.frozen hl hB hst.1 g1, fun j hj => ?_⟩
          obtain ⟨x, hx, hr⟩ := g8 i (o + j) (by omega) (by omega)
          rw [if_neg (by omega)] at hr
          refine ⟨x, ?_, hr⟩
          simp only [World.cell?, g4]
          rw [show i * sz + o + j = i * B.sz + (o + j) by rw [hst.2.2]; omega]
          simpa using hx
      · exact hc0
    · exact hc0
  | .gs k u, v, hc => by
    obtain ⟨l, hl, hu, hv⟩ := hc
    simp only [St.closeC]
    split
    · rename_i B hB
      split
      · rename_i hst
        simp only [Bool.and_eq_true, beq_iff_eq] at hst
        obtain ⟨g0, g1⟩ := h.at_ k l B hl hB (by omega)
        have hv' := hv (by omega)
        rcases g1 with ⟨g1, g2, g3⟩ | ⟨b, cap, cs, g1, g2, g3, g4, g5, g6, g7, g8⟩
        · exact ⟨none, 0, by rw [hv', g3, g1], by omega, fun hn => by omega⟩
        · refine ⟨_, cap, hv'.trans g3, g6, fun hn => ⟨b, 0, rfl, heap_lt g4, h.frozen hl hB hst.1 g1, fun i j hi hj => ?_⟩⟩
          obtain ⟨x, hx, hr⟩ := g8 i j hi hj
          rw [if_neg (by omega)] at hr
          exact ⟨x, by simp only [World.cell?, g4, Nat.zero_add]; simpa using hx, hr⟩
      · exact ⟨l, hl, hu, hv⟩
    · exact ⟨l, hl, hu, hv⟩
  | .sl k u sz o n, v, hc => by
    obtain ⟨l, hl, hu, hv⟩ := hc
    simp only [St.closeC]
    split
    · rename_i B hB
      split
      · rename_i hst
        simp only [Bool.and_eq_true, beq_iff_eq] at hst
        have hln := loc_n h hl hB (by omega)
        obtain ⟨g0, g1⟩ := h.at_ k l B hl hB (by omega)
        obtain ⟨e0, A, c, e1, e2, e4⟩ := hv (by omega)
        refine ⟨A, c, e1, e2, fun hn => ?_⟩
        obtain ⟨b, e5, e6⟩ := e4 hn
        rcases g1 with ⟨g1, g2, g3⟩ | ⟨b', cap, cs, g1, g2, g3, g4, g5, g6, g7, g8⟩
        · omega
        · rw [g1] at e5; cases e5
          refine ⟨b, o * sz, e6, heap_lt g4, h.frozen hl hB hst.1 g1, fun i j hi hj => ?_⟩
          obtain ⟨x, hx, hr⟩ := g8 (o + i) j (by omega) (by omega)
          rw [if_neg (by omega)] at hr
          refine ⟨x, ?_, hr⟩
          simp only [World.cell?, g4]
          have : o * sz + (i * sz + j) = (o + i) * B.sz + j := by rw [hst.2.2, Nat.add_mul]; omega
          rw [this]
          simpa using hx
      · exact ⟨l, hl, hu, hv⟩
    · exact ⟨l, hl, hu, hv⟩
  | .any, _, hc => hc
  | .bool _, _, hc => hc
  | .int _ _, _, hc => hc
  | .nil, _, hc => hc
  | .fn _, _, hc => hc
  | .str _, _, hc => hc
  | .row .., _, hc => hc
  | .xp .., _, hc => hc
theorem closeCs_rel {D0 : Nat → Prop} {w0 : Base} {w : World} {r : Bool} {ρ : List Loc} {bl : List Blk} (h : Sat D0 w0 r ρ bl w) : ∀ {l : List Cell} {vs : List Value}, CRels (Dof D0 ρ bl) w ρ l vs → CRels (Dof D0 ρ bl) w ρ (l.map (St.closeC bl)) vs
  | [], [], _ => trivial
  | _ :: _, _ :: _, hc => ⟨closeC_rel h hc.1, closeCs_rel h hc.2⟩
  | [], _ :: _, hc => hc.elim
  | _ :: _, [], hc => hc.elim
theorem close_rel {D0 : Nat → Prop} {w0 : Base} {w : World} {r : Bool} {ρ : List Loc} {bl : List Blk} (h : Sat D0 w0 r ρ bl w) {x : V} {v : Value} (hc : VRel (Dof D0 ρ bl) w ρ x v) : VRel (Dof D0 ρ bl) w ρ (St.close bl x) v := by
  cases x with
  | c x => exact closeC_rel h hc
  | g l => obtain ⟨vs, h1, h2⟩ := hc; exact ⟨vs, h1, closeCs_rel h h2⟩
  | _ => exact hc
/-- A cell of which the value is known to take one cell. -/
def St.one (bl : List Blk) : Cell → Bool
  | .any => false
  | .p k u .. | .gs k u | .sl k u .. => match bl[k]? with
    | some B => B.u == u && B.st.ble 1
    | none => false
  | _ => true
theorem one_rel {D0 : Nat → Prop} {w0 : Base} {w : World} {r : Bool} {ρ : List Loc} {bl : List Blk} (h : Sat D0 w0 r ρ bl w) {D : Nat → Prop} {c : Cell} {v : Value} (h1 : St.one bl c = true) (hc : CRel D w ρ c v) : v.oneCell' = true ∧ v.cells = #[v] := by
  cases c with
  | any => simp [St.one] at h1
  | bool b => cases hc; exact ⟨rfl, rfl⟩
  | int k n => cases hc; exact ⟨rfl, rfl⟩
  | nil => cases hc; exact ⟨rfl, rfl⟩
  | fn F => cases hc; exact ⟨rfl, rfl⟩
  | str s => cases hc; exact ⟨rfl, rfl⟩
  | cl F m f => obtain ⟨caps, rfl, _⟩ := hc; exact ⟨rfl, rfl⟩
  | row sz n f => obtain ⟨A, c, rfl, _⟩ := hc; exact ⟨rfl, rfl⟩
  | xp m f => obtain ⟨b, o, rfl, _⟩ := hc; exact ⟨rfl, rfl⟩
  | p k u sz i o =>
    obtain ⟨l, hl, hu, hv⟩ := hc
    simp only [St.one] at h1
    split at h1
    · rename_i B hB
      simp at h1
      obtain ⟨g0, _⟩ := h.at_ k l B hl hB h1.2
      obtain ⟨_, b, _, rfl⟩ := hv (by omega)
      exact ⟨rfl, rfl⟩
    · cases h1
  | gs k u =>
    obtain ⟨l, hl, hu, hv⟩ := hc
    simp only [St.one] at h1
    split at h1
    · rename_i B hB
      simp at h1
      obtain ⟨g0, _⟩ := h.at_ k l B hl hB h1.2
      rw [hv (by omega)]
      exact ⟨rfl, rfl⟩
    · cases h1
  | sl k u sz o n =>
    obtain ⟨l, hl, hu, hv⟩ := hc
    simp only [St.one] at h1
    split at h1
    · rename_i B hB
      simp at h1
      obtain ⟨g0, _⟩ := h.at_ k l B hl hB h1.2
      obtain ⟨_, A, c, rfl, _⟩ := hv (by omega)
      exact ⟨rfl, rfl⟩
    · cases h1
/-- A struct literal: parts laid into the cells of the zero value. -/
def fillA (bl : List Blk) (offs : List (Option (Nat × Nat))) (cs : List Cell) : List (Nat × V) → Option (List Cell)
  | [] => some cs
  | (i, x) :: rest => match offs[i]? with
    | some (some (off, fsz)) => match x with
      | .c y => if St.one bl y && (fsz == 1 && (off + 1).ble cs.length) then fillA bl offs (cs.take off ++ [y] ++ cs.drop (off + 1)) rest else none
      | .g l => if fsz == l.length && (off + l.length).ble cs.length then fillA bl offs (cs.take off ++ l ++ cs.drop (off + l.length)) rest else none
      | _ => none
    | _ => none
def lenA (bl : List Blk) : V → Option Nat
  | .c (.row _ n _) => some n
  | .c .nil => some 0
  | .c (.sl k u _ _ n) => match bl[k]? with
    | some B => if B.u == u && B.st.ble 1 then some n else none
    | none => none
  | .c (.gs k u) => match bl[k]? with
    | some B => if B.u == u && B.st.ble 1 then some B.n else none
    | none => none
  | _ => none
/-- The length of a string. -/
def strA : V → Option Nat
  | .c (.str s) => some s.size
  | _ => none
def extractA : V → Nat → Option V
  | .t2 a _, 0 => some a
  | .t2 _ b, 1 => some b
  | .t3 a _ _, 0 => some a
  | .t3 _ b _, 1 => some b
  | .t3 _ _ d, 2 => some d
  | .t4 a _ _ _, 0 => some a
  | .t4 _ b _ _, 1 => some b
  | .t4 _ _ d _, 2 => some d
  | .t4 _ _ _ e, 3 => some e
  | _, _ => none
/-- Function and further arguments of a called value. -/
def calleeA (σ : St) : Operand → Option FuncId
  | .func f => some f
  | .tmp t => match σ.tm t with
    | .c (.fn f) => some f
    | _ => none
  | _ => none

/-- A function value with what it captured. -/
def capsA (σ : St) : Operand → Option (FuncId × List Cell)
  | .tmp t => match σ.tm t with
    | .c (.cl f n c) => some (f, (List.range n).map c)
    | _ => none
  | _ => none
/-- The size of the elements of a slice. -/
def szA (bl : List Blk) : V → Option Nat
  | .c (.row sz _ _) => some sz
  | .c (.sl _ _ sz _ _) => some sz
  | .c (.gs k _) => (bl[k]?).map (·.sz)
  | _ => none
def sliceA (bl : List Blk) (x : V) (lo hi : Option V) (K : V → Prop) : Prop :=
  match (match lo with | none => some 0 | some (V.c (.int .i64 n)) => some n | _ => none), (match hi with | none => (lenA bl x).map Int.ofNat | some (V.c (.int .i64 n)) => some n | _ => none) with
  | some l, some h => 0 ≤ l ∧ l ≤ h ∧ match x with
    | .c (.row sz n f) => h ≤ n ∧ K (.c (.row sz (h - l).toNat fun i j => f (l.toNat + i) j))
    | .c (.gs k u) => match bl[k]? with
      | some B => chk (B.u == u && B.st.ble 1) (h ≤ B.n ∧ K (.c (.sl k u B.sz l.toNat (h - l).toNat)))
      | none => False
    | .c (.sl k u sz o n) => match bl[k]? with
      | some B => chk (B.u == u && B.st.ble 1) (h ≤ n ∧ K (.c (.sl k u sz (o + l.toNat) (h - l).toNat)))
      | none => False
    | _ => False
  | _, _ => False
def boolBin (op : BinOp) (a b : Bool) (K : V → Prop) : Prop := match op with
  | .eql => K (.c (.bool (a == b)))
  | .neq => K (.c (.bool (!(a == b))))
  | _ => False
/-- A slice that is not nil against nil. -/
def nilBin (op : BinOp) (K : V → Prop) : Prop := match op with
  | .eql => K (.c (.bool false))
  | .neq => K (.c (.bool true))
  | _ => False
/-- What a closure has captured. -/
def capC (σ : St) (l : List Operand) (j : Nat) : Cell := match l[j]? with
  | some x => match σ.ev x with
    | .c c => c
    | _ => .any
  | none => .any
def dop (E : Env) (o : Oper) (σ : St) (K : V → Prop) : Prop :=
  match o.op with
  | .move x | .assign x => K (σ.ev x)
  | .pick c a b => match σ.ev c with
    | .c (.bool t) => cs t (K (σ.ev a)) (K (σ.ev b))
    | _ => False
  | .load T x => match E.ty T with
    | some ti => chk (ti.agg || ti.size == 1) (match σ.ev x with
      | .c (.p k u sz i o) => match σ.bl[k]? with
        | some B => chk (B.u == u && (B.sz == sz && (B.st.ble 1 && (o + ti.size).ble sz))) (K (ofCells ti.agg ((List.range ti.size).map fun j => B.f i (o + j))))
        | none => False
      | .c (.xp m f) => chk (ti.size.ble m) (K (ofCells ti.agg ((List.range ti.size).map f)))
      | _ => False)
    | none => False
  | .fieldAddr T x fld => match E.ty T with
    | some ti => match ti.offs[fld]? with
      | some (some (off, _)) => match σ.ev x with
        | .c (.p k u sz i o) => match σ.bl[k]? with
          | some B => chk (B.u == u && B.st.ble 1) (K (.c (.p k u sz i (o + off))))
          | none => False
        | .c (.xp m f) => chk (off.ble m) (K (.c (.xp (m - off) fun j => f (off + j))))
        | _ => False
      | _ => False
    | none => False
  | .indexAddr T x ix => match E.ty T with
    | some ti => match ti.elem with
      | some e => match E.ty e, σ.ev ix with
        | some te, .c (.int _ n) => 0 ≤ n ∧ match σ.ev x with
          | .c (.row sz m f) => n < m ∧ chk (te.size == sz) (K (.c (.xp sz (f n.toNat))))
          | .c (.gs k u) => match σ.bl[k]? with
            | some B => n < B.n ∧ chk (B.u == u && (B.st.ble 1 && te.size == B.sz)) (K (.c (.p k u B.sz n.toNat 0)))
            | none => False
          | .c (.sl k u sz o m) => match σ.bl[k]? with
            | some B => n < m ∧ chk (B.u == u && (B.st.ble 1 && te.size == sz)) (K (.c (.p k u sz (o + n.toNat) 0)))
            | none => False
          | _ => False
        | _, _ => False
      | none => False
    | none => False
  | .build T parts => match E.ty T with
    | some ti => match fillA σ.bl ti.offs ti.zero (parts.toList.map fun q => (q.1, σ.ev q.2)) with
      | some l => chk (!ti.offs.isEmpty && ti.offs.all Option.isSome) (K (.g l))
      | none => False
    | none => False
  | .binOp op T x y _ => match σ.ev x, σ.ev y with
    | .c (.int k a), .c (.int k' b) => chk (decide (k = k') || shiftB op) (intBin op k a b K)
    | .c (.bool a), .c (.bool b) => match E.ty T with
      | some ti => chk (ti.kd == 1) (boolBin op a b K)
      | none => False
    | .c (.row _ n _), .c .nil => match E.ty T with
      | some ti => chk ti.elem.isSome (0 < n ∧ nilBin op K)
      | none => False
    | _, _ => False
  | .unOp op _ x => match op, σ.ev x with
    | .not, .c (.bool b) => K (.c (.bool !b))
    | .neg, .c (.int k n) => K (.c (.int k (k.wrap (-n))))
    | .xor, .c (.int k n) => K (.c (.int k (k.wrap (BitVec.ofInt k.bits (if k.signed then -1 else k.max) ^^^ BitVec.ofInt k.bits n).toNat)))
    | _, _ => False
  | .convert S T x => match E.ty S, E.ty T, σ.ev x with
    | some ts, some ti, .c (.int _ n) => match ts.ik, ti.ik with
      | some _, some k => K (.c (.int k (k.wrap n)))
      | _, _ => False
    | _, _, _ => False
  | .extract x i => match extractA (σ.ev x) i with
    | some v => K v
    | none => False
  | .slice T x lo hi none => match E.ty T with
    | some ti => match ti.elem with
      | some e => match E.ty e with
        | some te => chk (match szA σ.bl (σ.ev x) with | some z => z == te.size | none => false) (sliceA σ.bl (σ.ev x) (lo.map σ.ev) (hi.map σ.ev) K)
        | none => False
      | none => False
    | none => False
  | .call { callee := .builtin .len, args, argTypes } => match args.toList, argTypes.toList with
    | [x], [T] => match E.ty T, lenA σ.bl (σ.ev x) with
      | some ti, some n => chk ti.elem.isSome (K (.c (.int .i64 n)))
      | some ti, none => match strA (σ.ev x) with
        | some n => chk (ti.kd == 2) (K (.c (.int .i64 n)))
        | none => False
      | _, _ => False
    | _, _ => False
  | .call { callee := .builtin .max, args, .. } => match args.toList.map σ.ev with
    | [.c (.int k a), .c (.int _ b)] => K (.c (.int k (if b > a then b else a)))
    | _ => False
  | .call { callee := .builtin .min, args, .. } => match args.toList.map σ.ev with
    | [.c (.int k a), .c (.int _ b)] => K (.c (.int k (if b < a then b else a)))
    | _ => False
  | .call { callee := .value g, args, .. } => match calleeA σ g with
    | some f => chk ((args.toList.map fun x => St.close σ.bl (σ.ev x)).all V.clos) (∃ X, FnOK E.P E.r f (args.toList.map fun x => St.close σ.bl (σ.ev x)) X ∧ K X)
    | none => match capsA σ g with
      | some (f, cs) => chk (((args.toList.map fun x => St.close σ.bl (σ.ev x)) ++ cs.map fun c => V.c (St.closeC σ.bl c)).all V.clos) (∃ X, FnOK E.P E.r f ((args.toList.map fun x => St.close σ.bl (σ.ev x)) ++ cs.map fun c => V.c (St.closeC σ.bl c)) X ∧ K X)
      | none => False
  | .index T (.const (.string s)) ix => match E.ty T, σ.ev ix with
    | some ti, .c (.int _ n) => chk (ti.kd == 2) (0 ≤ n ∧ match s[n.toNat]? with
      | some b => K (.c (.int .u8 (b.toNat : Int)))
      | none => False)
    | _, _ => False
  | .makeFunc (.func f) first captured => chk (first.size == 0) (K (.c (.cl f captured.size (capC σ captured.toList))))
  | .field T x fld => match E.ty T with
    | some ti => match ti.offs[fld]?, σ.ev x with
      | some (some (off, _)), .g l => match l[off]? with
        | some c => chk (ti.kd == 3) (K (.c c))
        | none => False
      | _, _ => False
    | none => False
  | .nilCheck x => match σ.ev x with
    | .c (.p k u sz i o) => match σ.bl[k]? with
      | some B => chk (B.u == u && B.st.ble 1) (K (.c (.p k u sz i o)))
      | none => False
    | .c (.xp m f) => K (.c (.xp m f))
    | _ => False
  | _ => False

/-- The blocks, each with its version, that a cell names. -/
def Cell.ment : Cell → Nat → Nat → Prop
  | .p k u .., k', u' | .gs k u, k', u' | .sl k u .., k', u' => k = k' ∧ u = u'
  | .cl _ n f, k', u' => ∃ j, j < n ∧ (f j).ment k' u'
  | _, _, _ => False
def V.ment : V → Nat → Nat → Prop
  | .c x, k, u => x.ment k u
  | .g l, k, u => ∃ c ∈ l, c.ment k u
  | .t2 a b, k, u => a.ment k u ∨ b.ment k u
  | .t3 a b d, k, u => a.ment k u ∨ b.ment k u ∨ d.ment k u
  | .t4 a b d e, k, u => a.ment k u ∨ b.ment k u ∨ d.ment k u ∨ e.ment k u
/-- Operations that look into the blocks that their operands name. -/
def needB : Op → Bool
  | .move _ | .assign _ | .pick .. | .extract .. | .binOp .. | .unOp .. | .convert .. | .alloc _ | .makeSlice .. => false
  | _ => true
/-- Whatever of x is known in bl is so in bl'. -/
def AgreeV (bl bl' : List Blk) (x : V) : Prop := ∀ k u, x.ment k u → ∀ B, bl[k]? = some B → B.st ≤ 1 → B.u = u → bl'[k]? = some B
def Agree (o : Oper) (σ : St) (bl : List Blk) : Prop := needB o.op = true → ∀ x ∈ o.op.operands, AgreeV σ.bl bl (σ.ev x)
theorem Agree.refl (o : Oper) (σ : St) : Agree o σ σ.bl := fun _ _ _ _ _ _ _ h _ _ => h
theorem one_congr {bl bl' : List Blk} {c : Cell} (h : AgreeV bl bl' (.c c)) (h1 : St.one bl c = true) : St.one bl' c = true := by
  cases c <;> first
    | exact h1
    | (simp only [St.one] at h1 ⊢
       split at h1
       · rename_i B hB
         simp only [Bool.and_eq_true, beq_iff_eq, Nat.ble_eq] at h1
         rw [h _ _ ⟨rfl, rfl⟩ B hB h1.2 h1.1]
         simp [h1]
       · cases h1)
theorem closeC_congr {bl bl' : List Blk} : ∀ {c : Cell} (_ : AgreeV bl bl' (.c c)) (_ : (St.closeC bl c).clos = true), St.closeC bl' c = St.closeC bl c
  | .any, _, _ => rfl
  | .bool _, _, _ => rfl
  | .int _ _, _, _ => rfl
  | .nil, _, _ => rfl
  | .fn _, _, _ => rfl
  | .str _, _, _ => rfl
  | .row .., _, _ => rfl
  | .xp .., _, _ => rfl
  | .cl F n f, h, h1 => by
    simp only [St.closeC, Cell.clos, List.all_eq_true, List.mem_range] at h1
    simp only [St.closeC, Cell.cl.injEq, true_and]
    funext j
    by_cases hj : j < n
    · have h2 := h1 j hj
      rw [if_pos hj] at h2
      rw [if_pos hj, if_pos hj]
      exact closeC_congr (fun k u hm => h k u ⟨j, hj, hm⟩) h2
    · rw [if_neg hj, if_neg hj]
  | .p k u sz i o, h, h1 => by
    simp only [St.closeC] at h1 ⊢
    split at h1
    · rename_i B hB
      split at h1
      · rename_i hst
        have hst' := hst
        simp only [Bool.and_eq_true, beq_iff_eq] at hst'
        rw [h _ _ ⟨rfl, rfl⟩ B hB (by omega) hst'.2.1]
      · simp [Cell.clos] at h1
    · simp [Cell.clos] at h1
  | .gs k u, h, h1 => by
    simp only [St.closeC] at h1 ⊢
    split at h1
    · rename_i B hB
      split at h1
      · rename_i hst
        have hst' := hst
        simp only [Bool.and_eq_true, beq_iff_eq] at hst'
        rw [h _ _ ⟨rfl, rfl⟩ B hB (by omega) hst'.2]
      · simp [Cell.clos] at h1
    · simp [Cell.clos] at h1
  | .sl k u sz o n, h, h1 => by
    simp only [St.closeC] at h1 ⊢
    split at h1
    · rename_i B hB
      split at h1
      · rename_i hst
        have hst' := hst
        simp only [Bool.and_eq_true, beq_iff_eq] at hst'
        rw [h _ _ ⟨rfl, rfl⟩ B hB (by omega) hst'.2.1]
      · simp [Cell.clos] at h1
    · simp [Cell.clos] at h1
theorem close_congr {bl bl' : List Blk} {x : V} (h : AgreeV bl bl' x) (h1 : (St.close bl x).clos = true) : St.close bl' x = St.close bl x := by
  cases x with
  | c x => simp only [St.close]; rw [closeC_congr h h1]
  | g l =>
    simp only [St.close, V.g.injEq]
    refine List.map_congr_left fun c hc => closeC_congr (fun k u hm => h k u ⟨c, hc, hm⟩) ?_
    exact List.all_eq_true.1 h1 _ (List.mem_map_of_mem hc)
  | _ => rfl
theorem lenA_congr {bl bl' : List Blk} {x : V} (h : AgreeV bl bl' x) {n : Nat} (h1 : lenA bl x = some n) : lenA bl' x = some n := by
  cases x with
  | c x =>
    cases x <;> first
      | exact h1
      | (simp only [lenA] at h1 ⊢
         split at h1
         · rename_i B hB
           split at h1
           · rename_i hst
             have hst' := hst
             simp only [Bool.and_eq_true, beq_iff_eq, Nat.ble_eq] at hst'
             rw [h _ _ ⟨rfl, rfl⟩ B hB hst'.2 hst'.1]
             simp only [hst, if_true]
             exact h1
           · cases h1
         · cases h1)
  | g l => exact h1
  | t2 a b => exact h1
  | t3 a b d => exact h1
  | t4 a b d e => exact h1
theorem fillA_congr {bl bl' : List Blk} {offs : List (Option (Nat × Nat))} : ∀ (parts : List (Nat × V)) (cs : List Cell) {l : List Cell}, (∀ q ∈ parts, AgreeV bl bl' q.2) → fillA bl offs cs parts = some l → fillA bl' offs cs parts = some l
  | [], _, _, _, h => h
  | (i, x) :: parts, cs, l, h, hf => by
    have ih := fun cs => fillA_congr (offs := offs) (l := l) parts cs fun q hq => h q (by simp [hq])
    have hx := h (i, x) (by simp)
    simp only [fillA] at hf ⊢
    split at hf
    · rename_i off fsz ho
      split at hf
      · rename_i y
        split at hf
        · rename_i hc
          have hc' := hc
          simp only [Bool.and_eq_true] at hc'
          rw [if_pos (by simp only [Bool.and_eq_true]; exact ⟨one_congr hx hc'.1, hc'.2⟩)]
          exact ih _ hf
        · cases hf
      · split at hf
        · rename_i hc
          rw [if_pos hc]
          exact ih _ hf
        · cases hf
      · cases hf
    · cases hf
/-- What a step of such an operation comes to, in whatever state reads so. -/
def Steps1 (P : Program) (D0 : Nat → Prop) (w0 : Base) (r : Bool) (o : Oper) (σ : St) (X : V) : Prop :=
  ∀ (ρ : List Loc) (bl : List Blk) (a : Act) (w : World), Sat D0 w0 r ρ bl w → Agree o σ bl → (∀ x ∈ o.op.operands, VRel (Dof D0 ρ bl) w ρ (σ.ev x) (a.eval x)) → ∀ (next : Act → World → Prop) (Q : Exit → Act → World → Prop),
    (∀ v w', Below w.heap.size w w' → VRel (Dof D0 ρ bl) w' ρ X v → next (a.put o.dst v) w') → o.wp P a w next Q
theorem steps1_value {P : Program} {D0 : Nat → Prop} {w0 : Base} {r : Bool} {o : Oper} {σ : St} {X : V}
    (h : ∀ (ρ : List Loc) (bl : List Blk) (a : Act) (w : World), Sat D0 w0 r ρ bl w → Agree o σ bl → (∀ x ∈ o.op.operands, VRel (Dof D0 ρ bl) w ρ (σ.ev x) (a.eval x)) → ∃ v, (execOp a.eval o).run P w = .ok (.value v) w ∧ VRel (Dof D0 ρ bl) w ρ X v) : Steps1 P D0 w0 r o σ X := by
  intro ρ bl a w hs hag hx next Q hn
  obtain ⟨v, h1, h2⟩ := h ρ bl a w hs hag hx
  unfold Oper.wp
  rw [h1]
  exact hn v w (Below.refl _ _) h2
theorem load_p {P : Program} {D0 : Nat → Prop} {w0 : Base} {w : World} {r : Bool} {ρ : List Loc} {bl : List Blk} (hs : Sat D0 w0 r ρ bl w) {T : TypeId} {ti : TI} (ht : tyOf P T = some ti) (h1 : ti.agg = true ∨ ti.size = 1) {k u sz i o : Nat} {B : Blk} (hB : bl[k]? = some B) (hu : B.u = u) (hsz : B.sz = sz) (hst : B.st ≤ 1) (ho : o + ti.size ≤ sz) {v : Value} (hv : CRel (Dof D0 ρ bl) w ρ (.p k u sz i o) v) :
    ∃ x, (Instr.loadAt T v).run P w = .ok x w ∧ VRel (Dof D0 ρ bl) w ρ (ofCells ti.agg ((List.range ti.size).map fun j => B.f i (o + j))) x := by
  obtain ⟨l, hl, hul, hp⟩ := hv
  have hln := loc_n hs hl hB hst
  obtain ⟨g0, g1⟩ := hs.at_ k l B hl hB (by omega)
  rcases g1 with ⟨g1, _, _⟩ | ⟨b, cap, cs, g1, g2, g3, g4, g5, g6, g7, g8⟩
  · have := (hp (by omega)).1; omega
  obtain ⟨hi, b', e1, e2⟩ := hp (by omega)
  rw [hln] at hi
  rw [g1] at e1; cases e1
  subst e2
  have hlt : i * B.sz + o + ti.size ≤ cs.size := by
    rw [g5]
    have : (i + 1) * B.sz ≤ cap * B.sz := Nat.mul_le_mul_right _ (by omega)
    rw [Nat.succ_mul] at this
    omega
  obtain ⟨vs, hvs⟩ : ∃ vs, vs = (List.range ti.size).map fun j => cs.getD (i * B.sz + o + j) undef := ⟨_, rfl⟩
  have hlen : vs.length = ti.size := by rw [hvs]; simp
  have hc : ∀ (j : Nat) v, vs[j]? = some v → w.cell? ⟨b, i * sz + o + j, none⟩ = some v := by
    intro j v hj
    have hjl : j < ti.size := by rw [← hlen]; exact (List.getElem?_eq_some_iff.1 hj).1
    rw [hvs] at hj
    rw [List.getElem?_map, List.getElem?_range hjl] at hj
    simp only [Option.map_some, Option.some.injEq] at hj
    simp only [World.cell?, g4, Option.isSome_none, Bool.false_eq_true, if_false]
    rw [← hj, ← hsz, Array.getElem?_eq_getElem (by omega)]
    simp [Array.getD, show i * B.sz + o + j < cs.size by omega]
  refine ⟨_, run_loadAt ht h1 hlen hc, ofCells_rel _ (CRels.of _ _ (by rw [hlen]; simp) fun j x v hx hv => ?_)⟩
  have hjl : j < ti.size := by rw [← hlen]; exact (List.getElem?_eq_some_iff.1 hv).1
  rw [List.getElem?_map, List.getElem?_range hjl] at hx
  simp only [Option.map_some, Option.some.injEq] at hx
  subst hx
  obtain ⟨y, hy, hr⟩ := g8 i (o + j) hi (by omega)
  have hr : CRel (Dof D0 ρ bl) w ρ (B.f i (o + j)) y := by
    by_cases hz : B.st = 0
    · rw [if_pos hz] at hr; exact hr
    · rw [if_neg hz] at hr; exact hr.step (Ext.refl _ w) (fun _ _ x => x) (fun k l hk => by simp at hk)
  have := hc j v hv
  simp only [World.cell?, g4, Option.isSome_none, Bool.false_eq_true, if_false] at this
  rw [← hsz, show i * B.sz + o + j = i * B.sz + (o + j) by omega, hy] at this
  cases this
  exact hr
theorem load_x {P : Program} {D : Nat → Prop} {w : World} {ρ : List Loc} {T : TypeId} {ti : TI} (ht : tyOf P T = some ti) (h1 : ti.agg = true ∨ ti.size = 1) {m : Nat} {f : Nat → Cell} (hm : ti.size ≤ m) {v : Value} (hv : CRel D w ρ (.xp m f) v) :
    ∃ x, (Instr.loadAt T v).run P w = .ok x w ∧ VRel D w [] (ofCells ti.agg ((List.range ti.size).map f)) x := by
  obtain ⟨b, o, rfl, hb, hD, hc⟩ := hv
  have hx : ∀ n, n ≤ m → ∃ vs : List Value, vs.length = n ∧ (∀ (j : Nat) v, vs[j]? = some v → w.cell? ⟨b, o + j, none⟩ = some v) ∧ CRels D w [] ((List.range n).map f) vs := by
    intro n
    induction n with
    | zero => intro _; exact ⟨[], rfl, fun j v h => by simp at h, trivial⟩
    | succ n ih =>
      intro hn
      obtain ⟨vs, e1, e2, e3⟩ := ih (by omega)
      obtain ⟨u, hu, hr⟩ := hc n (by omega)
      refine ⟨vs ++ [u], by simp [e1], fun j v hj => ?_, CRels.of _ _ (by simp [e1]) fun j x v hx hv => ?_⟩
      · rcases Nat.lt_or_ge j vs.length with h | h
        · rw [List.getElem?_append_left h] at hj; exact e2 j v hj
        · rw [List.getElem?_append_right h] at hj
          rcases Nat.eq_zero_or_pos (j - vs.length) with e | e
          · rw [e] at hj; simp at hj; subst hj; rw [show j = n by omega]; exact hu
          · rw [List.getElem?_eq_none (by simp; omega)] at hj; cases hj
      · rcases Nat.lt_or_ge j vs.length with h | h
        · rw [List.getElem?_append_left h] at hv
          rw [List.range_succ, List.map_append, List.getElem?_append_left (by simp; omega)] at hx
          obtain ⟨y, hy, hyr⟩ := e3.get j x hx
          rw [hv] at hy; cases hy
          exact hyr
        · rw [List.getElem?_append_right h] at hv
          rw [List.range_succ, List.map_append, List.getElem?_append_right (by simp; omega)] at hx
          rcases Nat.eq_zero_or_pos (j - vs.length) with e | e
          · rw [e] at hv; simp at hv; subst hv
            rw [show j - (List.map f (List.range n)).length = 0 by simp; omega] at hx
            simp at hx; subst hx
            exact hr
          · rw [List.getElem?_eq_none (by simp; omega)] at hv; cases hv
  obtain ⟨vs, e1, e2, e3⟩ := hx ti.size hm
  exact ⟨_, run_loadAt ht h1 e1 e2, ofCells_rel _ e3⟩
theorem VRel.nil_rho {D : Nat → Prop} {w : World} {ρ : List Loc} {x : V} {v : Value} (h : VRel D w [] x v) : VRel D w ρ x v :=
  h.step (Ext.refl D w) (fun _ _ x => x) (fun k l hk => by simp at hk)
end Go.Proofs.YtigciplaoikcfaaGreat
