/- Abstract operations that leave the call's own blocks alone: what each yields, and that it does. -/
import Derived.Test.YtigciplaoikcfaaGreatAbsB
import Derived.ChangeKeysEq
namespace Go.Proofs.YtigciplaoikcfaaGreat
open Go.RowKit
/-- What the walk asks of a type. -/
structure TI where
  agg : Bool
  size : Nat
  zero : List Cell
  bytes : Nat
  offs : List (Option (Nat × Nat))
  elem : Option TypeId
  ik : Option IntKind
  kd : Nat
/-- A type that is neither struct nor array. -/
def plainT (P : Program) (T : TypeId) : Bool := match P.underlying T with
  | some (.struct _) | some (.array _ _) | none => false
  | some _ => true
def tiOf (P : Program) (d : TypeDesc) (i : TypeInfo) (zv : Value) : TI where
  agg := match d with
    | .struct _ | .array _ _ => true
    | _ => false
  size := i.size
  zero := zv.cells.toList.map cellOf
  bytes := i.bytes
  offs := match d with
    | .struct fs => fs.toList.map fun f => if P.cellsOf f.type = 0 then none else some (f.offset, P.cellsOf f.type)
    | _ => []
  elem := match d with
    | .slice e => some e
    | _ => none
  ik := match d with
    | .int k => some k
    | _ => none
  kd := match d with
    | .bool => 1
    | .string => 2
    | .struct fs => if fs.toList.all (fun f => plainT P f.type) then 3 else 0
    | _ => 0
def tyOf (P : Program) (T : TypeId) : Option TI :=
  match P.underlying T, P.info? T with
  | some d, some i => match i.zero with
    | some zv => some (tiOf P d i zv)
    | none => none
  | _, _ => none
theorem tyOf_spec {P : Program} {T : TypeId} {ti : TI} (h : tyOf P T = some ti) : ∃ d i zv, P.underlying T = some d ∧ P.info? T = some i ∧ i.zero = some zv ∧ ti = tiOf P d i zv := by
  unfold tyOf at h
  split at h
  · rename_i d i hd hi
    split at h
    · rename_i zv hz
      cases h
      exact ⟨d, i, zv, hd, hi, hz, rfl⟩
    · cases h
  · cases h
/-- The functions that are told by contracts that let them write a block; and those that hand back one of their own. -/
def wrF (f : FuncId) : Bool := [120, 75].contains f
def frF (f : FuncId) : Bool := [118, 29].contains f
/-- Those that hand back one block of their own, in whatever order they are called. -/
def frS (f : FuncId) : Bool := [80].contains f
/-- What is known of the program: types, functions that have bodies; r: no closed block holds digits. -/
structure Env where
  P : Program
  r : Bool
  ty : TypeId → Option TI
  m0 : Nat := 0
structure EnvOK (E : Env) : Prop where
  ty : ∀ T ti, E.ty T = some ti → tyOf E.P T = some ti
/-- A test that is settled at once. -/
def chk (b : Bool) (p : Prop) : Prop := match b with
  | true => p
  | false => False
theorem chk_iff {b : Bool} {p : Prop} : chk b p ↔ b = true ∧ p := by cases b <;> simp [chk]
/-- A test whose outcome may be open. -/
def cs (b : Bool) (p q : Prop) : Prop := match b with
  | true => p
  | false => q
theorem cs_iff {b : Bool} {p q : Prop} : cs b p q ↔ (b = true → p) ∧ (b = false → q) := by cases b <;> simp [cs]
theorem bcase {b : Bool} {p q : Prop} (h1 : b = true → p) (h2 : b = false → q) : cs b p q := cs_iff.2 ⟨h1, h2⟩
theorem bpos {b : Bool} {p q : Prop} (h : b = true) (hp : p) : cs b p q := by subst h; exact hp
theorem bneg {b : Bool} {p q : Prop} (h : b = false) (hq : q) : cs b p q := by subst h; exact hq
def gw (want b : Bool) : Bool := match want with
  | true => b
  | false => !b
theorem gw_true {want b : Bool} : gw want b = true ↔ b = want := by cases want <;> cases b <;> simp [gw]
theorem gw_false {want b : Bool} : gw want b = false ↔ b = !want := by cases want <;> cases b <;> simp [gw]
theorem gwf {b : Bool} (h : gw false b = true) : b = false := gw_true.1 h
theorem gwf' {b : Bool} (h : gw false b = false) : b = true := gw_false.1 h
theorem run_agg {P : Program} {T : TypeId} {ti : TI} (h : tyOf P T = some ti) (w : World) : (isAgg T).run P w = .ok ti.agg w := by
  obtain ⟨d, i, zv, hd, hi, hz, rfl⟩ := tyOf_spec h
  simp only [isAgg, Sem.run_bind, run_underlying hd, Result.andThen, tiOf]
  cases d <;> rfl
theorem run_size {P : Program} {T : TypeId} {ti : TI} (h : tyOf P T = some ti) (w : World) : (sizeOf T).run P w = .ok ti.size w := by
  obtain ⟨d, i, zv, hd, hi, hz, rfl⟩ := tyOf_spec h
  simp [sizeOf, typeInfo, hi, tiOf]
theorem cellsOf_ty {P : Program} {T : TypeId} {ti : TI} (h : tyOf P T = some ti) : P.cellsOf T = ti.size := by
  obtain ⟨d, i, zv, hd, hi, hz, rfl⟩ := tyOf_spec h
  simp [Program.cellsOf, hi, tiOf]
theorem run_zero {P : Program} {T : TypeId} {ti : TI} (h : tyOf P T = some ti) (w : World) : ∃ zv : Value, (zeroValue T).run P w = .ok zv w ∧ ti.zero = zv.cells.toList.map cellOf := by
  obtain ⟨d, i, zv, hd, hi, hz, rfl⟩ := tyOf_spec h
  exact ⟨zv, by simp [zeroValue, typeInfo, hi, hz], rfl⟩
theorem under_elem {P : Program} {T e : TypeId} {ti : TI} (h : tyOf P T = some ti) (he : ti.elem = some e) : P.underlying T = some (.slice e) := by
  obtain ⟨d, i, zv, hd, hi, hz, rfl⟩ := tyOf_spec h
  simp only [tiOf] at he
  cases d <;> simp at he
  subst he
  exact hd
theorem under_ik {P : Program} {T : TypeId} {k : IntKind} {ti : TI} (h : tyOf P T = some ti) (he : ti.ik = some k) : P.underlying T = some (.int k) := by
  obtain ⟨d, i, zv, hd, hi, hz, rfl⟩ := tyOf_spec h
  simp only [tiOf] at he
  cases d <;> simp at he
  subst he
  exact hd
theorem under_kd1 {P : Program} {T : TypeId} {ti : TI} (h : tyOf P T = some ti) (he : ti.kd = 1) : P.underlying T = some .bool := by
  obtain ⟨d, i, zv, hd, hi, hz, rfl⟩ := tyOf_spec h
  simp only [tiOf] at he
  cases d <;> first
    | exact hd
    | (simp at he; done)
    | (simp at he; split at he <;> omega)
theorem under_kd2 {P : Program} {T : TypeId} {ti : TI} (h : tyOf P T = some ti) (he : ti.kd = 2) : P.underlying T = some .string := by
  obtain ⟨d, i, zv, hd, hi, hz, rfl⟩ := tyOf_spec h
  simp only [tiOf] at he
  cases d <;> first
    | exact hd
    | (simp at he; done)
    | (simp at he; split at he <;> omega)
theorem under_kd3 {P : Program} {T : TypeId} {ti : TI} (h : tyOf P T = some ti) (he : ti.kd = 3) {fld off fsz : Nat} (ho : ti.offs[fld]? = some (some (off, fsz))) : ∃ fs f, P.underlying T = some (.struct fs) ∧ fs[fld]? = some f ∧ f.offset = off ∧ plainT P f.type = true := by
  obtain ⟨d, i, zv, hd, hi, hz, rfl⟩ := tyOf_spec h
  cases d <;> simp [tiOf] at he ho
  rename_i fs
  obtain ⟨f, hf, _, e, _⟩ := ho
  obtain ⟨h1, h2⟩ := Array.getElem?_eq_some_iff.1 hf
  refine ⟨fs, f, hd, hf, e, ?_⟩
  rw [← h2]
  exact he fld h1
theorem run_plain {P : Program} {T : TypeId} (h : plainT P T = true) (w : World) : (isAgg T).run P w = .ok false w := by
  unfold plainT at h
  cases hu : P.underlying T with
  | none => rw [hu] at h; cases h
  | some d =>
    rw [hu] at h
    simp only [isAgg, Sem.run_bind, run_underlying hu, Result.andThen]
    cases d <;> first
      | rfl
      | cases h
theorem add_plain (b o n : Nat) : (⟨b, o, none⟩ : Addr).add n = ⟨b, o + n, none⟩ := by
  unfold Addr.add
  split
  · rename_i h; subst h; rfl
  · rfl
theorem run_field {P : Program} {T : TypeId} {ti : TI} (h : tyOf P T = some ti) {fld off fsz : Nat} (ho : ti.offs[fld]? = some (some (off, fsz))) (w : World) (b o : Nat) :
    (Instr.fieldAt T (.pointer (some ⟨b, o, none⟩)) fld).run P w = .ok (.pointer (some ⟨b, o + off, none⟩)) w := by
  obtain ⟨d, i, zv, hd, hi, hz, rfl⟩ := tyOf_spec h
  simp only [tiOf] at ho
  cases d <;> simp at ho
  rename_i fs
  obtain ⟨f, hf, h1, h2⟩ := ho
  have hs : (sizeOf f.type).run P w = .ok (P.cellsOf f.type) w := by
    cases hI : P.info? f.type with
    | none => simp [Program.cellsOf, hI] at h1
    | some i' => simp [sizeOf, typeInfo, Program.cellsOf, hI]
  simp [Instr.fieldAt, run_underlying hd, hf, Instr.sureAddr, fieldPlace, hs, h1, add_plain, h2.1]
/-- A value of a type, off its cells. -/
def valOf (agg : Bool) (vs : List Value) : Value := if agg then .agg vs.toArray else vs.headD undef
theorem run_loadAt {P : Program} {T : TypeId} {ti : TI} (h : tyOf P T = some ti) (h1 : ti.agg = true ∨ ti.size = 1) {w : World} {b o : Nat} {vs : List Value} (hl : vs.length = ti.size) (hc : ∀ (j : Nat) v, vs[j]? = some v → w.cell? ⟨b, o + j, none⟩ = some v) :
    (Instr.loadAt T (.pointer (some ⟨b, o, none⟩))).run P w = .ok (valOf ti.agg vs) w := by
  have hv : (loadVar T ⟨b, o, none⟩).run P w = .ok (valOf ti.agg vs) w := by
    cases ha : ti.agg with
    | true =>
      have hx := run_loadCells_list (P := P) w ⟨b, o, none⟩ vs (fun j v hj => by rw [add_plain]; exact hc j v hj)
      rw [hl] at hx
      simp [loadVar, run_agg h, ha, run_size h, hx, valOf, Result.andThen]
    | false =>
      have hs : ti.size = 1 := by simpa [ha] using h1
      rw [hs] at hl
      obtain ⟨v, rfl⟩ := List.length_eq_one_iff.1 hl
      have := hc 0 v rfl
      simp only [Nat.add_zero] at this
      simp [loadVar, run_agg h, ha, valOf, this, Result.andThen]
  simp [Instr.loadAt, Instr.sureAddr, hv]
def ofCells (agg : Bool) (l : List Cell) : V :=
  match agg, l with
  | true, l => .g l
  | false, [x] => .c x
  | false, _ => .c .any
theorem ofCells_rel {D : Nat → Prop} {w : World} {ρ : List Loc} {l : List Cell} {vs : List Value} (agg : Bool) (h : CRels D w ρ l vs) : VRel D w ρ (ofCells agg l) (valOf agg vs) := by
  cases agg with
  | true => exact ⟨vs.toArray, rfl, h⟩
  | false =>
    cases l with
    | nil => trivial
    | cons x t =>
      cases t with
      | nil =>
        cases vs with
        | nil => exact h.elim
        | cons v r => exact h.1
      | cons y r => trivial
def St.ev (σ : St) : Operand → V
  | .tmp t => σ.tm t
  | .const v => .c (cellOf v)
  | .func f => .c (.fn f)
  | .global _ => .c .any
theorem ev_rel {D : Nat → Prop} {w : World} {ρ : List Loc} {σ : St} {a : Act} (h : ∀ t, VRel D w ρ (σ.tm t) (a.tmps.getD t undef)) (x : Operand) : VRel D w ρ (σ.ev x) (a.eval x) := by
  cases x with
  | tmp t => exact h t
  | const v => exact cellOf_rel _ _ _ v
  | func f => rfl
  | global g => trivial
/-- An integer that fits its kind. -/
def inR : IntKind → Int → Prop
  | .i64, n => -9223372036854775808 ≤ n ∧ n < 9223372036854775808
  | .u64, n => 0 ≤ n ∧ n < 18446744073709551616
  | .u32, n => 0 ≤ n ∧ n < 4294967296
  | k, n => k.wrap n = n
theorem inR_wrap {k : IntKind} {n : Int} (h : inR k n) : k.wrap n = n := by
  cases k <;> first
    | exact h
    | (simp only [inR] at h; simp [IntKind.wrap, IntKind.bits, IntKind.signed]; omega)
/-- Sums and products: numbers with a sign must fit, others wrap. -/
def arB (k : IntKind) (n : Int) (K : V → Prop) : Prop := match k with
  | .u64 | .u32 | .u16 | .u8 => K (.c (.int k (k.wrap n)))
  | _ => inR k n ∧ K (.c (.int k n))
theorem arB_wrap {k : IntKind} {n : Int} {K : V → Prop} (h : arB k n K) : K (.c (.int k (k.wrap n))) := by
  unfold arB at h
  split at h
  · exact h
  · exact h
  · exact h
  · exact h
  · rw [inR_wrap h.1]; exact h.2
def intBin (op : BinOp) (k : IntKind) (a b : Int) (K : V → Prop) : Prop :=
  match op with
  | .add => arB k (a + b) K
  | .sub => arB k (a - b) K
  | .mul => arB k (a * b) K
  | .quo => b ≠ 0 ∧ inR k (a.tdiv b) ∧ K (.c (.int k (a.tdiv b)))
  | .rem => b ≠ 0 ∧ K (.c (.int k (a.tmod b)))
  | .eql => K (.c (.bool (decide (a = b))))
  | .neq => K (.c (.bool (!decide (a = b))))
  | .lss => K (.c (.bool (decide (a < b))))
  | .leq => K (.c (.bool (decide (a ≤ b))))
  | .gtr => K (.c (.bool (decide (b < a))))
  | .geq => K (.c (.bool (decide (b ≤ a))))
  | .shl => 0 ≤ b ∧ K (.c (.int k (k.wrap (a * 2 ^ min b.toNat k.bits))))
  | .shr => 0 ≤ b ∧ K (.c (.int k (a.fdiv (2 ^ min b.toNat k.bits))))
  | .and => K (.c (.int k (k.wrap (BitVec.ofInt k.bits a &&& BitVec.ofInt k.bits b).toNat)))
  | .or => K (.c (.int k (k.wrap (BitVec.ofInt k.bits a ||| BitVec.ofInt k.bits b).toNat)))
  | .xor => K (.c (.int k (k.wrap (BitVec.ofInt k.bits a ^^^ BitVec.ofInt k.bits b).toNat)))
  | _ => False
def shiftB : BinOp → Bool
  | .shl | .shr => true
  | _ => false
theorem intBin_sound {P : Program} {op : BinOp} {k k' : IntKind} (hk : (decide (k = k') || shiftB op) = true) {a b : Int} {K : V → Prop} (h : intBin op k a b K) (T : TypeId) (x y : Operand) (w : World) :
    ∃ c : Cell, K (.c c) ∧ ∃ v : Value, (∀ D ρ, CRel D w ρ c v) ∧ (∀ w D ρ, CRel D w ρ c v) ∧ ∀ w, (do eqGuard op T x y (.int k a) (.int k' b); binOp op T (.int k a) (.int k' b) : Sem Value).run P w = .ok v w := by
  have hs : shiftB op = false → k = k' := fun e => by rw [e, Bool.or_false] at hk; exact of_decide_eq_true hk
  cases op <;> simp only [intBin] at h <;> first | (obtain rfl := hs rfl) | skip
  case add => exact ⟨_, arB_wrap h, .int k (k.wrap (a + b)), fun _ _ => rfl, fun _ _ _ => rfl, fun w => by simp [eqGuard, binOp, Op.intArith]⟩
  case sub => exact ⟨_, arB_wrap h, .int k (k.wrap (a - b)), fun _ _ => rfl, fun _ _ _ => rfl, fun w => by simp [eqGuard, binOp, Op.intArith]⟩
  case mul => exact ⟨_, arB_wrap h, .int k (k.wrap (a * b)), fun _ _ => rfl, fun _ _ _ => rfl, fun w => by simp [eqGuard, binOp, Op.intArith]⟩
  case quo => exact ⟨_, h.2.2, .int k (a.tdiv b), fun _ _ => rfl, fun _ _ _ => rfl, fun w => by simp [eqGuard, binOp, Op.intDiv, h.1, inR_wrap h.2.1]⟩
  case rem => exact ⟨_, h.2, .int k (a.tmod b), fun _ _ => rfl, fun _ _ _ => rfl, fun w => by simp [eqGuard, binOp, Op.intDiv, h.1]⟩
  case eql => exact ⟨_, h, .bool (decide (a = b)), fun _ _ => rfl, fun _ _ _ => rfl, fun w => by simp [eqGuard, binOp, Op.intCmp]; rfl⟩
  case neq => exact ⟨_, h, .bool (!decide (a = b)), fun _ _ => rfl, fun _ _ _ => rfl, fun w => by simp [eqGuard, binOp, Op.intCmp]; rfl⟩
  case lss => exact ⟨_, h, .bool (decide (a < b)), fun _ _ => rfl, fun _ _ _ => rfl, fun w => by simp [eqGuard, binOp, Op.intCmp]⟩
  case leq => exact ⟨_, h, .bool (decide (a ≤ b)), fun _ _ => rfl, fun _ _ _ => rfl, fun w => by simp [eqGuard, binOp, Op.intCmp]⟩
  case gtr => exact ⟨_, h, .bool (decide (b < a)), fun _ _ => rfl, fun _ _ _ => rfl, fun w => by simp [eqGuard, binOp, Op.intCmp]⟩
  case geq => exact ⟨_, h, .bool (decide (b ≤ a)), fun _ _ => rfl, fun _ _ _ => rfl, fun w => by simp [eqGuard, binOp, Op.intCmp]⟩
  case shl =>
    obtain ⟨h1, h4⟩ := h
    exact ⟨_, h4, .int k (k.wrap (a * 2 ^ min b.toNat k.bits)), fun _ _ => rfl, fun _ _ _ => rfl, fun w => by simp [eqGuard, binOp, Op.shift, Int.not_lt.2 h1]⟩
  case shr =>
    obtain ⟨h1, h4⟩ := h
    exact ⟨_, h4, .int k (a.fdiv (2 ^ min b.toNat k.bits)), fun _ _ => rfl, fun _ _ _ => rfl, fun w => by simp [eqGuard, binOp, Op.shift, Int.not_lt.2 h1]⟩
  case and => exact ⟨_, h, .int k (k.wrap (BitVec.ofInt k.bits a &&& BitVec.ofInt k.bits b).toNat), fun _ _ => rfl, fun _ _ _ => rfl, fun w => by simp [eqGuard, binOp, Op.intBits]⟩
  case or => exact ⟨_, h, .int k (k.wrap (BitVec.ofInt k.bits a ||| BitVec.ofInt k.bits b).toNat), fun _ _ => rfl, fun _ _ _ => rfl, fun w => by simp [eqGuard, binOp, Op.intBits]⟩
  case xor => exact ⟨_, h, .int k (k.wrap (BitVec.ofInt k.bits a ^^^ BitVec.ofInt k.bits b).toNat), fun _ _ => rfl, fun _ _ _ => rfl, fun w => by simp [eqGuard, binOp, Op.intBits]⟩
end Go.Proofs.YtigciplaoikcfaaGreat
