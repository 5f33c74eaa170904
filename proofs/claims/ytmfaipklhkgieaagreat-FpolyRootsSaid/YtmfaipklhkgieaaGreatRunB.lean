/- Abstract operations as functions: what each yields, where all that it asks is known. -/
import Derived.Test.YtmfaipklhkgieaaGreatRunA
namespace Go.Proofs.YtmfaipklhkgieaaGreat
open Go.RowKit
def chkX {α : Type} (b : Bool) (p : Option α) : Option α := match b with
  | true => p
  | false => none
theorem chkX_some {α : Type} {b : Bool} {p : Option α} {r : α} (h : chkX b p = some r) : b = true ∧ p = some r := by
  cases b with
  | true => exact ⟨rfl, h⟩
  | false => cases h
theorem chk_mk {b : Bool} {p : Prop} (hb : b = true) (h : p) : chk b p := by subst hb; exact h
def inRX (k : IntKind) (n : Int) : Bool := match k with
  | .i64 => decide (-9223372036854775808 ≤ n) && decide (n < 9223372036854775808)
  | .u64 => decide (0 ≤ n) && decide (n < 18446744073709551616)
  | .u32 => decide (0 ≤ n) && decide (n < 4294967296)
  | k => decide (k.wrap n = n)
theorem inRX_ok {k : IntKind} {n : Int} (h : inRX k n = true) : inR k n := by
  cases k <;> simp only [inRX, inR, Bool.and_eq_true, decide_eq_true_eq] at h ⊢ <;> exact h
def arX (k : IntKind) (n : Int) : Option V := match k with
  | .u64 | .u32 | .u16 | .u8 => some (.c (.int k (k.wrap n)))
  | k => chkX (inRX k n) (some (.c (.int k n)))
theorem arX_ok {k : IntKind} {n : Int} {v : V} (h : arX k n = some v) {K : V → Prop} (hK : K v) : arB k n K := by
  cases k <;> simp only [arX] at h <;> simp only [arB] <;> first
    | (cases h; exact hK)
    | (obtain ⟨h1, h2⟩ := chkX_some h; cases h2; exact ⟨inRX_ok h1, hK⟩)
def binX (op : BinOp) (k : IntKind) (a b : Int) : Option V := match op with
  | .add => arX k (a + b)
  | .sub => arX k (a - b)
  | .mul => arX k (a * b)
  | .quo => chkX (!decide (b = 0) && inRX k (a.tdiv b)) (some (.c (.int k (a.tdiv b))))
  | .rem => chkX (!decide (b = 0)) (some (.c (.int k (a.tmod b))))
  | .eql => some (.c (.bool (decide (a = b))))
  | .neq => some (.c (.bool (!decide (a = b))))
  | .lss => some (.c (.bool (decide (a < b))))
  | .leq => some (.c (.bool (decide (a ≤ b))))
  | .gtr => some (.c (.bool (decide (b < a))))
  | .geq => some (.c (.bool (decide (b ≤ a))))
  | .shl => chkX (decide (0 ≤ b)) (some (.c (.int k (k.wrap (a * 2 ^ min b.toNat k.bits)))))
  | .shr => chkX (decide (0 ≤ b)) (some (.c (.int k (a.fdiv (2 ^ min b.toNat k.bits)))))
  | .and => some (.c (.int k (k.wrap (BitVec.ofInt k.bits a &&& BitVec.ofInt k.bits b).toNat)))
  | .or => some (.c (.int k (k.wrap (BitVec.ofInt k.bits a ||| BitVec.ofInt k.bits b).toNat)))
  | .xor => some (.c (.int k (k.wrap (BitVec.ofInt k.bits a ^^^ BitVec.ofInt k.bits b).toNat)))
  | _ => none
theorem binX_ok {op : BinOp} {k : IntKind} {a b : Int} {v : V} (h : binX op k a b = some v) {K : V → Prop} (hK : K v) : intBin op k a b K := by
  cases op <;> simp only [binX] at h <;> simp only [intBin]
  case add => exact arX_ok h hK
  case sub => exact arX_ok h hK
  case mul => exact arX_ok h hK
  case quo =>
    obtain ⟨h1, h2⟩ := chkX_some h; cases h2
    simp only [Bool.and_eq_true, Bool.not_eq_true', decide_eq_false_iff_not] at h1
    exact ⟨h1.1, inRX_ok h1.2, hK⟩
  case rem =>
    obtain ⟨h1, h2⟩ := chkX_some h; cases h2
    simp only [Bool.not_eq_true', decide_eq_false_iff_not] at h1
    exact ⟨h1, hK⟩
  case shl => obtain ⟨h1, h2⟩ := chkX_some h; cases h2; exact ⟨of_decide_eq_true h1, hK⟩
  case shr => obtain ⟨h1, h2⟩ := chkX_some h; cases h2; exact ⟨of_decide_eq_true h1, hK⟩
  all_goals (first | (cases h; done) | (cases h; exact hK))
def sliceX (bl : List Blk) (x : V) (lo hi : Option V) : Option V :=
  match (match lo with | none => some 0 | some (V.c (.int .i64 n)) => some n | _ => none), (match hi with | none => (lenA bl x).map Int.ofNat | some (V.c (.int .i64 n)) => some n | _ => none) with
  | some l, some h => chkX (decide (0 ≤ l) && decide (l ≤ h)) (match x with
    | .c (.row sz n f) => chkX (decide (h ≤ n)) (some (.c (.row sz (h - l).toNat fun i j => f (l.toNat + i) j)))
    | .c (.gs k u) => match bl[k]? with
      | some B => chkX (B.u == u && B.st.ble 1) (chkX (decide (h ≤ B.n)) (some (.c (.sl k u B.sz l.toNat (h - l).toNat))))
      | none => none
    | .c (.sl k u sz o n) => match bl[k]? with
      | some B => chkX (B.u == u && B.st.ble 1) (chkX (decide (h ≤ n)) (some (.c (.sl k u sz (o + l.toNat) (h - l).toNat))))
      | none => none
    | _ => none)
  | _, _ => none
theorem sliceX_ok {bl : List Blk} {x : V} {lo hi : Option V} {v : V} (h : sliceX bl x lo hi = some v) {K : V → Prop} (hK : K v) : sliceA bl x lo hi K := by
  unfold sliceX at h
  split at h
  · rename_i l hh e1 e2
    obtain ⟨h1, h⟩ := chkX_some h
    simp only [Bool.and_eq_true, decide_eq_true_eq] at h1
    unfold sliceA
    split
    · rename_i l' hh' e1' e2'
      have q1 : some l = some l' := e1.symm.trans e1'
      have q2 : some hh = some hh' := e2.symm.trans e2'
      cases q1
      cases q2
      refine ⟨h1.1, h1.2, ?_⟩
      split at h
      · obtain ⟨h2, h⟩ := chkX_some h
        cases h
        exact ⟨of_decide_eq_true h2, hK⟩
      · split at h
        · rename_i B hB
          obtain ⟨h2, h⟩ := chkX_some h
          obtain ⟨h3, h⟩ := chkX_some h
          cases h
          simp only [hB]
          exact chk_mk h2 ⟨of_decide_eq_true h3, hK⟩
        · cases h
      · split at h
        · rename_i B hB
          obtain ⟨h2, h⟩ := chkX_some h
          obtain ⟨h3, h⟩ := chkX_some h
          cases h
          simp only [hB]
          exact chk_mk h2 ⟨of_decide_eq_true h3, hK⟩
        · cases h
      · cases h
    · rename_i hno
      exact hno l hh e1 e2
  · cases h
/-- Contracts as a table: q. -/
def dopX (E : Env) (q : FuncId → List V → Option V) (o : Op) (σ : St) : Option V :=
  match o with
  | .move x | .assign x => some (σ.ev x)
  | .pick c a b => match σ.ev c with
    | .c (.bool true) => some (σ.ev a)
    | .c (.bool false) => some (σ.ev b)
    | _ => none
  | .load T x => match E.ty T with
    | some ti => chkX (ti.agg || ti.size == 1) (match σ.ev x with
      | .c (.p k u sz i o) => match σ.bl[k]? with
        | some B => chkX (B.u == u && (B.sz == sz && (B.st.ble 1 && (o + ti.size).ble sz))) (some (ofCells ti.agg ((List.range ti.size).map fun j => B.f i (o + j))))
        | none => none
      | .c (.xp m f) => chkX (ti.size.ble m) (some (ofCells ti.agg ((List.range ti.size).map f)))
      | _ => none)
    | none => none
  | .fieldAddr T x fld => match E.ty T with
    | some ti => match ti.offs[fld]? with
      | some (some (off, _)) => match σ.ev x with
        | .c (.p k u sz i o) => match σ.bl[k]? with
          | some B => chkX (B.u == u && B.st.ble 1) (some (.c (.p k u sz i (o + off))))
          | none => none
        | .c (.xp m f) => chkX (off.ble m) (some (.c (.xp (m - off) fun j => f (off + j))))
        | _ => none
      | _ => none
    | none => none
  | .indexAddr T x ix => match E.ty T with
    | some ti => match ti.elem with
      | some e => match E.ty e, σ.ev ix with
        | some te, .c (.int _ n) => chkX (decide (0 ≤ n)) (match σ.ev x with
          | .c (.row sz m f) => chkX (decide (n < m)) (chkX (te.size == sz) (some (.c (.xp sz (f n.toNat)))))
          | .c (.gs k u) => match σ.bl[k]? with
            | some B => chkX (decide (n < B.n)) (chkX (B.u == u && (B.st.ble 1 && te.size == B.sz)) (some (.c (.p k u B.sz n.toNat 0))))
            | none => none
          | .c (.sl k u sz o m) => match σ.bl[k]? with
            | some B => chkX (decide (n < m)) (chkX (B.u == u && (B.st.ble 1 && te.size == sz)) (some (.c (.p k u sz (o + n.toNat) 0))))
            | none => none
          | _ => none)
        | _, _ => none
      | none => none
    | none => none
  | .build T parts => match E.ty T with
    | some ti => match fillA σ.bl ti.offs ti.zero (parts.toList.map fun q => (q.1, σ.ev q.2)) with
      | some l => chkX (!ti.offs.isEmpty && ti.offs.all Option.isSome) (some (.g l))
      | none => none
    | none => none
  | .binOp op T x y _ => match σ.ev x, σ.ev y with
    | .c (.int k a), .c (.int k' b) => chkX (decide (k = k') || shiftB op) (binX op k a b)
    | .c (.bool a), .c (.bool b) => match E.ty T with
      | some ti => chkX (ti.kd == 1) (match op with
        | .eql => some (.c (.bool (a == b)))
        | .neq => some (.c (.bool (!(a == b))))
        | _ => none)
      | none => none
    | .c (.row _ n _), .c .nil => match E.ty T with
      | some ti => chkX (ti.elem.isSome && decide (0 < n)) (match op with
        | .eql => some (.c (.bool false))
        | .neq => some (.c (.bool true))
        | _ => none)
      | none => none
    | _, _ => none
  | .unOp op _ x => match op, σ.ev x with
    | .not, .c (.bool b) => some (.c (.bool !b))
    | .neg, .c (.int k n) => some (.c (.int k (k.wrap (-n))))
    | .xor, .c (.int k n) => some (.c (.int k (k.wrap (BitVec.ofInt k.bits (if k.signed then -1 else k.max) ^^^ BitVec.ofInt k.bits n).toNat)))
    | _, _ => none
  | .convert S T x => match E.ty S, E.ty T, σ.ev x with
    | some ts, some ti, .c (.int _ n) => match ts.ik, ti.ik with
      | some _, some k => some (.c (.int k (k.wrap n)))
      | _, _ => none
    | _, _, _ => none
  | .extract x i => extractA (σ.ev x) i
  | .slice T x lo hi none => match E.ty T with
    | some ti => match ti.elem with
      | some e => match E.ty e with
        | some te => chkX (match szA σ.bl (σ.ev x) with | some z => z == te.size | none => false) (sliceX σ.bl (σ.ev x) (lo.map σ.ev) (hi.map σ.ev))
        | none => none
      | none => none
    | none => none
  | .call { callee := .builtin .len, args, argTypes } => match args.toList, argTypes.toList with
    | [x], [T] => match E.ty T, lenA σ.bl (σ.ev x) with
      | some ti, some n => chkX ti.elem.isSome (some (.c (.int .i64 n)))
      | _, _ => none
    | _, _ => none
  | .call { callee := .builtin .max, args, .. } => match args.toList.map σ.ev with
    | [.c (.int k a), .c (.int _ b)] => some (.c (.int k (if b > a then b else a)))
    | _ => none
  | .call { callee := .builtin .min, args, .. } => match args.toList.map σ.ev with
    | [.c (.int k a), .c (.int _ b)] => some (.c (.int k (if b < a then b else a)))
    | _ => none
  | .call { callee := .value g, args, .. } => match calleeA σ g with
    | some f => chkX ((args.toList.map fun x => St.close σ.bl (σ.ev x)).all V.clos) (q f (args.toList.map fun x => St.close σ.bl (σ.ev x)))
    | none => match capsA σ g with
      | some (f, cs) => chkX (((args.toList.map fun x => St.close σ.bl (σ.ev x)) ++ cs.map fun c => V.c (St.closeC σ.bl c)).all V.clos) (q f ((args.toList.map fun x => St.close σ.bl (σ.ev x)) ++ cs.map fun c => V.c (St.closeC σ.bl c)))
      | none => none
  | .index T (.const (.string s)) ix => match E.ty T, σ.ev ix with
    | some ti, .c (.int _ n) => chkX (ti.kd == 2 && decide (0 ≤ n)) (match s[n.toNat]? with
      | some b => some (.c (.int .u8 (b.toNat : Int)))
      | none => none)
    | _, _ => none
  | .makeFunc (.func f) first captured => chkX (first.size == 0) (some (.c (.cl f captured.size (capC σ captured.toList))))
  | _ => none
set_option maxHeartbeats 1000000 in
theorem dopX_ok {E : Env} {q : FuncId → List V → Option V} (hq : ∀ f as X, q f as = some X → FnOK E.P E.r f as X) {o : Oper} {σ : St} {v : V} (h : dopX E q o.op σ = some v) {K : V → Prop} (hK : K v) : dop E o σ K := by
  unfold dop
  unfold dopX at h
  split at h
  case h_1 x hx => rw [hx]; cases h; exact hK
  case h_2 x hx => rw [hx]; cases h; exact hK
  case h_3 c a b hx =>
    rw [hx]
    simp only
    split at h
    · rename_i e; cases h; rw [e]; exact hK
    · rename_i e; cases h; rw [e]; exact hK
    · cases h
  case h_4 T x hx =>
    rw [hx]
    simp only
    split at h
    · rename_i ti ht
      rw [ht]
      obtain ⟨h1, h⟩ := chkX_some h
      refine chk_mk h1 ?_
      split at h
      · rename_i e
        rw [e]
        simp only
        split at h
        · rename_i B hB
          obtain ⟨h2, h⟩ := chkX_some h
          cases h
          simp only [hB]
          exact chk_mk h2 hK
        · cases h
      · rename_i e
        rw [e]
        obtain ⟨h2, h⟩ := chkX_some h
        cases h
        exact chk_mk h2 hK
      · cases h
    · cases h
  case h_5 T x fld hx =>
    rw [hx]
    simp only
    split at h
    · rename_i ti ht
      rw [ht]
      simp only
      split at h
      · rename_i off y ho
        rw [ho]
        simp only
        split at h
        · rename_i e
          rw [e]
          simp only
          split at h
          · rename_i B hB
            obtain ⟨h2, h⟩ := chkX_some h
            cases h
            simp only [hB]
            exact chk_mk h2 hK
          · cases h
        · rename_i e
          rw [e]
          obtain ⟨h2, h⟩ := chkX_some h
          cases h
          exact chk_mk h2 hK
        · cases h
      · cases h
    · cases h
  case h_6 T x ix hx =>
    rw [hx]
    simp only
    split at h
    · rename_i ti ht
      rw [ht]
      simp only
      split at h
      · rename_i e he
        rw [he]
        simp only
        split at h
        · rename_i te kk n hte hn
          rw [hte, hn]
          obtain ⟨h1, h⟩ := chkX_some h
          refine ⟨of_decide_eq_true h1, ?_⟩
          split at h
          · rename_i e1
            rw [e1]
            obtain ⟨h2, h⟩ := chkX_some h
            obtain ⟨h3, h⟩ := chkX_some h
            cases h
            exact ⟨of_decide_eq_true h2, chk_mk h3 hK⟩
          · rename_i e1
            rw [e1]
            simp only
            split at h
            · rename_i B hB
              obtain ⟨h2, h⟩ := chkX_some h
              obtain ⟨h3, h⟩ := chkX_some h
              cases h
              simp only [hB]
              exact ⟨of_decide_eq_true h2, chk_mk h3 hK⟩
            · cases h
          · rename_i e1
            rw [e1]
            simp only
            split at h
            · rename_i B hB
              obtain ⟨h2, h⟩ := chkX_some h
              obtain ⟨h3, h⟩ := chkX_some h
              cases h
              simp only [hB]
              exact ⟨of_decide_eq_true h2, chk_mk h3 hK⟩
            · cases h
          · cases h
        · cases h
      · cases h
    · cases h
  case h_7 T parts hx =>
    rw [hx]
    simp only
    split at h
    · rename_i ti ht
      rw [ht]
      simp only
      split at h
      · rename_i l hl
        rw [hl]
        obtain ⟨h2, h⟩ := chkX_some h
        cases h
        exact chk_mk h2 hK
      · cases h
    · cases h
  case h_8 op T x y T' hx =>
    rw [hx]
    simp only
    split at h
    · rename_i e1 e2
      rw [e1, e2]
      obtain ⟨h2, h⟩ := chkX_some h
      exact chk_mk h2 (binX_ok h hK)
    · rename_i e1 e2
      rw [e1, e2]
      simp only
      split at h
      · rename_i ti ht
        rw [ht]
        obtain ⟨h2, h⟩ := chkX_some h
        refine chk_mk h2 ?_
        unfold boolBin
        split at h
        · cases h; exact hK
        · cases h; exact hK
        · cases h
      · cases h
    · rename_i e1 e2
      rw [e1, e2]
      simp only
      split at h
      · rename_i ti ht
        rw [ht]
        obtain ⟨h2, h⟩ := chkX_some h
        simp only [Bool.and_eq_true, decide_eq_true_eq] at h2
        refine chk_mk h2.1 ⟨h2.2, ?_⟩
        unfold nilBin
        split at h
        · cases h; exact hK
        · cases h; exact hK
        · cases h
      · cases h
    · cases h
  case h_9 op T x hx =>
    rw [hx]
    simp only
    split at h
    · rename_i e; rw [e]; cases h; exact hK
    · rename_i e; rw [e]; cases h; exact hK
    · rename_i e; rw [e]; cases h; exact hK
    · cases h
  case h_10 S T x hx =>
    rw [hx]
    simp only
    split at h
    · rename_i e1 e2 e3
      rw [e1, e2, e3]
      simp only
      split at h
      · rename_i e4 e5
        rw [e4, e5]
        cases h; exact hK
      · cases h
    · cases h
  case h_11 x i hx =>
    rw [hx]
    simp only
    rw [h]
    exact hK
  case h_12 T x lo hi hx =>
    rw [hx]
    simp only
    split at h
    · rename_i ti ht
      rw [ht]
      simp only
      split at h
      · rename_i e he
        rw [he]
        simp only
        split at h
        · rename_i te hte
          rw [hte]
          obtain ⟨h2, h⟩ := chkX_some h
          exact chk_mk h2 (sliceX_ok h hK)
        · cases h
      · cases h
    · cases h
  case h_13 args ts hx =>
    rw [hx]
    simp only
    split at h
    · rename_i x T e1 e2
      rw [e1, e2]
      simp only
      split at h
      · rename_i ti n e3 e4
        rw [e3, e4]
        obtain ⟨h2, h⟩ := chkX_some h
        cases h
        exact chk_mk h2 hK
      · cases h
    · cases h
  case h_14 args ts hx =>
    rw [hx]
    simp only
    split at h
    · rename_i e; rw [e]; cases h; exact hK
    · cases h
  case h_15 args ts hx =>
    rw [hx]
    simp only
    split at h
    · rename_i e; rw [e]; cases h; exact hK
    · cases h
  case h_16 g args ts hx =>
    rw [hx]
    simp only
    split at h
    · rename_i f hf
      rw [hf]
      obtain ⟨h2, h⟩ := chkX_some h
      exact chk_mk h2 ⟨_, hq _ _ _ h, hK⟩
    · rename_i hf
      rw [hf]
      simp only
      split at h
      · rename_i f cs hcs
        rw [hcs]
        obtain ⟨h2, h⟩ := chkX_some h
        exact chk_mk h2 ⟨_, hq _ _ _ h, hK⟩
      · cases h
  case h_17 T s ix hx =>
    rw [hx]
    simp only
    split at h
    · rename_i e1 e2
      rw [e1, e2]
      obtain ⟨h2, h⟩ := chkX_some h
      simp only [Bool.and_eq_true, decide_eq_true_eq] at h2
      refine chk_mk h2.1 ⟨h2.2, ?_⟩
      split at h
      · rename_i b hb
        rw [hb]
        cases h; exact hK
      · cases h
    · cases h
  case h_18 f first captured hx =>
    rw [hx]
    obtain ⟨h2, h⟩ := chkX_some h
    cases h
    exact chk_mk h2 hK
  case h_19 => cases h
end Go.Proofs.YtmfaipklhkgieaaGreat
