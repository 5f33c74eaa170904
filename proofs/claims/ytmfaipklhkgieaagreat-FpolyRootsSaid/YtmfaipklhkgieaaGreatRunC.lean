/- Abstract operations that make or write blocks, as functions; regions whose order is open. -/
import Derived.Test.YtmfaipklhkgieaaGreatRunB
namespace Go.Proofs.YtmfaipklhkgieaaGreat
open Go.RowKit
def allIJ (n m : Nat) (p : Nat → Nat → Bool) : Bool := (List.range n).all fun i => (List.range m).all fun j => p i j
theorem allIJ_ok {n m : Nat} {p : Nat → Nat → Bool} (h : allIJ n m p = true) {i j : Nat} (hi : i < n) (hj : j < m) : p i j = true :=
  List.all_eq_true.1 (List.all_eq_true.1 h i (List.mem_range.2 hi)) j (List.mem_range.2 hj)
def appKX (E : Env) (dst : Option Nat) (σ : St) (k u : Nat) (e : TypeId) (te : TI) (y : V) : Option St :=
  match σ.bl[k]?, srcA σ.bl te.size k y with
  | some B, some (m, fy) => chkX (B.u == u && (B.st == 0 && (B.sz == te.size && B.t == e))) (chkX (decide (B.n + m ≤ 16777216) && allIJ m te.size fun i j => St.one σ.bl (fy i j) && (!E.r || (fy i j).noU)) (some (St.put { σ with bl := σ.bl.set k ⟨B.t, B.sz, B.n + m, B.u + 1, 0, appF B.n B.f fy⟩ } dst (.c (.gs k (u + 1))))))
  | _, _ => none
theorem appKX_ok {E : Env} {dst : Option Nat} {σ σ' : St} {k u : Nat} {e : TypeId} {te : TI} {y : V} (h : appKX E dst σ k u e te y = some σ') {K : St → Prop} (hK : K σ') : appK E dst σ k u e te y K := by
  unfold appKX at h
  unfold appK
  split at h
  · rename_i B m fy e1 e2
    rw [e1, e2]
    obtain ⟨h1, h⟩ := chkX_some h
    obtain ⟨h2, h⟩ := chkX_some h
    cases h
    simp only [Bool.and_eq_true, decide_eq_true_eq] at h2
    refine chk_mk h1 ⟨h2.1, fun i j hi hj => ?_, hK⟩
    have := allIJ_ok h2.2 hi hj
    simp only [Bool.and_eq_true, Bool.or_eq_true, Bool.not_eq_true'] at this
    exact ⟨this.1, fun hr => this.2.resolve_left (by rw [hr]; simp)⟩
  · cases h
def appX (E : Env) (dst : Option Nat) (σ : St) (args : List Operand) (ts : List TypeId) : Option St := match args, ts with
  | [x, y], [T, T'] => match E.ty T with
    | some ti => match ti.elem with
      | some e => match E.ty e with
        | some te => chkX (T == T' && (te.zero.length == te.size && ((1 : Nat).ble te.size && ((!E.r || te.zero.all Cell.noU) && te.bytes.ble 8388608)))) (match σ.ev x with
          | .c (.gs k u) => appKX E dst σ k u e te (σ.ev y)
          | .c .nil => appKX E dst (nilB σ e te.size) σ.bl.length 0 e te (σ.ev y)
          | _ => none)
        | none => none
      | none => none
    | none => none
  | _, _ => none
theorem appX_ok {E : Env} {dst : Option Nat} {σ σ' : St} {args : List Operand} {ts : List TypeId} (h : appX E dst σ args ts = some σ') {K : St → Prop} (hK : K σ') : appA E dst σ args ts K := by
  unfold appX at h
  unfold appA
  split at h
  · split at h
    · rename_i ti ht
      simp only [ht]
      split at h
      · rename_i e he
        simp only [he]
        split at h
        · rename_i te hte
          simp only [hte]
          obtain ⟨h1, h⟩ := chkX_some h
          refine chk_mk h1 ?_
          split at h
          · rename_i e1; rw [e1]; exact appKX_ok h hK
          · rename_i e1; rw [e1]; exact appKX_ok h hK
          · cases h
        · cases h
      · cases h
    · cases h
  · cases h
/-- A block that is frozen as it stands. -/
def frz1X (σ : St) (x : V) : Option St :=
  match x with
  | .c (.gs k _) | .c (.sl k _ _ _ _) | .c (.p k _ _ _ _) => match σ.bl[k]? with
    | some B => match B.st with
      | 0 => chkX (allIJ B.n B.sz fun i j => (B.f i j).clos) (some { σ with bl := σ.bl.set k { B with st := 1 } })
      | _ => some σ
    | none => some σ
  | _ => some σ
theorem frz1X_ok {σ σ' : St} {x : V} (h : frz1X σ x = some σ') {K : St → Prop} (hK : K σ') : frz1 σ x K := by
  unfold frz1X at h
  unfold frz1
  split at h
  all_goals first
    | (split at h
       · rename_i B hB
         simp only [hB]
         split at h
         · rename_i hst
           obtain ⟨h1, h⟩ := chkX_some h
           cases h
           rw [hst]
           exact ⟨fun i j hi hj => allIJ_ok h1 hi hj, hK⟩
         · rename_i hst
           cases h
           split
           · rename_i e; exact absurd e hst
           · exact hK
       · rename_i hB
         cases h
         simp only [hB]
         exact hK)
    | (rename_i h1 h2 h3
       cases h
       split
       · exact absurd rfl (h1 _ _)
       · exact absurd rfl (h2 _ _ _ _ _)
       · exact absurd rfl (h3 _ _ _ _ _)
       · exact hK)
def frzAX : List V → St → Option St
  | [], σ => some σ
  | x :: l, σ => match frz1X σ x with
    | some σ' => frzAX l σ'
    | none => none
theorem frzAX_ok : ∀ (l : List V) {σ σ' : St}, frzAX l σ = some σ' → ∀ {K : St → Prop}, K σ' → frzA l σ K
  | [], _, _, h, _, hK => by cases h; exact hK
  | x :: l, σ, σ', h, K, hK => by
    simp only [frzAX] at h
    split at h
    · rename_i σ1 h1
      exact frz1X_ok h1 (frzAX_ok l h hK)
    · cases h
def aopX (E : Env) (q : FuncId → List V → Option V) (o : Oper) (σ : St) : Option St :=
  match o.op with
  | .box T x => match cellsV σ.bl E.r (σ.ev x) with
    | some l => some ((σ.push ⟨T, l.length, 1, 0, 0, boxF l⟩).put o.dst (.c (.p σ.bl.length 0 l.length 0 0)))
    | none => none
  | .alloc T => match E.ty T with
    | some ti => match cellsV σ.bl E.r (.g ti.zero) with
      | some l => some ((σ.push ⟨T, l.length, 1, 0, 0, boxF l⟩).put o.dst (.c (.p σ.bl.length 0 l.length 0 0)))
      | none => none
    | none => none
  | .store T x y => match E.ty T, σ.ev x, cellsV σ.bl E.r (σ.ev y) with
    | some ti, .c (.p k u sz i o'), some l => match σ.bl[k]? with
      | some B => chkX (B.u == u && (B.sz == sz && (B.st == 0 && (l.length == ti.size && (o' + l.length).ble sz)))) (some (St.put { σ with bl := σ.bl.set k { B with f := updF B.f i o' l } } o.dst (.c .any)))
      | none => none
    | _, _, _ => none
  | .makeSlice T ln cp => match E.ty T with
    | some ti => match ti.elem with
      | some e => match E.ty e, σ.ev ln, σ.ev cp with
        | some te, .c (.int _ n), .c (.int _ c) => chkX (decide (0 ≤ n) && (decide (n ≤ c) && (decide (c ≤ 281474976710656) && (decide ((te.bytes : Int) * c ≤ 281474976710656) && te.zero.length == te.size)))) (match cellsV σ.bl E.r (.g te.zero) with
          | some l => some ((σ.push ⟨e, te.size, n.toNat, 0, 0, zeroF l⟩).put o.dst (.c (.gs σ.bl.length 0)))
          | none => none)
        | _, _, _ => none
      | none => none
    | none => none
  | .buildSlice T len parts => match E.ty T with
    | some ti => match ti.elem with
      | some e => match E.ty e with
        | some te => chkX (len.ble 16777216 && (len * te.size).ble 16777216) (match fillA σ.bl ((List.range len).map fun i => some (i * te.size, te.size)) (List.replicate (len * te.size) .any) (parts.toList.map fun q => (q.1, σ.ev q.2)) with
          | some l => match cellsV σ.bl E.r (.g l) with
            | some l => some ((σ.push ⟨e, te.size, len, 0, 0, rowF te.size l⟩).put o.dst (.c (.gs σ.bl.length 0)))
            | none => none
          | none => none)
        | none => none
      | none => none
    | none => none
  | .call { callee := .value g, args, .. } => match wrB σ g with
    | true => none
    | false => match frzAX (args.toList.flatMap fun x => partsV (σ.ev x)) σ with
      | some σ' => match dopX E q o.op σ' with
        | some v => some (σ'.put o.dst v)
        | none => none
      | none => none
  | .call { callee := .builtin .append, args, argTypes } => appX E o.dst σ args.toList argTypes.toList
  | op => match dopX E q op σ with
    | some v => some (σ.put o.dst v)
    | none => none
set_option maxHeartbeats 1000000 in
theorem aopX_ok {E : Env} {q : FuncId → List V → Option V} (hq : ∀ f as X, q f as = some X → FnOK E.P E.r f as X) {o : Oper} {σ σ' : St} (h : aopX E q o σ = some σ') {K : St → Prop} (hK : K σ') : aop E o σ K := by
  unfold aopX at h
  unfold aop
  split at h
  case h_1 T x hx =>
    rw [hx]
    simp only
    split at h
    · rename_i l hl
      rw [hl]
      cases h; exact hK
    · cases h
  case h_2 T hx =>
    rw [hx]
    simp only
    split at h
    · rename_i ti ht
      rw [ht]
      simp only
      split at h
      · rename_i l hl
        rw [hl]
        cases h; exact hK
      · cases h
    · cases h
  case h_3 T x y hx =>
    rw [hx]
    simp only
    split at h
    · rename_i e1 e2 e3
      rw [e1, e2, e3]
      simp only
      split at h
      · rename_i B hB
        obtain ⟨h1, h⟩ := chkX_some h
        cases h
        simp only [hB]
        exact chk_mk h1 hK
      · cases h
    · cases h
  case h_4 T ln cp hx =>
    rw [hx]
    simp only
    split at h
    · rename_i ti ht
      rw [ht]
      simp only
      split at h
      · rename_i e he
        rw [he]
        simp only
        split at h
        · rename_i e1 e2 e3
          rw [e1, e2, e3]
          obtain ⟨h1, h⟩ := chkX_some h
          simp only [Bool.and_eq_true, decide_eq_true_eq] at h1
          refine ⟨h1.1, h1.2.1, h1.2.2.1, h1.2.2.2.1, chk_mk h1.2.2.2.2 ?_⟩
          split at h
          · rename_i l hl
            rw [hl]
            cases h; exact hK
          · cases h
        · cases h
      · cases h
    · cases h
  case h_5 T len parts hx =>
    rw [hx]
    simp only
    split at h
    · rename_i ti ht
      rw [ht]
      simp only
      split at h
      · rename_i e he
        rw [he]
        simp only
        split at h
        · rename_i te hte
          rw [hte]
          obtain ⟨h1, h⟩ := chkX_some h
          refine chk_mk h1 ?_
          split at h
          · rename_i l hl
            rw [hl]
            simp only
            split at h
            · rename_i l' hl'
              rw [hl']
              cases h; exact hK
            · cases h
          · cases h
        · cases h
      · cases h
    · cases h
  case h_6 g args ts hx =>
    rw [hx]
    simp only
    split at h
    · cases h
    · rename_i e
      rw [e]
      simp only
      split at h
      · rename_i σ1 h1
        split at h
        · rename_i v hv
          cases h
          exact frzAX_ok _ h1 (dopX_ok hq hv hK)
        · cases h
      · cases h
  case h_7 args ts hx =>
    rw [hx]
    exact appX_ok h hK
  case h_8 h1 h2 h3 h4 h5 h6 h7 =>
    split at h
    · rename_i v hv
      cases h
      have hd := dopX_ok hq (o := o) hv (K := fun v => K (σ.put o.dst v)) hK
      split
      case h_1 hx => exact absurd hx (h1 _ _)
      case h_2 hx => exact absurd hx (h2 _)
      case h_3 hx => exact absurd hx (h3 _ _ _)
      case h_4 hx => exact absurd hx (h4 _ _ _)
      case h_5 hx => exact absurd hx (h5 _ _ _)
      case h_6 hx => exact absurd hx (h6 _ _ _)
      case h_7 hx => exact absurd hx (h7 _ _)
      case h_8 => exact hd
    · cases h
def appSX (E : Env) (σ : St) (fr : Nat) (args : List Operand) (ts : List TypeId) : Option (V × Option (Nat × Blk)) := match args, ts with
  | [x, y], [T, T'] => match E.ty T with
    | some ti => match ti.elem with
      | some e => match E.ty e with
        | some te => chkX (T == T' && (te.zero.length == te.size && ((1 : Nat).ble te.size && ((!E.r || te.zero.all Cell.noU) && te.bytes.ble 8388608)))) (match σ.ev x with
          | .c (.gs k u) => match σ.bl[k]?, srcA σ.bl te.size k (σ.ev y) with
            | some B, some (m, fy) => chkX (B.u == u && (B.st == 0 && (B.sz == te.size && B.t == e))) (chkX (decide (B.n + m ≤ 16777216) && allIJ m te.size fun i j => St.one [] (fy i j) && (!E.r || (fy i j).noU)) (some (.c (.gs k (u + 1)), some (k, ⟨B.t, B.sz, B.n + m, B.u + 1, 0, appF B.n B.f fy⟩))))
            | _, _ => none
          | .c .nil => match srcA σ.bl te.size fr (σ.ev y) with
            | some (m, fy) => chkX (decide (m ≤ 16777216) && allIJ m te.size fun i j => St.one [] (fy i j) && (!E.r || (fy i j).noU)) (some (.c (.gs fr 1), some (fr, ⟨e, te.size, 0 + m, 1, 0, appF 0 (fun _ _ => .any) fy⟩)))
            | none => none
          | _ => none)
        | none => none
      | none => none
    | none => none
  | _, _ => none
theorem appSX_ok {E : Env} {σ : St} {fr : Nat} {args : List Operand} {ts : List TypeId} {v : V} {ub : Option (Nat × Blk)} (h : appSX E σ fr args ts = some (v, ub)) {K : V → Option (Nat × Blk) → Prop} (hK : K v ub) : appS E σ fr args ts K := by
  have all : ∀ {m sz : Nat} {fy : Nat → Nat → Cell}, (allIJ m sz fun i j => St.one [] (fy i j) && (!E.r || (fy i j).noU)) = true → ∀ i j, i < m → j < sz → St.one [] (fy i j) = true ∧ (E.r = true → (fy i j).noU = true) := by
    intro m sz fy h i j hi hj
    have := allIJ_ok h hi hj
    simp only [Bool.and_eq_true, Bool.or_eq_true, Bool.not_eq_true'] at this
    exact ⟨this.1, fun hr => this.2.resolve_left (by rw [hr]; simp)⟩
  unfold appSX at h
  unfold appS
  split at h
  · split at h
    · rename_i ti ht
      simp only [ht]
      split at h
      · rename_i e he
        simp only [he]
        split at h
        · rename_i te hte
          simp only [hte]
          obtain ⟨h1, h⟩ := chkX_some h
          refine chk_mk h1 ?_
          split at h
          · rename_i e1
            rw [e1]
            simp only
            split at h
            · rename_i B m fy e2 e3
              rw [e2, e3]
              obtain ⟨h2, h⟩ := chkX_some h
              obtain ⟨h3, h⟩ := chkX_some h
              cases h
              simp only [Bool.and_eq_true, decide_eq_true_eq] at h3
              exact chk_mk h2 ⟨h3.1, all h3.2, hK⟩
            · cases h
          · rename_i e1
            rw [e1]
            simp only
            split at h
            · rename_i m fy e3
              rw [e3]
              obtain ⟨h3, h⟩ := chkX_some h
              cases h
              simp only [Bool.and_eq_true, decide_eq_true_eq] at h3
              exact ⟨h3.1, all h3.2, hK⟩
            · cases h
          · cases h
        · cases h
      · cases h
    · cases h
  · cases h
def sopX (E : Env) (q : FuncId → List V → Option V) (cl : Bool) (o : Oper) (σ : St) (fr : Nat) : Option (V × Option (Nat × Blk)) :=
  match o.op with
  | .box T x => match cellsV σ.bl E.r (σ.ev x) with
    | some l => some (.c (.p fr 1 l.length 0 0), some (fr, ⟨T, l.length, 1, 1, 0, boxF l⟩))
    | none => none
  | .alloc T => match E.ty T with
    | some ti => match cellsV σ.bl E.r (.g ti.zero) with
      | some l => some (.c (.p fr 1 l.length 0 0), some (fr, ⟨T, l.length, 1, 1, 0, boxF l⟩))
      | none => none
    | none => none
  | .store T x y => match E.ty T, σ.ev x, cellsV σ.bl E.r (σ.ev y) with
    | some ti, .c (.p k u sz i o'), some l => match σ.bl[k]? with
      | some B => chkX (B.u == u && (B.sz == sz && (B.st == 0 && (l.length == ti.size && (o' + l.length).ble sz)))) (some (.c .any, some (k, { B with f := updF B.f i o' l })))
      | none => none
    | _, _, _ => none
  | .makeSlice T ln cp => match E.ty T with
    | some ti => match ti.elem with
      | some e => match E.ty e, σ.ev ln, σ.ev cp with
        | some te, .c (.int _ n), .c (.int _ c) => chkX (decide (0 ≤ n) && (decide (n ≤ c) && (decide (c ≤ 281474976710656) && (decide ((te.bytes : Int) * c ≤ 281474976710656) && te.zero.length == te.size)))) (match cellsV σ.bl E.r (.g te.zero) with
          | some l => some (.c (.gs fr 1), some (fr, ⟨e, te.size, n.toNat, 1, 0, zeroF l⟩))
          | none => none)
        | _, _, _ => none
      | none => none
    | none => none
  | .buildSlice T len parts => match E.ty T with
    | some ti => match ti.elem with
      | some e => match E.ty e with
        | some te => chkX (len.ble 16777216 && (len * te.size).ble 16777216) (match fillA σ.bl ((List.range len).map fun i => some (i * te.size, te.size)) (List.replicate (len * te.size) .any) (parts.toList.map fun q => (q.1, σ.ev q.2)) with
          | some l => match cellsV σ.bl E.r (.g l) with
            | some l => match cl with
              | true => chkX (l.all Cell.clos) (some (.c (.row te.size len (rowF te.size l)), none))
              | false => some (.c (.gs fr 1), some (fr, ⟨e, te.size, len, 1, 0, rowF te.size l⟩))
            | none => none
          | none => none)
        | none => none
      | none => none
    | none => none
  | .call { callee := .value (.func f), args, argTypes } => match wrF f with
    | true => none
    | false => match frS f with
      | true => none
      | false => match dopX E q (.call { callee := .value (.func f), args, argTypes }) σ with
        | some v => some (v, none)
        | none => none
  | .call { callee := .builtin .append, args, argTypes } => appSX E σ fr args.toList argTypes.toList
  | op => match dopX E q op σ with
    | some v => some (v, none)
    | none => none
set_option maxHeartbeats 1000000 in
theorem sopX_ok {E : Env} {q : FuncId → List V → Option V} (hq : ∀ f as X, q f as = some X → FnOK E.P E.r f as X) {cl : Bool} {o : Oper} {σ : St} {fr : Nat} {v : V} {ub : Option (Nat × Blk)} (h : sopX E q cl o σ fr = some (v, ub)) {K : V → Option (Nat × Blk) → Prop} (hK : K v ub) : sop E o σ fr K := by
  unfold sopX at h
  unfold sop
  split at h
  case h_1 T x hx =>
    rw [hx]
    simp only
    split at h
    · rename_i l hl
      rw [hl]
      cases h; exact hK
    · cases h
  case h_2 T hx =>
    rw [hx]
    simp only
    split at h
    · rename_i ti ht
      rw [ht]
      simp only
      split at h
      · rename_i l hl
        rw [hl]
        cases h; exact hK
      · cases h
    · cases h
  case h_3 T x y hx =>
    rw [hx]
    simp only
    split at h
    · rename_i e1 e2 e3
      rw [e1, e2, e3]
      simp only
      split at h
      · rename_i B hB
        obtain ⟨h1, h⟩ := chkX_some h
        cases h
        simp only [hB]
        exact chk_mk h1 hK
      · cases h
    · cases h
  case h_4 T ln cp hx =>
    rw [hx]
    simp only
    split at h
    · rename_i ti ht
      rw [ht]
      simp only
      split at h
      · rename_i e he
        rw [he]
        simp only
        split at h
        · rename_i e1 e2 e3
          rw [e1, e2, e3]
          obtain ⟨h1, h⟩ := chkX_some h
          simp only [Bool.and_eq_true, decide_eq_true_eq] at h1
          refine ⟨h1.1, h1.2.1, h1.2.2.1, h1.2.2.2.1, chk_mk h1.2.2.2.2 ?_⟩
          split at h
          · rename_i l hl
            rw [hl]
            cases h; exact hK
          · cases h
        · cases h
      · cases h
    · cases h
  case h_5 T len parts hx =>
    rw [hx]
    simp only
    split at h
    · rename_i ti ht
      rw [ht]
      simp only
      split at h
      · rename_i e he
        rw [he]
        simp only
        split at h
        · rename_i te hte
          rw [hte]
          obtain ⟨h1, h⟩ := chkX_some h
          refine chk_mk h1 ?_
          split at h
          · rename_i l hl
            rw [hl]
            simp only
            split at h
            · rename_i l' hl'
              rw [hl']
              split at h
              · obtain ⟨h2, h⟩ := chkX_some h
                cases h
                exact .inr ⟨h2, hK⟩
              · cases h; exact .inl hK
            · cases h
          · cases h
        · cases h
      · cases h
    · cases h
  case h_6 f args ts hx =>
    rw [hx]
    simp only
    split at h
    · cases h
    · rename_i e
      rw [e]
      simp only
      split at h
      · cases h
      · rename_i e2
        rw [e2]
        simp only
        split at h
        · rename_i v' hv
          have hv' : dopX E q o.op σ = some v' := by rw [hx]; exact hv
          cases h
          exact dopX_ok hq hv' hK
        · cases h
  case h_7 args ts hx =>
    rw [hx]
    exact appSX_ok h hK
  case h_8 h1 h2 h3 h4 h5 h6 h7 =>
    split at h
    · rename_i v' hv
      cases h
      have hd := dopX_ok hq (o := o) hv (K := fun v => K v none) hK
      split
      case h_1 hx => exact absurd hx (h1 _ _)
      case h_2 hx => exact absurd hx (h2 _)
      case h_3 hx => exact absurd hx (h3 _ _ _)
      case h_4 hx => exact absurd hx (h4 _ _ _)
      case h_5 hx => exact absurd hx (h5 _ _ _)
      case h_6 hx => exact absurd hx (h6 _ _ _)
      case h_7 hx => exact absurd hx (h7 _ _)
      case h_8 => exact hd
    · cases h
/-- A slice that is made for a call alone. -/
def isTmp (d : Nat) : Operand → Bool
  | .tmp t => Nat.beq t d
  | _ => false
def argOnlyF (ops : Array Oper) : Nat → Option Nat → Bool
  | 0, _ => false
  | _, none => false
  | k + 1, some d => ops.any fun o => match o.op with
    | .call { callee := .value _, args, .. } => args.any (isTmp d)
    | .buildSlice _ _ parts | .build _ parts => (parts.any fun p => isTmp d p.2) && argOnlyF ops k o.dst
    | _ => false
def argOnly (ops : Array Oper) (dst : Option Nat) : Bool := argOnlyF ops 4 dst
/-- A region whose order is open, in the order of the text. -/
def aheadX (E : Env) (q : FuncId → List V → Option V) (ops : Array Oper) (n0 : Nat) : List Oper → Nat → St → Option St
  | [], _, σ => some σ
  | o :: rest, i, σ => match o.guard with
    | none => match sopX E q (argOnly ops o.dst) o σ (n0 + i) with
      | some (v, ub) => aheadX E q ops n0 rest (i + 1) (St.put { σ with bl := setO σ.bl ub } o.dst v)
      | none => none
    | some (g, want) => match guardV σ ops g with
      | some (_, b) => match gw want b with
        | true => match sopX E q (argOnly ops o.dst) o σ (n0 + i) with
          | some (v, ub) => aheadX E q ops n0 rest (i + 1) (St.put { σ with bl := setO σ.bl ub } o.dst v)
          | none => none
        | false => aheadX E q ops n0 rest (i + 1) (σ.put o.dst (.c .any))
      | none => none
theorem aheadX_ok {E : Env} {q : FuncId → List V → Option V} (hq : ∀ f as X, q f as = some X → FnOK E.P E.r f as X) {ops : Array Oper} {n0 : Nat} : ∀ (l : List Oper) (i : Nat) {σ σ' : St}, aheadX E q ops n0 l i σ = some σ' → ∀ {K : St → Prop}, K σ' → ahead E ops n0 l i σ K
  | [], _, _, _, h, _, hK => by cases h; exact hK
  | o :: rest, i, σ, σ', h, K, hK => by
    simp only [aheadX] at h
    rw [ahead_eq]
    split at h
    · rename_i hg
      rw [hg]
      simp only
      split at h
      · rename_i v ub hs
        exact sopX_ok hq hs (K := fun v ub => ahead E ops n0 rest (i + 1) (St.put { σ with bl := setO σ.bl ub } o.dst v) K) (aheadX_ok hq rest (i + 1) h hK)
      · cases h
    · rename_i g want hg
      rw [hg]
      simp only
      split at h
      · rename_i d b hgv
        rw [hgv]
        simp only
        split at h
        · rename_i hb
          rw [hb]
          rw [← gw_true.1 hb, guard_same hgv]
          split at h
          · rename_i v ub hs
            exact sopX_ok hq hs (K := fun v ub => ahead E ops n0 rest (i + 1) (St.put { σ with bl := setO σ.bl ub } o.dst v) K) (aheadX_ok hq rest (i + 1) h hK)
          · cases h
        · rename_i hb
          rw [hb]
          rw [← gw_false.1 hb, guard_same hgv]
          exact aheadX_ok hq rest (i + 1) h hK
      · cases h
end Go.Proofs.YtmfaipklhkgieaaGreat
