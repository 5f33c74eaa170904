/- The evaluator with a table of calls; the runs of arith.Divisors and what stands on it. -/
import Derived.Test.YtigciplaoikcfaaGreatDvD
import Derived.Test.YtigciplaoikcfaaGreatSmC
import Derived.Test.YtigciplaoikcfaaGreatRunF
namespace Go.Proofs.YtigciplaoikcfaaGreat
open Go.RowKit
/-- Functions whose arguments are closed before the call, though they are run in their caller's blocks. -/
def clnY (f : FuncId) : Bool := [100].contains f
def opY (E : Env) (q : FuncId → List V → Option V) (qs : FuncId → List Blk → List V → Option (V × List Blk)) (inl : FuncId → Bool) (o : Oper) (σ : St) : Option St :=
  match o.op with
  | .call { callee := .value g, args, .. } => match calleeX σ g with
    | some (f, _) => match clnY f with
      | true => opX E q qs inl o (dfzL (args.toList.flatMap fun x => nmV (σ.ev x)) σ)
      | false => opX E q qs inl o σ
    | none => none
  | _ => opX E q qs inl o σ
theorem opY_ok {E : Env} (hE : EnvOK E) {q : FuncId → List V → Option V} {qs : FuncId → List Blk → List V → Option (V × List Blk)} (hq : ∀ f ags X, q f ags = some X → FnOK E.P E.r f ags X) (hqs : ∀ f bl ags X bl', qs f bl ags = some (X, bl') → FnS E.P E.r f bl ags X bl') {inl : FuncId → Bool} {o : Oper} {σ σ' : St} (h : opY E q qs inl o σ = some σ') : OpGo E o σ σ' := by
  unfold opY at h
  split at h
  · split at h
    · split at h
      · exact OpGo.lax (Lax.dfzL _ σ) (opX_ok hE hq hqs h)
      · exact opX_ok hE hq hqs h
    · cases h
  · exact opX_ok hE hq hqs h
def regY (E : Env) (q : FuncId → List V → Option V) (qs : FuncId → List Blk → List V → Option (V × List Blk)) (inl : FuncId → Bool) (ops : Array Oper) : List Oper → St → Option St
  | [], σ => some σ
  | o :: rest, σ => match o.guard with
    | none => match opY E q qs inl o σ with
      | some σ' => regY E q qs inl ops rest σ'
      | none => none
    | some (g, want) => match guardV σ ops g with
      | some (d, b) => match gw want b with
        | true => match opY E q qs inl o (σ.put (some d) (.c (.bool want))) with
          | some σ' => regY E q qs inl ops rest σ'
          | none => none
        | false => regY E q qs inl ops rest ((σ.put (some d) (.c (.bool !want))).put o.dst (.c .any))
      | none => none
theorem regY_ok {E : Env} (hE : EnvOK E) {q : FuncId → List V → Option V} {qs : FuncId → List Blk → List V → Option (V × List Blk)} (hq : ∀ f ags X, q f ags = some X → FnOK E.P E.r f ags X) (hqs : ∀ f bl ags X bl', qs f bl ags = some (X, bl') → FnS E.P E.r f bl ags X bl') {inl : FuncId → Bool} {ops : Array Oper} {C : Ctx} (hC : C.r = E.r) {Q : Exit → Act → World → Prop} {σ1 : St} (hQ : ∀ a w, Rel C σ1 a w → Q .normal a w) :
    ∀ (l : List Oper) (σ : St) (a : Act) (w : World), (∀ o ∈ l, dstOK C.N o.dst) → regY E q qs inl ops l σ = some σ1 → Rel C σ a w → wpList E.P ops Q l a w
  | [], σ, a, w, _, h, hr => by cases h; exact hQ a w hr
  | o :: rest, σ, a, w, hd, h, hr => by
    have ih := fun σ a w => regY_ok (inl := inl) (ops := ops) hE hq hqs hC hQ rest σ a w (fun o ho => hd o (by simp [ho]))
    unfold wpList
    simp only [regY] at h
    split at h
    · rename_i hg
      rw [if_pos (by simp [Region.wanted, hg])]
      split at h
      · rename_i σ2 h2
        exact .inl (opY_ok hE hq hqs h2 hC (hd o (by simp)) hr fun a' w' hrel => ih σ2 a' w' h hrel)
      · cases h
    · rename_i g want hg
      split at h
      · rename_i d b hgv
        obtain ⟨hy, hv, hlt, htm⟩ := guard_val (a := a) (w := w) hgv (by obtain ⟨ρ, hs, hN, hdf, hf⟩ := hr; exact fun d _ => ⟨_, ρ, hf d⟩)
        have hwt : Region.wanted o (yielded ops a.tmps) = (b == want) := by
          unfold Region.wanted
          rw [hg]
          simp only [hy]
          rfl
        rw [hwt]
        split at h
        · rename_i hb
          have e := gw_true.1 hb
          rw [if_pos (by simp [e])]
          split at h
          · rename_i σ2 h2
            refine .inl (opY_ok hE hq hqs h2 hC (hd o (by simp)) (put_same hr fun D ρ => ?_) fun a' w' hrel => ih σ2 a' w' h hrel)
            rw [hv, e]; rfl
          · cases h
        · rename_i hb
          have e' := gw_false.1 hb
          have e : ¬ b = want := by rw [e']; cases want <;> simp
          rw [if_neg (by simpa using e)]
          have h2 : Rel C (σ.put (some d) (.c (.bool !want))) a w := put_same hr fun D ρ => by rw [hv, e']; rfl
          obtain ⟨ρ, hs, hN, hdf, hf⟩ := h2
          exact ih _ _ _ h (Rel.put hs hN hdf hf (hd o (by simp)) trivial)
      · cases h
def loopY (N : Nat) (body : St → Option (Exit × St)) : Nat → St → Option (Exit × St)
  | 0, _ => none
  | n + 1, σ => fSt N σ fun σ => match body σ with
    | some (.normal, σ') => loopY N body n σ'
    | r => r
def codeY (E : Env) (q : FuncId → List V → Option V) (qs : FuncId → List Blk → List V → Option (V × List Blk)) (inl : FuncId → Bool) (N lf : Nat) : Code → St → Option (Exit × St)
  | .skip, σ => some (.normal, σ)
  | .region _ ops draw, σ => match draw with
    | true => match aheadX E q ops σ.bl.length ops.toList 0 { σ with bl := σ.bl ++ List.replicate (freshN ops.toList) phB } with
      | some σ' => some (.normal, σ')
      | none => none
    | false => match regY E q qs inl ops ops.toList σ with
      | some σ' => some (.normal, σ')
      | none => none
  | .seq a b, σ => match codeY E q qs inl N lf a σ with
    | some (.normal, σ') => codeY E q qs inl N lf b σ'
    | r => r
  | .cond c x y, σ => match σ.ev c with
    | .c (.bool true) => codeY E q qs inl N lf x σ
    | .c (.bool false) => codeY E q qs inl N lf y σ
    | _ => none
  | .block id c, σ => match codeY E q qs inl N lf c σ with
    | some (.exit i, σ') => match Nat.beq i id with
      | true => some (.normal, σ')
      | false => some (.exit i, σ')
    | r => r
  | .exit id, σ => some (.exit id, σ)
  | .ret, σ => some (.ret, σ)
  | .label _, σ => some (.normal, σ)
  | .loop c, σ => loopY N (codeY E q qs inl N lf c) lf σ
  | _, _ => none
/-- What a run comes to. -/
theorem codeY_ok {E : Env} (hE : EnvOK E) {q : FuncId → List V → Option V} {qs : FuncId → List Blk → List V → Option (V × List Blk)} (hq : ∀ f ags X, q f ags = some X → FnOK E.P E.r f ags X) (hqs : ∀ f bl ags X bl', qs f bl ags = some (X, bl') → FnS E.P E.r f bl ags X bl') {inl : FuncId → Bool} {N lf : Nat} (hm : E.P.follows .mixedOrders = true) {C : Ctx} (hC : C.r = E.r) :
    ∀ (c : Code) {σ : St} {r : Exit × St} {a : Act} {w : World}, codeB C.N c = true → codeY E q qs inl N lf c σ = some r → Rel C σ a w → c.wp E.P (QX C r) a w
  | .skip, σ, r, a, w, _, h, hr => by cases h; exact wp_skip ⟨rfl, hr⟩
  | .region id ops draw, σ, r, a, w, hc, h, hr => by
    simp only [codeB, Bool.and_eq_true] at hc
    simp only [codeY] at h
    cases draw with
    | true =>
      simp only at h
      split at h
      · rename_i σ' h1
        cases h
        refine adraw_sound hE hC (K := fun s => s = σ') hm (fun s a w hs hrel => ⟨rfl, by rw [← hs]; exact hrel⟩) hc.1 (by simpa using hc.2) ?_ hr
        exact aheadX_ok hq _ _ h1 rfl
      · cases h
    | false =>
      simp only at h
      split at h
      · rename_i σ' h1
        cases h
        refine wp_region_list (regY_ok hE hq hqs hC (fun a w hrel => ⟨rfl, hrel⟩) ops.toList σ a w (fun o ho d hd' => ?_) h1 hr)
        have := List.all_eq_true.1 hc.1 o ho
        unfold dstB at this
        rw [hd'] at this
        simpa using this
      · cases h
  | .seq x y, σ, r, a, w, hc, h, hr => by
    simp only [codeB, Bool.and_eq_true] at hc
    simp only [codeY] at h
    split at h
    · rename_i σ' h1
      refine wp_seq (wp_mono (codeY_ok hE hq hqs hm hC x hc.1 h1 hr) ?_)
      rintro e a' w' ⟨rfl, hrel⟩
      exact codeY_ok hE hq hqs hm hC y hc.2 h hrel
    · rename_i hno
      refine wp_seq (wp_mono (codeY_ok hE hq hqs hm hC x hc.1 h hr) ?_)
      rintro e a' w' ⟨rfl, hrel⟩
      obtain ⟨e, σ'⟩ := r
      cases e with
      | normal => exact absurd h (hno σ')
      | _ => exact ⟨rfl, hrel⟩
  | .cond c x y, σ, r, a, w, hc, h, hr => by
    simp only [codeB, Bool.and_eq_true] at hc
    simp only [codeY] at h
    have he : ∀ b, σ.ev c = .c (.bool b) → a.eval c = .bool b := by
      intro b hb
      obtain ⟨ρ, hs, hN, hdf, hf⟩ := hr
      have := ev_rel hf c
      rw [hb] at this
      exact this
    split at h
    · rename_i hb
      exact wp_cond_split (he _ hb) (fun _ => codeY_ok hE hq hqs hm hC x hc.1 h hr) (fun e => by cases e)
    · rename_i hb
      exact wp_cond_split (he _ hb) (fun e => by cases e) (fun _ => codeY_ok hE hq hqs hm hC y hc.2 h hr)
    · cases h
  | .block id c, σ, r, a, w, hc, h, hr => by
    simp only [codeB] at hc
    simp only [codeY] at h
    split at h
    · rename_i i σ' h1
      refine wp_block (wp_mono (codeY_ok hE hq hqs hm hC c hc h1 hr) ?_)
      rintro e a' w' ⟨rfl, hrel⟩
      simp only [Exit.inBlock]
      split at h
      · rename_i hb
        cases h
        rw [if_pos (Nat.eq_of_beq_eq_true hb)]
        exact ⟨rfl, hrel⟩
      · rename_i hb
        cases h
        rw [if_neg (Nat.ne_of_beq_eq_false hb)]
        exact ⟨rfl, hrel⟩
    · rename_i hno
      refine wp_block (wp_mono (codeY_ok hE hq hqs hm hC c hc h hr) ?_)
      rintro e a' w' ⟨rfl, hrel⟩
      obtain ⟨e, σ'⟩ := r
      cases e with
      | exit i => exact absurd h (hno i σ')
      | _ => exact ⟨rfl, hrel⟩
  | .exit id, σ, r, a, w, _, h, hr => by cases h; exact wp_exit ⟨rfl, hr⟩
  | .ret, σ, r, a, w, _, h, hr => by cases h; exact wp_ret ⟨rfl, hr⟩
  | .label l, σ, r, a, w, _, h, hr => by cases h; exact wp_label ⟨rfl, hr⟩
  | .loop c, σ, r, a, w, hc, h, hr => by
    simp only [codeB] at hc
    simp only [codeY] at h
    refine wp_loop_ghost (fun n a w => ∃ σ, Rel C σ a w ∧ loopY N (codeY E q qs inl N lf c) n σ = some r) lf ⟨σ, hr, h⟩ ?_
    rintro n a w ⟨σ1, hrel, hn⟩
    cases n with
    | zero => cases hn
    | succ n =>
      simp only [loopY, fSt_eq] at hn
      have hrel2 := Lax.nrm N σ1 C a w hrel
      split at hn
      · rename_i σ2 h2
        refine wp_mono (codeY_ok hE hq hqs hm hC c hc h2 hrel2) ?_
        rintro e a' w' ⟨rfl, hrel3⟩
        exact ⟨n, Nat.lt_succ_self n, σ2, hrel3, hn⟩
      · rename_i hno
        refine wp_mono (codeY_ok hE hq hqs hm hC c hc hn hrel2) ?_
        rintro e a' w' ⟨rfl, hrel3⟩
        obtain ⟨e, σ2⟩ := r
        cases e with
        | normal => exact absurd hn (hno σ2)
        | _ => exact ⟨rfl, hrel3⟩
  | .rangeFunc .., _, _, _, _, _, h, _ => by cases h
  | .scope _, _, _, _, _, _, h, _ => by cases h
  | .goto _, _, _, _, _, _, h, _ => by cases h
  | .refuse _, _, _, _, _, _, h, _ => by cases h
/-- A run of a function, some calls told by a table. -/
def runY (E : Env) (orc : FuncId → List V → Option V) (spc : FuncId → List Blk → List V → Option (V × List Blk)) (ok inl : FuncId → Bool) (lf : Nat) : Nat → FuncId → List Blk → List V → Option (V × List Blk)
  | 0, _, _, _ => none
  | d + 1, f, bl, ags => match spc f bl ags with
    | some r => some r
    | none => match ok f with
    | false => none
    | true => match E.P.funcs[f]? with
      | some fn => match fn.body with
        | some c => fVs ags fun ags => match codeY E (pureX orc (runY E orc spc ok inl lf d)) (runY E orc spc ok inl lf d) inl fn.ntmps lf c ⟨frame0 ags, bl⟩ with
          | some (e, σ) => match e with
            | .normal | .ret => match retV E σ fn.results.toList with
              | some v => fV v fun v => fBs σ.bl fun bl' => some (trimX v bl' bl.length)
              | none => none
            | _ => none
          | none => none
        | none => none
      | none => none
theorem runY_ok {E : Env} (hE : EnvOK E) (hm : E.P.follows .mixedOrders = true) {orc : FuncId → List V → Option V} (ho : ∀ f ags X, orc f ags = some X → FnOK E.P E.r f ags X) {spc : FuncId → List Blk → List V → Option (V × List Blk)} (hsp : ∀ f bl ags X bl', spc f bl ags = some (X, bl') → FnS E.P E.r f bl ags X bl') {ok inl : FuncId → Bool} (hok : ∀ f fn c, ok f = true → E.P.funcs[f]? = some fn → fn.body = some c → codeB fn.ntmps c = true ∧ hasBody E.P f = true) {lf : Nat} :
    ∀ (d : Nat) (f : FuncId) (bl : List Blk) (ags : List V) (X : V) (bl' : List Blk), runY E orc spc ok inl lf d f bl ags = some (X, bl') → FnS E.P E.r f bl ags X bl'
  | 0, _, _, _, _, _, h => by cases h
  | d + 1, f, bl, ags, X, bl', h => by
    simp only [runY] at h
    split at h
    · rename_i r hr
      cases h
      exact hsp _ _ _ _ _ hr
    split at h
    · cases h
    rename_i hokf
    split at h
    case h_2 => cases h
    rename_i fn hfn
    split at h
    case h_2 => cases h
    rename_i c hc
    rw [fVs_eq] at h
    split at h
    case h_2 => cases h
    rename_i e σ hrun
    obtain ⟨hcb, hbd⟩ := hok f fn c hokf hfn hc
    have ih := runY_ok hE hm ho hsp hok (inl := inl) (lf := lf) d
    refine ⟨hbd, fun D0 w0 ρ w vs hs hargs => ?_⟩
    refine calls_of_wp hfn hc ?_
    let C : Ctx := ⟨D0, w0, E.r, fn.ntmps, ρ⟩
    have hlen := hargs.length
    have hargs' := nrmVs_rel hargs
    have hrel : Rel C ⟨frame0 (ags.map nrmV), bl⟩ { tmps := vs.toArray ++ Array.replicate (fn.ntmps - vs.toArray.size) undef, defers := [] } w := by
      refine ⟨ρ, hs, ⟨by simp [C]; omega, LocsLe.refl _⟩, rfl, fun t => ?_⟩
      have h1 := hargs'.get t
      show VRel (Dof D0 ρ bl) w ρ ((ags.map nrmV).getD t (.c .any)) _
      rcases Nat.lt_or_ge t vs.length with hlt | hge
      · have : (vs.toArray ++ Array.replicate (fn.ntmps - vs.toArray.size) undef).getD t undef = vs.getD t undef := by
          rw [Array.getD_eq_getD_getElem?, Array.getElem?_append_left (by simpa using hlt)]
          simp [List.getD]
        rw [this]; exact h1
      · rw [show (ags.map nrmV).getD t (V.c .any) = .c .any by rw [List.getD, List.getElem?_eq_none (by simp; omega)]; rfl]
        trivial
    refine wp_mono (codeY_ok hE (pureX_ok ho ih) ih hm rfl c hcb hrun hrel) ?_
    rintro e' a w' ⟨rfl, hr⟩
    have fin : (match retV E σ fn.results.toList with
        | some v => fV v fun v => fBs σ.bl fun bl' => some (trimX v bl' bl.length)
        | none => none) = some (X, bl') → a.defers = [] ∧ ∃ v, (results fn a.tmps).run E.P w' = .ok v w' ∧ ∃ u ρ', Ending.returned v = .returned u ∧ Sat D0 w0 E.r ρ' bl' w' ∧ LocsLe ρ ρ' ∧ VRel (Dof D0 ρ' bl') w' ρ' X u := by
      intro hk
      split at hk
      · rename_i v hv
        rw [fV_eq, fBs_eq] at hk
        obtain ⟨ρ1, hs1, hN1, hdf1, hf1⟩ := hr
        obtain ⟨x, hx, hxr⟩ := ret_run hE hs1 hf1 hv
        have hrel2 : Rel ⟨D0, w0, E.r, 0, ρ⟩ ⟨asg [(0, v)], σ.bl⟩ ⟨#[x], []⟩ w' := by
          refine ⟨ρ1, hs1, ⟨Nat.zero_le _, hN1.2⟩, rfl, fun t => ?_⟩
          show VRel _ _ _ (if t = 0 then v else .c .any) _
          split
          · rename_i e; subst e; exact hxr
          · trivial
        obtain ⟨ρ2, hs2, hN2, _, hf2⟩ := Lax.nrm 1 _ _ _ _ hrel2
        have h3 : VRel (Dof D0 ρ2 (σ.bl.map nrmB)) w' ρ2 (nrmV v) x := hf2 0
        refine ⟨hdf1, x, hx, x, ?_⟩
        unfold trimX at hk
        split at hk
        · rename_i hb
          cases hk
          simp only [Bool.and_eq_true] at hb
          obtain ⟨t1, t2⟩ := hs2.take bl.length fun k B hk hB hst i j hi hj => by
            have hmem : B ∈ (σ.bl.map nrmB).take bl.length := List.mem_of_getElem? (by rw [List.getElem?_take_of_lt hk]; exact hB)
            have := List.all_eq_true.1 hb.2 B hmem
            simp only [hst, beq_self_eq_true, Bool.not_true, Bool.false_or] at this
            exact allIJ_ok this hi hj
          exact ⟨_, rfl, t1, hN2.2.take (Nat.le_of_eq hs.len), (h3.take hb.1).step (Ext.refl _ _) (fun b _ hb => t2 b hb) (LocsLe.refl _)⟩
        · cases hk
          exact ⟨ρ2, rfl, hs2, hN2.2, h3⟩
      · cases hk
    cases e' with
    | normal => exact fin h
    | ret => exact fin h
    | exit i => cases h
    | goto l => cases h
    | panic ch => cases h
    | outgrown => cases h

def valC : Cell → Int
  | .int .i64 x => x
  | _ => 0
def isI : Cell → Bool
  | .int .i64 _ => true
  | _ => false
theorem isI_ok {c : Cell} (h : isI c = true) : c = .int .i64 (valC c) := by
  unfold isI at h
  split at h
  · rfl
  · cases h
def isG (u : Nat) : Cell → Bool
  | .gs 0 v => v == u
  | _ => false
theorem isG_ok {u : Nat} {c : Cell} (h : isG u c = true) : c = .gs 0 u := by
  unfold isG at h
  split at h
  · rw [beq_iff_eq.1 h]
  · cases h
/-- What the call of Divisors$1 asks. -/
def dvB (B0 B1 : Blk) (p e : Int) : Bool :=
  B0.t == 3 && B0.sz == 1 && B0.st == 0 && B1.t == 44 && B1.sz == 1 && B1.n == 1 && B1.u == 0 && B1.st == 0 && isG B0.u (B1.f 0 0) && allIJ B0.n 1 (fun i _ => isI (B0.f i 0)) && decide (1 ≤ B0.n) && decide (B0.n ≤ 1000) && decide (0 ≤ e) && decide (e ≤ 1000) && allIJ B0.n e.toNat (fun i q => inRX .i64 (valC (B0.f i 0) * p ^ (q + 1))) && allIJ e.toNat 1 (fun q _ => inRX .i64 (p ^ (q + 1) * p))
def dvX (f : FuncId) (bl : List Blk) (ags : List V) : Option (V × List Blk) := match f == 96 with
  | false => none
  | true => match bl, ags with
    | [B0, B1], [.c (.int .i64 p), .c (.int .i64 e), .c (.p 1 0 1 0 0)] => match dvB B0 B1 p e with
      | true => some (.c .any, [⟨3, 1, B0.n * (e.toNat + 1), B0.u + 1, 0, fun i _ => .int .i64 (Dv.F B0.n (fun i => valC (B0.f i 0)) p i)⟩, ⟨44, 1, 1, 0, 0, fun _ _ => .gs 0 (B0.u + 1)⟩])
      | false => none
    | _, _ => none
theorem dvX_ok (f : FuncId) (bl : List Blk) (ags : List V) (X : V) (bl' : List Blk) (h : dvX f bl ags = some (X, bl')) : FnS Tryz.prog false f bl ags X bl' := by
  unfold dvX at h
  split at h
  · cases h
  rename_i hf
  split at h
  · rename_i B0 B1 p e
    split at h
    · rename_i hd
      cases h
      rw [beq_iff_eq.1 hf]
      unfold dvB at hd
      simp only [Bool.and_eq_true, beq_iff_eq, decide_eq_true_eq] at hd
      obtain ⟨⟨⟨⟨⟨⟨⟨⟨⟨⟨⟨⟨⟨⟨⟨a1, a2⟩, a3⟩, a4⟩, a5⟩, a6⟩, a7⟩, a8⟩, a9⟩, b1⟩, b2⟩, b3⟩, b4⟩, b5⟩, b6⟩, b7⟩ := hd
      obtain ⟨t0, s0, n0, u0, st0, f0⟩ := B0
      obtain ⟨t1, s1, n1, u1, st1, f1⟩ := B1
      simp only at a1 a2 a3 a4 a5 a6 a7 a8 a9 b1 b2 b3 b6
      subst a1 a2 a3 a4 a5 a6 a7 a8
      refine Dv.div_fnS ⟨b2, b3, b4, b5, fun i q hi hq => ?_, fun q hq => ?_⟩ (fun i j hi hj => ?_) fun i j hi hj => ?_
      · rw [Dv.F_low hi]
        exact inRX_ok (allIJ_ok b6 hi (show q < e.toNat by omega))
      · exact inRX_ok (allIJ_ok b7 (show q < e.toNat by omega) (Nat.zero_lt_one))
      · obtain rfl := Nat.lt_one_iff.1 hj
        show f0 i 0 = _
        rw [Dv.F_low hi]
        exact isI_ok (allIJ_ok b1 hi Nat.zero_lt_one)
      · obtain rfl := Nat.lt_one_iff.1 hi
        obtain rfl := Nat.lt_one_iff.1 hj
        exact isG_ok a9
    · cases h
  · cases h
/-- A run with the table, its result told by another value. -/
theorem runY_same {orc : FuncId → List V → Option V} (ho : ∀ f l X, orc f l = some X → FnOK Tryz.prog false f l X) {inl : FuncId → Bool} {f : FuncId} {args : List V} {Y : V} (h : (pureX orc (runY ER orc dvX okF inl 1000 40) f args).map (fun X => sameV X Y) = some true) : FnOK Tryz.prog false f args Y := by
  cases hx : pureX orc (runY ER orc dvX okF inl 1000 40) f args with
  | none => rw [hx] at h; cases h
  | some X =>
    rw [hx] at h
    have h : sameV X Y = true := by simpa using h
    have h1 := runY_ok (E := ER) ER_ok (by rw [ER_P]; exact mixedR) (by rw [ER_P, ER_r]; exact ho) (by rw [ER_P, ER_r]; exact dvX_ok) (by rw [ER_P]; exact okF_ok) (inl := inl) (lf := 1000) 40
    rw [ER_P, ER_r] at h1
    have hf := pureX_ok ho h1 f args X hx
    refine ⟨hf.1, fun D w vs h1 h2 h3 => (hf.2 D w vs h1 h2 h3).mono ?_⟩
    rintro e w' ⟨v, h4, h5, h6⟩
    exact ⟨v, h4, sameV_ok X Y h D w' v h5, h6⟩
end Go.Proofs.YtigciplaoikcfaaGreat
