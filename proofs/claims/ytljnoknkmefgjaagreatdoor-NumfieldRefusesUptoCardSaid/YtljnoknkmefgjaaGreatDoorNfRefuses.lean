/- The law NumfieldRefuses answers true whatever its arguments are, as long as they are of bulk at most 1048576 together; it leaves them as they were. No other condition. -/
import Derived.Test.YtljnoknkmefgjaaGreatDoorNfG
import Derived.Test.YtljnoknkmefgjaaGreatDoorNfCl
import Derived.Test.YtljnoknkmefgjaaGreatDoorCards
import Derived.Test.YtljnoknkmefgjaaGreatDoorTie
import Derived.JoinedCond
import Derived.Deep.DeepHandedRow
import Derived.Lib.LaidTab
namespace Go.Proofs.YtljnoknkmefgjaaGreatDoor.numfieldRefuses
open Go.ChangeShapes Go.WideShapes Go.ChangeAt Go.RowKit
set_option maxRecDepth 100000 in
theorem contract (H : Type) (enc : TypeId × Value → H) (W : World) (base : Nat) (args : Array Value) (ds gs : List (DataW H)) (before : List MemPlace)
    (hval0 : ∀ (j : Nat) t v, Tryz.f3.params[j]? = some t → args[j]? = some v → Value.okWide Tryz.prog W .any base t v)
    (hW : DataW.Whole enc Tryz.prog Tryz.f3.params.toList Rows.numfieldRefusesSpec.vars false W args.toList ds gs before) (hk : Rows.uptoSmall H (ds ++ gs) = true) :
    Calls Tryz.prog 3 args W fun e W' => ∃ v, e = .returned v ∧ Rows.numfieldRefusesSpec.post enc Tryz.prog Tryz.f3 false true false false W args v W' := by
  have hW' := hW
  have hlt := fun p hp => hW.lt p hp
  obtain ⟨p, q, hA0, hV, rfl, hfz, hnd⟩ := hW
  have hA : DataW.TrodAll enc Tryz.prog W 0 (fun _ => true) true Tryz.f3.params.toList args.toList ds p := hA0
  have hval : ∀ (j : Nat) t v, Tryz.f3.params[j]? = some t → args[j]? = some v → Value.okWide Tryz.prog W .any base t v := hval0
  rw [Tryz.params3] at hA hval
  obtain ⟨v0, vs0, d0, ds0, p0, q0, hargs, rfl, rfl, h0, r0⟩ := trodAll_cons hA
  obtain ⟨v1, vs1, d1, ds1, p1, q1, rfl, rfl, rfl, h1, r1⟩ := trodAll_cons r0
  obtain ⟨v2, vs2, d2, ds2, p2, q2, rfl, rfl, rfl, h2, r2⟩ := trodAll_cons r1
  obtain ⟨rfl, rfl, rfl⟩ := trodAll_nil r2
  obtain rfl : args = #[v0, v1, v2] := by cases args; simp_all
  obtain ⟨rfl, rfl⟩ := trodVars_none hV
  have hk0 : Rows.uptoBulk d0 ≤ 1048576 := by
    have h : Rows.uptoBulkAll (([d0, d1, d2] : List (DataW H)) ++ []) ≤ 1048576 := of_decide_eq_true hk
    simp only [List.append_nil, Rows.uptoBulkAll] at h
    omega
  refine (walk_NumfieldRefuses (hval 0 _ _ rfl rfl) h0 (hval 1 _ _ rfl rfl) h1 (hval 2 _ _ rfl rfl) h2 hk0).mono fun e W' ⟨he, hb⟩ => ?_
  subst he
  exact ⟨_, rfl, post_below hW' (fun _ _ _ => trodAll_cons_mk (shut_bool Tryz.underlying4 _) trodAll_mk0) (fun sp hsp => (trodAll_cons_mk (Below.trodS lawLaid (by kernel_rfl) (by decide +kernel) h0 hb (fun x hx => hlt x (List.mem_append_left _ (List.mem_append_left _ hx))) (fun x hx => hsp x (List.mem_append_left _ (List.mem_append_left _ hx)))) (trodAll_cons_mk (Below.trodS lawLaid (by kernel_rfl) (by decide +kernel) h1 hb (fun x hx => hlt x (List.mem_append_left _ (List.mem_append_right _ (List.mem_append_left _ hx)))) (fun x hx => hsp x (List.mem_append_left _ (List.mem_append_right _ (List.mem_append_left _ hx))))) (trodAll_cons_mk (Below.trodS lawLaid (by kernel_rfl) (by decide +kernel) h2 hb (fun x hx => hlt x (List.mem_append_left _ (List.mem_append_right _ (List.mem_append_right _ (List.mem_append_left _ hx))))) (fun x hx => hsp x (List.mem_append_left _ (List.mem_append_right _ (List.mem_append_right _ (List.mem_append_left _ hx)))))) trodAll_mk0)))) (fun _ _ => rfl) rfl hb (ok_one (by kernel_rfl) rfl (okWide_bool_mk Tryz.underlying4 _))⟩
/- A world for the witness: the settled one, the listed variables holding what the row says. -/
def litV : DataW Unit → Value
  | .lit (.int k n) => .int k n
  | _ => .int .u8 0
def rowV : DataW Unit → Array Value
  | .agg l => (l.map litV).toArray
  | _ => #[]
noncomputable def laidWorld (os : Os) : World :=
  { World.holding Tryz.prog os ⟨#[], #[], []⟩ with heap := ((((World.holding Tryz.prog os ⟨#[], #[], []⟩).heap.modify 2 fun o => match o with
      | .cells _ t frozen => .cells (rowV Rows.laid_math_bits_deBruijn32tab) t frozen
      | o => o).modify 3 fun o => match o with
      | .cells _ t frozen => .cells (rowV Rows.laid_math_bits_deBruijn64tab) t frozen
      | o => o).modify 1 fun o => match o with
      | .cells _ t frozen => .cells (rowV Rows.laid_internal_strconv_uint64pow10) t frozen
      | o => o) }
abbrev inp : Input := ⟨#[], #[.agg #[.slice none 0 0], .slice none 0 0, .slice none 0 0], []⟩
set_option maxRecDepth 100000 in
theorem laid_met (os : Os) : laidMet Tryz.prog Rows.numfieldRefusesUptoRow.laid ((laidWorld os).forCall (fun _ _ => 0) inp).memory :=
  laidMet_of_run' 8 (by kernel_rfl) (by kernel_rfl)
set_option maxRecDepth 100000 in
theorem reads (os : Os) {H : Type} (enc : TypeId × Value → H) : ∃ places, DataW.whole enc Tryz.prog ((laidWorld os).forCall (fun _ _ => 0) inp).memory Tryz.f3.params.toList Rows.numfieldRefusesSpec.vars false #[.agg #[.slice none 0 0], .slice none 0 0, .slice none 0 0].toList 8 = some ([.agg [.nil], .nil, .nil], [], places) :=
  ⟨[], by kernel_rfl⟩
set_option maxRecDepth 100000 in
theorem liftedUpto (os : Os) (started : os.Started) (H : Type) (enc : TypeId × Value → H) (F : Stop.Interp) :
    ReturnsInHanded {} Tryz.checked os 3 .any ((Rows.OpenSpec.upto Rows.numfieldRefusesSpec).preRow enc Tryz.prog Tryz.f3 Rows.numfieldRefusesUptoRow.domain false Rows.numfieldRefusesUptoRow.laid) (((Rows.OpenSpec.upto Rows.numfieldRefusesSpec).at F).post enc Tryz.prog Tryz.f3 false true false false) := by
  obtain ⟨places, hx⟩ := reads os enc
  refine returnsInHanded_of_row (C := Tryz.checked) (s := Rows.OpenSpec.upto Rows.numfieldRefusesSpec) lawOwn started (by kernel_rfl) Tryz.func3
    (witness_row_at (enc := enc) (C := Tryz.checked) false (laidWorld os) #[.agg #[.slice none 0 0], .slice none 0 0, .slice none 0 0] rfl (by kernel_rfl) (by kernel_rfl) (by kernel_rfl)
      (OpenSpec.preRow_of_cond 8 hx (by kernel_rfl) (fun k hk => by cases hk; kernel_rfl) (by kernel_rfl) (laid_met os))) ?_
  intro W base args ds gs before hval hW _ hcond _ hL _ _
  exact contract H enc W base args ds gs before hval hW (hcond _ rfl)
set_option maxRecDepth 100000 in
theorem saidUpto : Rows.NumfieldRefusesUptoSaid :=
  OpenClaim.holds_of_cond 3 Tryz.f3 rfl rfl rfl rfl rfl rfl rfl ⟨rfl, rfl, rfl, rfl, rfl⟩ rfl rfl rfl rfl rfl (by kernel_rfl) Tryz.func3 closed
    (of_decide_eq_true (by kernel_rfl)) (by unfold Func.isWrapper; first | (rw [if_pos (by decide +kernel)]; kernel_rfl) | (rw [if_neg (by decide +kernel)]; exact ⟨rfl, rfl⟩))
    (fun os started H enc _ F => by rw [OpenClaim.pre_eq_preRow]; exact liftedUpto os started H enc F)
set_option maxRecDepth 100000 in
theorem plain (f : FuncId) (fn : Func) (hf : Tryz.pinned.checked.prog.funcNamed "halfplane/halfplanelaw14.NumfieldRefuses" = some f) (hfn : Tryz.pinned.checked.prog.funcs[f]? = some fn) :
    false = Tryz.pinned.checked.prog.looks [] ∧ ∀ (j : Nat) t, fn.params[j]? = some t → Tryz.pinned.checked.prog.wantsStandIn t = false := by
  obtain rfl : f = 3 := Option.some.inj ((show Tryz.prog.funcNamed "halfplane/halfplanelaw14.NumfieldRefuses" = some 3 by kernel_rfl).symm.trans hf) |>.symm
  obtain rfl : fn = Tryz.f3 := (Option.some.inj (Tryz.func3.symm.trans hfn)).symm
  refine ⟨by kernel_rfl, fun j t ht => ?_⟩
  rw [Tryz.params3] at ht
  have h : t = 25 ∨ t = 27 := by simpa using Array.mem_of_getElem? ht
  rcases h with rfl | rfl
  · exact (show Tryz.prog.wantsStandIn 25 = false by kernel_rfl)
  · exact (show Tryz.prog.wantsStandIn 27 = false by kernel_rfl)
set_option maxRecDepth 100000 in
theorem cardUpto : Rows.NumfieldRefusesUptoCardSaid :=
  Claim7.holds_tied_plain_at .later [] _ _ _ _ saidUpto (fun _ h => by cases h) (by kernel_rfl) (fun _ h => by cases h) numfieldRefusesUpto_row_tie rfl ⟨rfl, rfl⟩ (by kernel_rfl) rfl plain (by kernel_rfl)
end Go.Proofs.YtljnoknkmefgjaaGreatDoor.numfieldRefuses
namespace Go.Proofs.YtljnoknkmefgjaaGreatDoor
theorem numfieldRefuses_holds : Rows.NumfieldRefusesUptoCardSaid := numfieldRefuses.cardUpto
#print axioms numfieldRefuses_holds
end Go.Proofs.YtljnoknkmefgjaaGreatDoor
