/-
  No cell of these rows narrows 'for every input' (looked for: loops, veiled, ifaces, maps, wideKeys, modest, calm, conditions, laid).
  DERIVED. THE GIVEN ROWS OF THIS SEAT. 7 by the template 'for every input the law returns true; each argument reads behind the call as it read before'; 0 by the template 'total and deterministic' (their statements: YtmbejakmeijcbaaGreatTotals.lean).
  GIVEN WITH THE SEED: the statements are not yours to turn. If you find one false, say at which input.
  Laid BY PROGRAM, IN A SANDBOX (cutbox-rows.mjs): the forced cells as the released guide's own fill.sh prints them over the translation d1cff8c28be15b19… (all of the seat's roots in one cut). By AI agents, Wed Nov 11 2026. No macro, syntax, notation, axiom, sorry.
-/
import Derived.Test.YtmbejakmeijcbaaGreatChecked
import GoSem.Claim
import GoSem.ClaimJoined
import GoSem.ClaimMapViews
import Derived.JoinedTies
import Derived.KernelRfl
namespace Go.Proofs.YtmbejakmeijcbaaGreat
/- THE CELL 'sum', in the pinned program and in every row, IS THE sha256 OF THE DUMP (.gsa) THAT YtmbejakmeijcbaaGreatProg.lean LOADS. Nothing in Lean hashes anything: it is a label: what it is worth is what the hold of that sum in a sandbox is worth. -/
noncomputable def Tryz.pinned : Pinned := { name := "ytmbejakmeijcbaagreat", sum := "d1cff8c28be15b19356a505bd4b74633ebeae6ce45e6c73b9476be25c6ebf5ab", checked := Tryz.checked }
namespace Rows
def none {H : Type} : Left H := { results := [], args := [] }

/-- 'halfplanelaw15.CyclotomicZetas': WHATEVER THE INPUT: true; the input reads as it did. -/
def cyclotomicZetasSpec : ChangeSpec := { name := "cyclotomicZetas", fn := fun _ => fun
  | [d1, d2, d3] => { results := [.lit (.bool true)], args := [d1, d2, d3] }
  | _ => none }
def cyclotomicZetasRow : OpenClaim := { program := "ytmbejakmeijcbaagreat", sum := "d1cff8c28be15b19356a505bd4b74633ebeae6ce45e6c73b9476be25c6ebf5ab", func := "halfplane/halfplanelaw15.CyclotomicZetas", spec := "cyclotomicZetas", unfollowed := true, recurses := true, named := ["math/bits.overflowError"], apart := false }
def CyclotomicZetasSaid : Prop := cyclotomicZetasRow.holds Tryz.pinned (OpenSpec.ofChange cyclotomicZetasSpec)

/-- ITS FALSE NEIGHBOUR: 'it returns false'. Refute it at one input. -/
def cyclotomicZetasWrong : ChangeSpec := { name := "cyclotomicZetas", fn := fun _ => fun
  | [d1, d2, d3] => { results := [.lit (.bool false)], args := [d1, d2, d3] }
  | _ => none }
def CyclotomicZetasWrongFalsely : Prop := cyclotomicZetasRow.holds Tryz.pinned (OpenSpec.ofChange cyclotomicZetasWrong)

/-- 'halfplanelaw15.CyclotomicRoots': WHATEVER THE INPUT: true; the input reads as it did. -/
def cyclotomicRootsSpec : ChangeSpec := { name := "cyclotomicRoots", fn := fun _ => fun
  | [d1, d2] => { results := [.lit (.bool true)], args := [d1, d2] }
  | _ => none }
def cyclotomicRootsRow : OpenClaim := { program := "ytmbejakmeijcbaagreat", sum := "d1cff8c28be15b19356a505bd4b74633ebeae6ce45e6c73b9476be25c6ebf5ab", func := "halfplane/halfplanelaw15.CyclotomicRoots", spec := "cyclotomicRoots", unfollowed := true, recurses := true, named := ["math/bits.overflowError"], apart := false }
def CyclotomicRootsSaid : Prop := cyclotomicRootsRow.holds Tryz.pinned (OpenSpec.ofChange cyclotomicRootsSpec)

/-- ITS FALSE NEIGHBOUR: 'it returns false'. Refute it at one input. -/
def cyclotomicRootsWrong : ChangeSpec := { name := "cyclotomicRoots", fn := fun _ => fun
  | [d1, d2] => { results := [.lit (.bool false)], args := [d1, d2] }
  | _ => none }
def CyclotomicRootsWrongFalsely : Prop := cyclotomicRootsRow.holds Tryz.pinned (OpenSpec.ofChange cyclotomicRootsWrong)

/-- 'halfplanelaw15.CyclotomicGalois': WHATEVER THE INPUT: true; the input reads as it did. -/
def cyclotomicGaloisSpec : ChangeSpec := { name := "cyclotomicGalois", fn := fun _ => fun
  | [d] => { results := [.lit (.bool true)], args := [d] }
  | _ => none }
def cyclotomicGaloisRow : OpenClaim := { program := "ytmbejakmeijcbaagreat", sum := "d1cff8c28be15b19356a505bd4b74633ebeae6ce45e6c73b9476be25c6ebf5ab", func := "halfplane/halfplanelaw15.CyclotomicGalois", spec := "cyclotomicGalois", unfollowed := true, recurses := true, named := ["math/bits.overflowError"], apart := false }
def CyclotomicGaloisSaid : Prop := cyclotomicGaloisRow.holds Tryz.pinned (OpenSpec.ofChange cyclotomicGaloisSpec)

/-- ITS FALSE NEIGHBOUR: 'it returns false'. Refute it at one input. -/
def cyclotomicGaloisWrong : ChangeSpec := { name := "cyclotomicGalois", fn := fun _ => fun
  | [d] => { results := [.lit (.bool false)], args := [d] }
  | _ => none }
def CyclotomicGaloisWrongFalsely : Prop := cyclotomicGaloisRow.holds Tryz.pinned (OpenSpec.ofChange cyclotomicGaloisWrong)

/-- 'halfplanelaw15.CyclotomicLifts': WHATEVER THE INPUT: true; the input reads as it did. -/
def cyclotomicLiftsSpec : ChangeSpec := { name := "cyclotomicLifts", fn := fun _ => fun
  | [d] => { results := [.lit (.bool true)], args := [d] }
  | _ => none }
def cyclotomicLiftsRow : OpenClaim := { program := "ytmbejakmeijcbaagreat", sum := "d1cff8c28be15b19356a505bd4b74633ebeae6ce45e6c73b9476be25c6ebf5ab", func := "halfplane/halfplanelaw15.CyclotomicLifts", spec := "cyclotomicLifts", unfollowed := true, recurses := true, named := ["math/bits.overflowError"], apart := false }
def CyclotomicLiftsSaid : Prop := cyclotomicLiftsRow.holds Tryz.pinned (OpenSpec.ofChange cyclotomicLiftsSpec)

/-- ITS FALSE NEIGHBOUR: 'it returns false'. Refute it at one input. -/
def cyclotomicLiftsWrong : ChangeSpec := { name := "cyclotomicLifts", fn := fun _ => fun
  | [d] => { results := [.lit (.bool false)], args := [d] }
  | _ => none }
def CyclotomicLiftsWrongFalsely : Prop := cyclotomicLiftsRow.holds Tryz.pinned (OpenSpec.ofChange cyclotomicLiftsWrong)

/-- 'halfplanelaw15.CyclotomicTraces': WHATEVER THE INPUT: true; the input reads as it did. -/
def cyclotomicTracesSpec : ChangeSpec := { name := "cyclotomicTraces", fn := fun _ => fun
  | [d1, d2] => { results := [.lit (.bool true)], args := [d1, d2] }
  | _ => none }
def cyclotomicTracesRow : OpenClaim := { program := "ytmbejakmeijcbaagreat", sum := "d1cff8c28be15b19356a505bd4b74633ebeae6ce45e6c73b9476be25c6ebf5ab", func := "halfplane/halfplanelaw15.CyclotomicTraces", spec := "cyclotomicTraces", unfollowed := true, recurses := true, named := ["math/bits.overflowError"], apart := false }
def CyclotomicTracesSaid : Prop := cyclotomicTracesRow.holds Tryz.pinned (OpenSpec.ofChange cyclotomicTracesSpec)

/-- ITS FALSE NEIGHBOUR: 'it returns false'. Refute it at one input. -/
def cyclotomicTracesWrong : ChangeSpec := { name := "cyclotomicTraces", fn := fun _ => fun
  | [d1, d2] => { results := [.lit (.bool false)], args := [d1, d2] }
  | _ => none }
def CyclotomicTracesWrongFalsely : Prop := cyclotomicTracesRow.holds Tryz.pinned (OpenSpec.ofChange cyclotomicTracesWrong)

/-- 'halfplanelaw15.CyclotomicRefuses': WHATEVER THE INPUT: true; the input reads as it did. -/
def cyclotomicRefusesSpec : ChangeSpec := { name := "cyclotomicRefuses", fn := fun _ => fun
  | [d1, d2, d3] => { results := [.lit (.bool true)], args := [d1, d2, d3] }
  | _ => none }
def cyclotomicRefusesRow : OpenClaim := { program := "ytmbejakmeijcbaagreat", sum := "d1cff8c28be15b19356a505bd4b74633ebeae6ce45e6c73b9476be25c6ebf5ab", func := "halfplane/halfplanelaw15.CyclotomicRefuses", spec := "cyclotomicRefuses", unfollowed := true, recurses := true, named := ["math/bits.overflowError"], apart := false }
def CyclotomicRefusesSaid : Prop := cyclotomicRefusesRow.holds Tryz.pinned (OpenSpec.ofChange cyclotomicRefusesSpec)

/-- ITS FALSE NEIGHBOUR: 'it returns false'. Refute it at one input. -/
def cyclotomicRefusesWrong : ChangeSpec := { name := "cyclotomicRefuses", fn := fun _ => fun
  | [d1, d2, d3] => { results := [.lit (.bool false)], args := [d1, d2, d3] }
  | _ => none }
def CyclotomicRefusesWrongFalsely : Prop := cyclotomicRefusesRow.holds Tryz.pinned (OpenSpec.ofChange cyclotomicRefusesWrong)

/-- 'halfplanelaw15.CyclotomicFixed': WHATEVER THE INPUT: true; the input reads as it did. -/
def cyclotomicFixedSpec : ChangeSpec := { name := "cyclotomicFixed", fn := fun _ => fun
  | [d1, d2] => { results := [.lit (.bool true)], args := [d1, d2] }
  | _ => none }
def cyclotomicFixedRow : OpenClaim := { program := "ytmbejakmeijcbaagreat", sum := "d1cff8c28be15b19356a505bd4b74633ebeae6ce45e6c73b9476be25c6ebf5ab", func := "halfplane/halfplanelaw15.CyclotomicFixed", spec := "cyclotomicFixed", unfollowed := true, recurses := true, named := ["math/bits.overflowError"], apart := false }
def CyclotomicFixedSaid : Prop := cyclotomicFixedRow.holds Tryz.pinned (OpenSpec.ofChange cyclotomicFixedSpec)

/-- ITS FALSE NEIGHBOUR: 'it returns false'. Refute it at one input. -/
def cyclotomicFixedWrong : ChangeSpec := { name := "cyclotomicFixed", fn := fun _ => fun
  | [d1, d2] => { results := [.lit (.bool false)], args := [d1, d2] }
  | _ => none }
def CyclotomicFixedWrongFalsely : Prop := cyclotomicFixedRow.holds Tryz.pinned (OpenSpec.ofChange cyclotomicFixedWrong)

/- THE SECOND FORM. 'bulk': how many values and letters a reading holds, each counted each time it is reached (what is shared counts as often as it is met; a slice's spare places count too). A statement '..UptoSaid' is the law's where the arguments, and the package variables that the reading takes, are together of bulk at most 1048576: NARROWER than '..Said'. Prove '..Said' where nothing that the law and all that it calls make is longer than what came in: it says more and counts as full. Else prove '..UptoSaid'. A law counts once. -/
mutual
def uptoBulk {H : Type} : DataW H → Nat
  | .lit (.string bytes) => bytes.length + 1
  | .lit _ => 1
  | .nil => 1
  | .ptr d => uptoBulk d + 1
  | .slice elems spare => uptoBulkAll elems + uptoBulkAll spare + 1
  | .agg parts => uptoBulkAll parts + 1
  | .iface _ d => uptoBulk d + 1
  | .map entries => uptoBulkEntries entries + 1
  | .held _ => 1
def uptoBulkAll {H : Type} : List (DataW H) → Nat
  | [] => 0
  | d :: r => uptoBulk d + uptoBulkAll r
def uptoBulkEntries {H : Type} : List (Lit × DataW H) → Nat
  | [] => 0
  | x :: r => uptoBulkEntry x + uptoBulkEntries r
def uptoBulkEntry {H : Type} : Lit × DataW H → Nat
  | (.string bytes, d) => bytes.length + uptoBulk d + 1
  | (_, d) => uptoBulk d + 1
 end
def uptoSmall : (H : Type) → List (DataW H) → Bool := fun _ ds => decide (uptoBulkAll ds ≤ 1048576)
def OpenSpec.upto (s : _root_.Go.ChangeSpec) : _root_.Go.OpenSpec := { _root_.Go.OpenSpec.ofChange s with cond := some uptoSmall }

/-- 'halfplanelaw15.CyclotomicZetas', WHERE WHAT IT READS IS OF BULK AT MOST 1048576: true; the input reads as it did. -/
def cyclotomicZetasUptoRow : OpenClaim := { program := "ytmbejakmeijcbaagreat", sum := "d1cff8c28be15b19356a505bd4b74633ebeae6ce45e6c73b9476be25c6ebf5ab", func := "halfplane/halfplanelaw15.CyclotomicZetas", spec := "cyclotomicZetas", unfollowed := true, recurses := true, named := ["math/bits.overflowError"], apart := false, narrowed := true }
def CyclotomicZetasUptoSaid : Prop := cyclotomicZetasUptoRow.holds Tryz.pinned (OpenSpec.upto cyclotomicZetasSpec)

/-- 'halfplanelaw15.CyclotomicRoots', WHERE WHAT IT READS IS OF BULK AT MOST 1048576: true; the input reads as it did. -/
def cyclotomicRootsUptoRow : OpenClaim := { program := "ytmbejakmeijcbaagreat", sum := "d1cff8c28be15b19356a505bd4b74633ebeae6ce45e6c73b9476be25c6ebf5ab", func := "halfplane/halfplanelaw15.CyclotomicRoots", spec := "cyclotomicRoots", unfollowed := true, recurses := true, named := ["math/bits.overflowError"], apart := false, narrowed := true }
def CyclotomicRootsUptoSaid : Prop := cyclotomicRootsUptoRow.holds Tryz.pinned (OpenSpec.upto cyclotomicRootsSpec)

/-- 'halfplanelaw15.CyclotomicGalois', WHERE WHAT IT READS IS OF BULK AT MOST 1048576: true; the input reads as it did. -/
def cyclotomicGaloisUptoRow : OpenClaim := { program := "ytmbejakmeijcbaagreat", sum := "d1cff8c28be15b19356a505bd4b74633ebeae6ce45e6c73b9476be25c6ebf5ab", func := "halfplane/halfplanelaw15.CyclotomicGalois", spec := "cyclotomicGalois", unfollowed := true, recurses := true, named := ["math/bits.overflowError"], apart := false, narrowed := true }
def CyclotomicGaloisUptoSaid : Prop := cyclotomicGaloisUptoRow.holds Tryz.pinned (OpenSpec.upto cyclotomicGaloisSpec)

/-- 'halfplanelaw15.CyclotomicLifts', WHERE WHAT IT READS IS OF BULK AT MOST 1048576: true; the input reads as it did. -/
def cyclotomicLiftsUptoRow : OpenClaim := { program := "ytmbejakmeijcbaagreat", sum := "d1cff8c28be15b19356a505bd4b74633ebeae6ce45e6c73b9476be25c6ebf5ab", func := "halfplane/halfplanelaw15.CyclotomicLifts", spec := "cyclotomicLifts", unfollowed := true, recurses := true, named := ["math/bits.overflowError"], apart := false, narrowed := true }
def CyclotomicLiftsUptoSaid : Prop := cyclotomicLiftsUptoRow.holds Tryz.pinned (OpenSpec.upto cyclotomicLiftsSpec)

/-- 'halfplanelaw15.CyclotomicTraces', WHERE WHAT IT READS IS OF BULK AT MOST 1048576: true; the input reads as it did. -/
def cyclotomicTracesUptoRow : OpenClaim := { program := "ytmbejakmeijcbaagreat", sum := "d1cff8c28be15b19356a505bd4b74633ebeae6ce45e6c73b9476be25c6ebf5ab", func := "halfplane/halfplanelaw15.CyclotomicTraces", spec := "cyclotomicTraces", unfollowed := true, recurses := true, named := ["math/bits.overflowError"], apart := false, narrowed := true }
def CyclotomicTracesUptoSaid : Prop := cyclotomicTracesUptoRow.holds Tryz.pinned (OpenSpec.upto cyclotomicTracesSpec)

/-- 'halfplanelaw15.CyclotomicRefuses', WHERE WHAT IT READS IS OF BULK AT MOST 1048576: true; the input reads as it did. -/
def cyclotomicRefusesUptoRow : OpenClaim := { program := "ytmbejakmeijcbaagreat", sum := "d1cff8c28be15b19356a505bd4b74633ebeae6ce45e6c73b9476be25c6ebf5ab", func := "halfplane/halfplanelaw15.CyclotomicRefuses", spec := "cyclotomicRefuses", unfollowed := true, recurses := true, named := ["math/bits.overflowError"], apart := false, narrowed := true }
def CyclotomicRefusesUptoSaid : Prop := cyclotomicRefusesUptoRow.holds Tryz.pinned (OpenSpec.upto cyclotomicRefusesSpec)

/-- 'halfplanelaw15.CyclotomicFixed', WHERE WHAT IT READS IS OF BULK AT MOST 1048576: true; the input reads as it did. -/
def cyclotomicFixedUptoRow : OpenClaim := { program := "ytmbejakmeijcbaagreat", sum := "d1cff8c28be15b19356a505bd4b74633ebeae6ce45e6c73b9476be25c6ebf5ab", func := "halfplane/halfplanelaw15.CyclotomicFixed", spec := "cyclotomicFixed", unfollowed := true, recurses := true, named := ["math/bits.overflowError"], apart := false, narrowed := true }
def CyclotomicFixedUptoSaid : Prop := cyclotomicFixedUptoRow.holds Tryz.pinned (OpenSpec.upto cyclotomicFixedSpec)

end Rows
end Go.Proofs.YtmbejakmeijcbaaGreat
