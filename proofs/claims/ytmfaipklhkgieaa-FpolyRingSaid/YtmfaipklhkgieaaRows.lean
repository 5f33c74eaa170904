/-
  No cell of these rows narrows 'for every input' (looked for: loops, veiled, ifaces, maps, wideKeys, modest, calm, conditions, laid).
  DERIVED. THE GIVEN ROWS OF THIS SEAT. 4 by the template 'for every input the law returns true; each argument reads behind the call as it read before'; 0 by the template 'total and deterministic' (their statements: YtmfaipklhkgieaaTotals.lean).
  GIVEN WITH THE SEED: the statements are not yours to turn. If you find one false, say at which input.
  Laid BY PROGRAM, IN A SANDBOX (cutbox-rows.mjs): the forced cells as the released guide's own fill.sh prints them over the translation e914e2a5d6c1bc6f… (all of the seat's roots in one cut). By AI agents, Wed Nov 11 2026. No macro, syntax, notation, axiom, sorry.
-/
import Derived.Test.YtmfaipklhkgieaaChecked
import GoSem.Claim
import GoSem.ClaimJoined
import GoSem.ClaimMapViews
import Derived.JoinedTies
import Derived.KernelRfl
namespace Go.Proofs.Ytmfaipklhkgieaa
/- THE CELL 'sum', in the pinned program and in every row, IS THE sha256 OF THE DUMP (.gsa) THAT YtmfaipklhkgieaaProg.lean LOADS. Nothing in Lean hashes anything: it is a label: what it is worth is what the hold of that sum in a sandbox is worth. -/
noncomputable def Try.pinned : Pinned := { name := "ytmfaipklhkgieaa", sum := "e914e2a5d6c1bc6fed8ed8305b1a3b1f2c36e102c0430402d8f11319ecad98c9", checked := Try.checked }
namespace Rows
def none {H : Type} : Left H := { results := [], args := [] }

/-- 'halfplanelaw04.FpolyDivides': WHATEVER THE INPUT: true; the input reads as it did. -/
def fpolyDividesSpec : ChangeSpec := { name := "fpolyDivides", fn := fun _ => fun
  | [d] => { results := [.lit (.bool true)], args := [d] }
  | _ => none }
def fpolyDividesRow : OpenClaim := { program := "ytmfaipklhkgieaa", sum := "e914e2a5d6c1bc6fed8ed8305b1a3b1f2c36e102c0430402d8f11319ecad98c9", func := "halfplane/halfplanelaw04.FpolyDivides", spec := "fpolyDivides", unfollowed := true, recurses := true, named := ["math/bits.overflowError"], apart := false }
def FpolyDividesSaid : Prop := fpolyDividesRow.holds Try.pinned (OpenSpec.ofChange fpolyDividesSpec)

/-- ITS FALSE NEIGHBOUR: 'it returns false'. Refute it at one input. -/
def fpolyDividesWrong : ChangeSpec := { name := "fpolyDivides", fn := fun _ => fun
  | [d] => { results := [.lit (.bool false)], args := [d] }
  | _ => none }
def FpolyDividesWrongFalsely : Prop := fpolyDividesRow.holds Try.pinned (OpenSpec.ofChange fpolyDividesWrong)

/-- 'halfplanelaw04.FpolyBezout': WHATEVER THE INPUT: true; the input reads as it did. -/
def fpolyBezoutSpec : ChangeSpec := { name := "fpolyBezout", fn := fun _ => fun
  | [d] => { results := [.lit (.bool true)], args := [d] }
  | _ => none }
def fpolyBezoutRow : OpenClaim := { program := "ytmfaipklhkgieaa", sum := "e914e2a5d6c1bc6fed8ed8305b1a3b1f2c36e102c0430402d8f11319ecad98c9", func := "halfplane/halfplanelaw04.FpolyBezout", spec := "fpolyBezout", unfollowed := true, recurses := true, named := ["math/bits.overflowError"], apart := false }
def FpolyBezoutSaid : Prop := fpolyBezoutRow.holds Try.pinned (OpenSpec.ofChange fpolyBezoutSpec)

/-- ITS FALSE NEIGHBOUR: 'it returns false'. Refute it at one input. -/
def fpolyBezoutWrong : ChangeSpec := { name := "fpolyBezout", fn := fun _ => fun
  | [d] => { results := [.lit (.bool false)], args := [d] }
  | _ => none }
def FpolyBezoutWrongFalsely : Prop := fpolyBezoutRow.holds Try.pinned (OpenSpec.ofChange fpolyBezoutWrong)

/-- 'halfplanelaw04.FpolyRing': WHATEVER THE INPUT: true; the input reads as it did. -/
def fpolyRingSpec : ChangeSpec := { name := "fpolyRing", fn := fun _ => fun
  | [d] => { results := [.lit (.bool true)], args := [d] }
  | _ => none }
def fpolyRingRow : OpenClaim := { program := "ytmfaipklhkgieaa", sum := "e914e2a5d6c1bc6fed8ed8305b1a3b1f2c36e102c0430402d8f11319ecad98c9", func := "halfplane/halfplanelaw04.FpolyRing", spec := "fpolyRing", unfollowed := true, recurses := true, named := ["math/bits.overflowError"], apart := false }
def FpolyRingSaid : Prop := fpolyRingRow.holds Try.pinned (OpenSpec.ofChange fpolyRingSpec)

/-- ITS FALSE NEIGHBOUR: 'it returns false'. Refute it at one input. -/
def fpolyRingWrong : ChangeSpec := { name := "fpolyRing", fn := fun _ => fun
  | [d] => { results := [.lit (.bool false)], args := [d] }
  | _ => none }
def FpolyRingWrongFalsely : Prop := fpolyRingRow.holds Try.pinned (OpenSpec.ofChange fpolyRingWrong)

/-- 'halfplanelaw04.FpolyOperations': WHATEVER THE INPUT: true; the input reads as it did. -/
def fpolyOperationsSpec : ChangeSpec := { name := "fpolyOperations", fn := fun _ => fun
  | [d] => { results := [.lit (.bool true)], args := [d] }
  | _ => none }
def fpolyOperationsRow : OpenClaim := { program := "ytmfaipklhkgieaa", sum := "e914e2a5d6c1bc6fed8ed8305b1a3b1f2c36e102c0430402d8f11319ecad98c9", func := "halfplane/halfplanelaw04.FpolyOperations", spec := "fpolyOperations", unfollowed := true, recurses := true, named := ["math/bits.overflowError"], apart := false }
def FpolyOperationsSaid : Prop := fpolyOperationsRow.holds Try.pinned (OpenSpec.ofChange fpolyOperationsSpec)

/-- ITS FALSE NEIGHBOUR: 'it returns false'. Refute it at one input. -/
def fpolyOperationsWrong : ChangeSpec := { name := "fpolyOperations", fn := fun _ => fun
  | [d] => { results := [.lit (.bool false)], args := [d] }
  | _ => none }
def FpolyOperationsWrongFalsely : Prop := fpolyOperationsRow.holds Try.pinned (OpenSpec.ofChange fpolyOperationsWrong)

/- THE SECOND FORM. 'bulk': how many values and letters a reading holds, each counted each time it is reached (what is shared counts as often as it is met; a slice's spare places count too). A statement '..UptoSaid' is the law's where the arguments, and the package variables that the reading takes, are together of bulk at most 1048576: NARROWER than '..Said'. Prove '..Said' where nothing that the law and all that it calls make is longer than what came in: it says more and counts as full. Else prove '..UptoSaid'. A law counts once. -/
mutual
def uptoBulk {H : Type} : DataW H → Nat
  | .lit (.string bytes) => bytes.length + 1
  | .lit _ => 1
  | .nil => 1
  | .ptr d => uptoBulk d + 1
  | .slice elems spare => uptoBulkAll elems + uptoBulkAll spare + 1
  | .agg parts => uptoBulkAll parts + 1
  | .iface _ d => uptoBulk d + 1
  | .map entries => uptoBulkEntries entries + 1
  | .held _ => 1
def uptoBulkAll {H : Type} : List (DataW H) → Nat
  | [] => 0
  | d :: r => uptoBulk d + uptoBulkAll r
def uptoBulkEntries {H : Type} : List (Lit × DataW H) → Nat
  | [] => 0
  | x :: r => uptoBulkEntry x + uptoBulkEntries r
def uptoBulkEntry {H : Type} : Lit × DataW H → Nat
  | (.string bytes, d) => bytes.length + uptoBulk d + 1
  | (_, d) => uptoBulk d + 1
 end
def uptoSmall : (H : Type) → List (DataW H) → Bool := fun _ ds => decide (uptoBulkAll ds ≤ 1048576)
def OpenSpec.upto (s : _root_.Go.ChangeSpec) : _root_.Go.OpenSpec := { _root_.Go.OpenSpec.ofChange s with cond := some uptoSmall }

/-- 'halfplanelaw04.FpolyDivides', WHERE WHAT IT READS IS OF BULK AT MOST 1048576: true; the input reads as it did. -/
def fpolyDividesUptoRow : OpenClaim := { program := "ytmfaipklhkgieaa", sum := "e914e2a5d6c1bc6fed8ed8305b1a3b1f2c36e102c0430402d8f11319ecad98c9", func := "halfplane/halfplanelaw04.FpolyDivides", spec := "fpolyDivides", unfollowed := true, recurses := true, named := ["math/bits.overflowError"], apart := false, narrowed := true }
def FpolyDividesUptoSaid : Prop := fpolyDividesUptoRow.holds Try.pinned (OpenSpec.upto fpolyDividesSpec)

/-- 'halfplanelaw04.FpolyBezout', WHERE WHAT IT READS IS OF BULK AT MOST 1048576: true; the input reads as it did. -/
def fpolyBezoutUptoRow : OpenClaim := { program := "ytmfaipklhkgieaa", sum := "e914e2a5d6c1bc6fed8ed8305b1a3b1f2c36e102c0430402d8f11319ecad98c9", func := "halfplane/halfplanelaw04.FpolyBezout", spec := "fpolyBezout", unfollowed := true, recurses := true, named := ["math/bits.overflowError"], apart := false, narrowed := true }
def FpolyBezoutUptoSaid : Prop := fpolyBezoutUptoRow.holds Try.pinned (OpenSpec.upto fpolyBezoutSpec)

/-- 'halfplanelaw04.FpolyRing', WHERE WHAT IT READS IS OF BULK AT MOST 1048576: true; the input reads as it did. -/
def fpolyRingUptoRow : OpenClaim := { program := "ytmfaipklhkgieaa", sum := "e914e2a5d6c1bc6fed8ed8305b1a3b1f2c36e102c0430402d8f11319ecad98c9", func := "halfplane/halfplanelaw04.FpolyRing", spec := "fpolyRing", unfollowed := true, recurses := true, named := ["math/bits.overflowError"], apart := false, narrowed := true }
def FpolyRingUptoSaid : Prop := fpolyRingUptoRow.holds Try.pinned (OpenSpec.upto fpolyRingSpec)

/-- 'halfplanelaw04.FpolyOperations', WHERE WHAT IT READS IS OF BULK AT MOST 1048576: true; the input reads as it did. -/
def fpolyOperationsUptoRow : OpenClaim := { program := "ytmfaipklhkgieaa", sum := "e914e2a5d6c1bc6fed8ed8305b1a3b1f2c36e102c0430402d8f11319ecad98c9", func := "halfplane/halfplanelaw04.FpolyOperations", spec := "fpolyOperations", unfollowed := true, recurses := true, named := ["math/bits.overflowError"], apart := false, narrowed := true }
def FpolyOperationsUptoSaid : Prop := fpolyOperationsUptoRow.holds Try.pinned (OpenSpec.upto fpolyOperationsSpec)

end Rows
end Go.Proofs.Ytmfaipklhkgieaa
