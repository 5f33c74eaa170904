/-
  No cell of these rows narrows 'for every input' (looked for: loops, veiled, ifaces, maps, wideKeys, modest, calm, conditions, laid).
  DERIVED. THE GIVEN ROWS OF THIS SEAT. 5 by the template 'for every input the law returns true; each argument reads behind the call as it read before'; 0 by the template 'total and deterministic' (their statements: YtkmbnldginonbaaGreatTotals.lean).
  GIVEN WITH THE SEED: the statements are not yours to turn. If you find one false, say at which input.
  Laid BY PROGRAM, IN A SANDBOX (cutbox-rows.mjs): the forced cells as the released guide's own fill.sh prints them over the translation d2c4bc9dc2e04436… (all of the seat's roots in one cut). By AI agents, Wed Nov 11 2026. No macro, syntax, notation, axiom, sorry.
-/
import Derived.Test.YtkmbnldginonbaaGreatChecked
import GoSem.Claim
import GoSem.ClaimJoined
import GoSem.ClaimMapViews
import Derived.JoinedTies
import Derived.KernelRfl
namespace Go.Proofs.YtkmbnldginonbaaGreat
/- THE CELL 'sum', in the pinned program and in every row, IS THE sha256 OF THE DUMP (.gsa) THAT YtkmbnldginonbaaGreatProg.lean LOADS. Nothing in Lean hashes anything: it is a label: what it is worth is what the hold of that sum in a sandbox is worth. -/
noncomputable def Tryz.pinned : Pinned := { name := "ytkmbnldginonbaagreat", sum := "d2c4bc9dc2e04436a8be0031deedf5f3cb5bb039c253fcfae177b8097343bebd", checked := Tryz.checked }
namespace Rows
def none {H : Type} : Left H := { results := [], args := [] }

/-- 'halfplanelaw11.CharpolyNewton': WHATEVER THE INPUT: true; the input reads as it did. -/
def charpolyNewtonSpec : ChangeSpec := { name := "charpolyNewton", fn := fun _ => fun
  | [d] => { results := [.lit (.bool true)], args := [d] }
  | _ => none }
def charpolyNewtonRow : OpenClaim := { program := "ytkmbnldginonbaagreat", sum := "d2c4bc9dc2e04436a8be0031deedf5f3cb5bb039c253fcfae177b8097343bebd", func := "halfplane/halfplanelaw11.CharpolyNewton", spec := "charpolyNewton", unfollowed := true, recurses := true, named := ["math/bits.overflowError"], apart := false }
def CharpolyNewtonSaid : Prop := charpolyNewtonRow.holds Tryz.pinned (OpenSpec.ofChange charpolyNewtonSpec)

/-- ITS FALSE NEIGHBOUR: 'it returns false'. Refute it at one input. -/
def charpolyNewtonWrong : ChangeSpec := { name := "charpolyNewton", fn := fun _ => fun
  | [d] => { results := [.lit (.bool false)], args := [d] }
  | _ => none }
def CharpolyNewtonWrongFalsely : Prop := charpolyNewtonRow.holds Tryz.pinned (OpenSpec.ofChange charpolyNewtonWrong)

/-- 'halfplanelaw11.CharpolyCompanions': WHATEVER THE INPUT: true; the input reads as it did. -/
def charpolyCompanionsSpec : ChangeSpec := { name := "charpolyCompanions", fn := fun _ => fun
  | [d] => { results := [.lit (.bool true)], args := [d] }
  | _ => none }
def charpolyCompanionsRow : OpenClaim := { program := "ytkmbnldginonbaagreat", sum := "d2c4bc9dc2e04436a8be0031deedf5f3cb5bb039c253fcfae177b8097343bebd", func := "halfplane/halfplanelaw11.CharpolyCompanions", spec := "charpolyCompanions", unfollowed := true, recurses := true, named := ["math/bits.overflowError"], apart := false }
def CharpolyCompanionsSaid : Prop := charpolyCompanionsRow.holds Tryz.pinned (OpenSpec.ofChange charpolyCompanionsSpec)

/-- ITS FALSE NEIGHBOUR: 'it returns false'. Refute it at one input. -/
def charpolyCompanionsWrong : ChangeSpec := { name := "charpolyCompanions", fn := fun _ => fun
  | [d] => { results := [.lit (.bool false)], args := [d] }
  | _ => none }
def CharpolyCompanionsWrongFalsely : Prop := charpolyCompanionsRow.holds Tryz.pinned (OpenSpec.ofChange charpolyCompanionsWrong)

/-- 'halfplanelaw11.CharpolyPolynomials': WHATEVER THE INPUT: true; the input reads as it did. -/
def charpolyPolynomialsSpec : ChangeSpec := { name := "charpolyPolynomials", fn := fun _ => fun
  | [d1, d2] => { results := [.lit (.bool true)], args := [d1, d2] }
  | _ => none }
def charpolyPolynomialsRow : OpenClaim := { program := "ytkmbnldginonbaagreat", sum := "d2c4bc9dc2e04436a8be0031deedf5f3cb5bb039c253fcfae177b8097343bebd", func := "halfplane/halfplanelaw11.CharpolyPolynomials", spec := "charpolyPolynomials", unfollowed := true, recurses := true, named := ["math/bits.overflowError"], apart := false }
def CharpolyPolynomialsSaid : Prop := charpolyPolynomialsRow.holds Tryz.pinned (OpenSpec.ofChange charpolyPolynomialsSpec)

/-- ITS FALSE NEIGHBOUR: 'it returns false'. Refute it at one input. -/
def charpolyPolynomialsWrong : ChangeSpec := { name := "charpolyPolynomials", fn := fun _ => fun
  | [d1, d2] => { results := [.lit (.bool false)], args := [d1, d2] }
  | _ => none }
def CharpolyPolynomialsWrongFalsely : Prop := charpolyPolynomialsRow.holds Tryz.pinned (OpenSpec.ofChange charpolyPolynomialsWrong)

/-- 'halfplanelaw11.CharpolyHamilton': WHATEVER THE INPUT: true; the input reads as it did. -/
def charpolyHamiltonSpec : ChangeSpec := { name := "charpolyHamilton", fn := fun _ => fun
  | [d] => { results := [.lit (.bool true)], args := [d] }
  | _ => none }
def charpolyHamiltonRow : OpenClaim := { program := "ytkmbnldginonbaagreat", sum := "d2c4bc9dc2e04436a8be0031deedf5f3cb5bb039c253fcfae177b8097343bebd", func := "halfplane/halfplanelaw11.CharpolyHamilton", spec := "charpolyHamilton", unfollowed := true, recurses := true, named := ["math/bits.overflowError"], apart := false }
def CharpolyHamiltonSaid : Prop := charpolyHamiltonRow.holds Tryz.pinned (OpenSpec.ofChange charpolyHamiltonSpec)

/-- ITS FALSE NEIGHBOUR: 'it returns false'. Refute it at one input. -/
def charpolyHamiltonWrong : ChangeSpec := { name := "charpolyHamilton", fn := fun _ => fun
  | [d] => { results := [.lit (.bool false)], args := [d] }
  | _ => none }
def CharpolyHamiltonWrongFalsely : Prop := charpolyHamiltonRow.holds Tryz.pinned (OpenSpec.ofChange charpolyHamiltonWrong)

/-- 'halfplanelaw11.CharpolyInvariance': WHATEVER THE INPUT: true; the input reads as it did. -/
def charpolyInvarianceSpec : ChangeSpec := { name := "charpolyInvariance", fn := fun _ => fun
  | [d1, d2, d3] => { results := [.lit (.bool true)], args := [d1, d2, d3] }
  | _ => none }
def charpolyInvarianceRow : OpenClaim := { program := "ytkmbnldginonbaagreat", sum := "d2c4bc9dc2e04436a8be0031deedf5f3cb5bb039c253fcfae177b8097343bebd", func := "halfplane/halfplanelaw11.CharpolyInvariance", spec := "charpolyInvariance", unfollowed := true, recurses := true, named := ["math/bits.overflowError"], apart := false }
def CharpolyInvarianceSaid : Prop := charpolyInvarianceRow.holds Tryz.pinned (OpenSpec.ofChange charpolyInvarianceSpec)

/-- ITS FALSE NEIGHBOUR: 'it returns false'. Refute it at one input. -/
def charpolyInvarianceWrong : ChangeSpec := { name := "charpolyInvariance", fn := fun _ => fun
  | [d1, d2, d3] => { results := [.lit (.bool false)], args := [d1, d2, d3] }
  | _ => none }
def CharpolyInvarianceWrongFalsely : Prop := charpolyInvarianceRow.holds Tryz.pinned (OpenSpec.ofChange charpolyInvarianceWrong)

/- THE SECOND FORM. 'bulk': how many values and letters a reading holds, each counted each time it is reached (what is shared counts as often as it is met; a slice's spare places count too). A statement '..UptoSaid' is the law's where the arguments, and the package variables that the reading takes, are together of bulk at most 1048576: NARROWER than '..Said'. Prove '..Said' where nothing that the law and all that it calls make is longer than what came in: it says more and counts as full. Else prove '..UptoSaid'. A law counts once. -/
mutual
def uptoBulk {H : Type} : DataW H → Nat
  | .lit (.string bytes) => bytes.length + 1
  | .lit _ => 1
  | .nil => 1
  | .ptr d => uptoBulk d + 1
  | .slice elems spare => uptoBulkAll elems + uptoBulkAll spare + 1
  | .agg parts => uptoBulkAll parts + 1
  | .iface _ d => uptoBulk d + 1
  | .map entries => uptoBulkEntries entries + 1
  | .held _ => 1
def uptoBulkAll {H : Type} : List (DataW H) → Nat
  | [] => 0
  | d :: r => uptoBulk d + uptoBulkAll r
def uptoBulkEntries {H : Type} : List (Lit × DataW H) → Nat
  | [] => 0
  | x :: r => uptoBulkEntry x + uptoBulkEntries r
def uptoBulkEntry {H : Type} : Lit × DataW H → Nat
  | (.string bytes, d) => bytes.length + uptoBulk d + 1
  | (_, d) => uptoBulk d + 1
 end
def uptoSmall : (H : Type) → List (DataW H) → Bool := fun _ ds => decide (uptoBulkAll ds ≤ 1048576)
def OpenSpec.upto (s : _root_.Go.ChangeSpec) : _root_.Go.OpenSpec := { _root_.Go.OpenSpec.ofChange s with cond := some uptoSmall }

/-- 'halfplanelaw11.CharpolyNewton', WHERE WHAT IT READS IS OF BULK AT MOST 1048576: true; the input reads as it did. -/
def charpolyNewtonUptoRow : OpenClaim := { program := "ytkmbnldginonbaagreat", sum := "d2c4bc9dc2e04436a8be0031deedf5f3cb5bb039c253fcfae177b8097343bebd", func := "halfplane/halfplanelaw11.CharpolyNewton", spec := "charpolyNewton", unfollowed := true, recurses := true, named := ["math/bits.overflowError"], apart := false, narrowed := true }
def CharpolyNewtonUptoSaid : Prop := charpolyNewtonUptoRow.holds Tryz.pinned (OpenSpec.upto charpolyNewtonSpec)

/-- 'halfplanelaw11.CharpolyCompanions', WHERE WHAT IT READS IS OF BULK AT MOST 1048576: true; the input reads as it did. -/
def charpolyCompanionsUptoRow : OpenClaim := { program := "ytkmbnldginonbaagreat", sum := "d2c4bc9dc2e04436a8be0031deedf5f3cb5bb039c253fcfae177b8097343bebd", func := "halfplane/halfplanelaw11.CharpolyCompanions", spec := "charpolyCompanions", unfollowed := true, recurses := true, named := ["math/bits.overflowError"], apart := false, narrowed := true }
def CharpolyCompanionsUptoSaid : Prop := charpolyCompanionsUptoRow.holds Tryz.pinned (OpenSpec.upto charpolyCompanionsSpec)

/-- 'halfplanelaw11.CharpolyPolynomials', WHERE WHAT IT READS IS OF BULK AT MOST 1048576: true; the input reads as it did. -/
def charpolyPolynomialsUptoRow : OpenClaim := { program := "ytkmbnldginonbaagreat", sum := "d2c4bc9dc2e04436a8be0031deedf5f3cb5bb039c253fcfae177b8097343bebd", func := "halfplane/halfplanelaw11.CharpolyPolynomials", spec := "charpolyPolynomials", unfollowed := true, recurses := true, named := ["math/bits.overflowError"], apart := false, narrowed := true }
def CharpolyPolynomialsUptoSaid : Prop := charpolyPolynomialsUptoRow.holds Tryz.pinned (OpenSpec.upto charpolyPolynomialsSpec)

/-- 'halfplanelaw11.CharpolyHamilton', WHERE WHAT IT READS IS OF BULK AT MOST 1048576: true; the input reads as it did. -/
def charpolyHamiltonUptoRow : OpenClaim := { program := "ytkmbnldginonbaagreat", sum := "d2c4bc9dc2e04436a8be0031deedf5f3cb5bb039c253fcfae177b8097343bebd", func := "halfplane/halfplanelaw11.CharpolyHamilton", spec := "charpolyHamilton", unfollowed := true, recurses := true, named := ["math/bits.overflowError"], apart := false, narrowed := true }
def CharpolyHamiltonUptoSaid : Prop := charpolyHamiltonUptoRow.holds Tryz.pinned (OpenSpec.upto charpolyHamiltonSpec)

/-- 'halfplanelaw11.CharpolyInvariance', WHERE WHAT IT READS IS OF BULK AT MOST 1048576: true; the input reads as it did. -/
def charpolyInvarianceUptoRow : OpenClaim := { program := "ytkmbnldginonbaagreat", sum := "d2c4bc9dc2e04436a8be0031deedf5f3cb5bb039c253fcfae177b8097343bebd", func := "halfplane/halfplanelaw11.CharpolyInvariance", spec := "charpolyInvariance", unfollowed := true, recurses := true, named := ["math/bits.overflowError"], apart := false, narrowed := true }
def CharpolyInvarianceUptoSaid : Prop := charpolyInvarianceUptoRow.holds Tryz.pinned (OpenSpec.upto charpolyInvarianceSpec)

end Rows
end Go.Proofs.YtkmbnldginonbaaGreat
