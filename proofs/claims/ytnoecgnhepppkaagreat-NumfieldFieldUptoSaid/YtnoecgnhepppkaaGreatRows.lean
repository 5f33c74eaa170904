/-
  No cell of these rows narrows 'for every input' (looked for: loops, veiled, ifaces, maps, wideKeys, modest, calm, conditions, laid).
  DERIVED. THE GIVEN ROWS OF THIS SEAT. 4 by the template 'for every input the law returns true; each argument reads behind the call as it read before'; 0 by the template 'total and deterministic' (their statements: YtnoecgnhepppkaaGreatTotals.lean).
  GIVEN WITH THE SEED: the statements are not yours to turn. If you find one false, say at which input.
  Laid BY PROGRAM, IN A SANDBOX (cutbox-rows.mjs): the forced cells as the released guide's own fill.sh prints them over the translation 5aade370bb6c4a72… (all of the seat's roots in one cut). By AI agents, Wed Nov 11 2026. No macro, syntax, notation, axiom, sorry.
-/
import Derived.Test.YtnoecgnhepppkaaGreatChecked
import GoSem.Claim
import GoSem.ClaimJoined
import GoSem.ClaimMapViews
import Derived.JoinedTies
import Derived.KernelRfl
namespace Go.Proofs.YtnoecgnhepppkaaGreat
/- THE CELL 'sum', in the pinned program and in every row, IS THE sha256 OF THE DUMP (.gsa) THAT YtnoecgnhepppkaaGreatProg.lean LOADS. Nothing in Lean hashes anything: it is a label: what it is worth is what the hold of that sum in a sandbox is worth. -/
noncomputable def Tryz.pinned : Pinned := { name := "ytnoecgnhepppkaagreat", sum := "5aade370bb6c4a7274f85ef350a4ad2c15102f385a84f69c7418344df6f6479b", checked := Tryz.checked }
namespace Rows
def none {H : Type} : Left H := { results := [], args := [] }

/-- 'halfplanelaw14.NumfieldInverses': WHATEVER THE INPUT: true; the input reads as it did. -/
def numfieldInversesSpec : ChangeSpec := { name := "numfieldInverses", fn := fun _ => fun
  | [d1, d2, d3] => { results := [.lit (.bool true)], args := [d1, d2, d3] }
  | _ => none }
def numfieldInversesRow : OpenClaim := { program := "ytnoecgnhepppkaagreat", sum := "5aade370bb6c4a7274f85ef350a4ad2c15102f385a84f69c7418344df6f6479b", func := "halfplane/halfplanelaw14.NumfieldInverses", spec := "numfieldInverses", unfollowed := true, recurses := true, named := ["math/bits.overflowError"], apart := false }
def NumfieldInversesSaid : Prop := numfieldInversesRow.holds Tryz.pinned (OpenSpec.ofChange numfieldInversesSpec)

/-- ITS FALSE NEIGHBOUR: 'it returns false'. Refute it at one input. -/
def numfieldInversesWrong : ChangeSpec := { name := "numfieldInverses", fn := fun _ => fun
  | [d1, d2, d3] => { results := [.lit (.bool false)], args := [d1, d2, d3] }
  | _ => none }
def NumfieldInversesWrongFalsely : Prop := numfieldInversesRow.holds Tryz.pinned (OpenSpec.ofChange numfieldInversesWrong)

/-- 'halfplanelaw14.NumfieldField': WHATEVER THE INPUT: true; the input reads as it did. -/
def numfieldFieldSpec : ChangeSpec := { name := "numfieldField", fn := fun _ => fun
  | [d1, d2, d3] => { results := [.lit (.bool true)], args := [d1, d2, d3] }
  | _ => none }
def numfieldFieldRow : OpenClaim := { program := "ytnoecgnhepppkaagreat", sum := "5aade370bb6c4a7274f85ef350a4ad2c15102f385a84f69c7418344df6f6479b", func := "halfplane/halfplanelaw14.NumfieldField", spec := "numfieldField", unfollowed := true, recurses := true, named := ["math/bits.overflowError"], apart := false }
def NumfieldFieldSaid : Prop := numfieldFieldRow.holds Tryz.pinned (OpenSpec.ofChange numfieldFieldSpec)

/-- ITS FALSE NEIGHBOUR: 'it returns false'. Refute it at one input. -/
def numfieldFieldWrong : ChangeSpec := { name := "numfieldField", fn := fun _ => fun
  | [d1, d2, d3] => { results := [.lit (.bool false)], args := [d1, d2, d3] }
  | _ => none }
def NumfieldFieldWrongFalsely : Prop := numfieldFieldRow.holds Tryz.pinned (OpenSpec.ofChange numfieldFieldWrong)

/-- 'halfplanelaw14.NumfieldNorms': WHATEVER THE INPUT: true; the input reads as it did. -/
def numfieldNormsSpec : ChangeSpec := { name := "numfieldNorms", fn := fun _ => fun
  | [d1, d2, d3] => { results := [.lit (.bool true)], args := [d1, d2, d3] }
  | _ => none }
def numfieldNormsRow : OpenClaim := { program := "ytnoecgnhepppkaagreat", sum := "5aade370bb6c4a7274f85ef350a4ad2c15102f385a84f69c7418344df6f6479b", func := "halfplane/halfplanelaw14.NumfieldNorms", spec := "numfieldNorms", unfollowed := true, recurses := true, named := ["math/bits.overflowError"], apart := false }
def NumfieldNormsSaid : Prop := numfieldNormsRow.holds Tryz.pinned (OpenSpec.ofChange numfieldNormsSpec)

/-- ITS FALSE NEIGHBOUR: 'it returns false'. Refute it at one input. -/
def numfieldNormsWrong : ChangeSpec := { name := "numfieldNorms", fn := fun _ => fun
  | [d1, d2, d3] => { results := [.lit (.bool false)], args := [d1, d2, d3] }
  | _ => none }
def NumfieldNormsWrongFalsely : Prop := numfieldNormsRow.holds Tryz.pinned (OpenSpec.ofChange numfieldNormsWrong)

/-- 'halfplanelaw14.NumfieldMatrices': WHATEVER THE INPUT: true; the input reads as it did. -/
def numfieldMatricesSpec : ChangeSpec := { name := "numfieldMatrices", fn := fun _ => fun
  | [d1, d2, d3] => { results := [.lit (.bool true)], args := [d1, d2, d3] }
  | _ => none }
def numfieldMatricesRow : OpenClaim := { program := "ytnoecgnhepppkaagreat", sum := "5aade370bb6c4a7274f85ef350a4ad2c15102f385a84f69c7418344df6f6479b", func := "halfplane/halfplanelaw14.NumfieldMatrices", spec := "numfieldMatrices", unfollowed := true, recurses := true, named := ["math/bits.overflowError"], apart := false }
def NumfieldMatricesSaid : Prop := numfieldMatricesRow.holds Tryz.pinned (OpenSpec.ofChange numfieldMatricesSpec)

/-- ITS FALSE NEIGHBOUR: 'it returns false'. Refute it at one input. -/
def numfieldMatricesWrong : ChangeSpec := { name := "numfieldMatrices", fn := fun _ => fun
  | [d1, d2, d3] => { results := [.lit (.bool false)], args := [d1, d2, d3] }
  | _ => none }
def NumfieldMatricesWrongFalsely : Prop := numfieldMatricesRow.holds Tryz.pinned (OpenSpec.ofChange numfieldMatricesWrong)

/- THE SECOND FORM. 'bulk': how many values and letters a reading holds, each counted each time it is reached (what is shared counts as often as it is met; a slice's spare places count too). A statement '..UptoSaid' is the law's where the arguments, and the package variables that the reading takes, are together of bulk at most 1048576: NARROWER than '..Said'. Prove '..Said' where nothing that the law and all that it calls make is longer than what came in: it says more and counts as full. Else prove '..UptoSaid'. A law counts once. -/
mutual
def uptoBulk {H : Type} : DataW H → Nat
  | .lit (.string bytes) => bytes.length + 1
  | .lit _ => 1
  | .nil => 1
  | .ptr d => uptoBulk d + 1
  | .slice elems spare => uptoBulkAll elems + uptoBulkAll spare + 1
  | .agg parts => uptoBulkAll parts + 1
  | .iface _ d => uptoBulk d + 1
  | .map entries => uptoBulkEntries entries + 1
  | .held _ => 1
def uptoBulkAll {H : Type} : List (DataW H) → Nat
  | [] => 0
  | d :: r => uptoBulk d + uptoBulkAll r
def uptoBulkEntries {H : Type} : List (Lit × DataW H) → Nat
  | [] => 0
  | x :: r => uptoBulkEntry x + uptoBulkEntries r
def uptoBulkEntry {H : Type} : Lit × DataW H → Nat
  | (.string bytes, d) => bytes.length + uptoBulk d + 1
  | (_, d) => uptoBulk d + 1
 end
def uptoSmall : (H : Type) → List (DataW H) → Bool := fun _ ds => decide (uptoBulkAll ds ≤ 1048576)
def OpenSpec.upto (s : _root_.Go.ChangeSpec) : _root_.Go.OpenSpec := { _root_.Go.OpenSpec.ofChange s with cond := some uptoSmall }

/-- 'halfplanelaw14.NumfieldInverses', WHERE WHAT IT READS IS OF BULK AT MOST 1048576: true; the input reads as it did. -/
def numfieldInversesUptoRow : OpenClaim := { program := "ytnoecgnhepppkaagreat", sum := "5aade370bb6c4a7274f85ef350a4ad2c15102f385a84f69c7418344df6f6479b", func := "halfplane/halfplanelaw14.NumfieldInverses", spec := "numfieldInverses", unfollowed := true, recurses := true, named := ["math/bits.overflowError"], apart := false, narrowed := true }
def NumfieldInversesUptoSaid : Prop := numfieldInversesUptoRow.holds Tryz.pinned (OpenSpec.upto numfieldInversesSpec)

/-- 'halfplanelaw14.NumfieldField', WHERE WHAT IT READS IS OF BULK AT MOST 1048576: true; the input reads as it did. -/
def numfieldFieldUptoRow : OpenClaim := { program := "ytnoecgnhepppkaagreat", sum := "5aade370bb6c4a7274f85ef350a4ad2c15102f385a84f69c7418344df6f6479b", func := "halfplane/halfplanelaw14.NumfieldField", spec := "numfieldField", unfollowed := true, recurses := true, named := ["math/bits.overflowError"], apart := false, narrowed := true }
def NumfieldFieldUptoSaid : Prop := numfieldFieldUptoRow.holds Tryz.pinned (OpenSpec.upto numfieldFieldSpec)

/-- 'halfplanelaw14.NumfieldNorms', WHERE WHAT IT READS IS OF BULK AT MOST 1048576: true; the input reads as it did. -/
def numfieldNormsUptoRow : OpenClaim := { program := "ytnoecgnhepppkaagreat", sum := "5aade370bb6c4a7274f85ef350a4ad2c15102f385a84f69c7418344df6f6479b", func := "halfplane/halfplanelaw14.NumfieldNorms", spec := "numfieldNorms", unfollowed := true, recurses := true, named := ["math/bits.overflowError"], apart := false, narrowed := true }
def NumfieldNormsUptoSaid : Prop := numfieldNormsUptoRow.holds Tryz.pinned (OpenSpec.upto numfieldNormsSpec)

/-- 'halfplanelaw14.NumfieldMatrices', WHERE WHAT IT READS IS OF BULK AT MOST 1048576: true; the input reads as it did. -/
def numfieldMatricesUptoRow : OpenClaim := { program := "ytnoecgnhepppkaagreat", sum := "5aade370bb6c4a7274f85ef350a4ad2c15102f385a84f69c7418344df6f6479b", func := "halfplane/halfplanelaw14.NumfieldMatrices", spec := "numfieldMatrices", unfollowed := true, recurses := true, named := ["math/bits.overflowError"], apart := false, narrowed := true }
def NumfieldMatricesUptoSaid : Prop := numfieldMatricesUptoRow.holds Tryz.pinned (OpenSpec.upto numfieldMatricesSpec)

end Rows
end Go.Proofs.YtnoecgnhepppkaaGreat
