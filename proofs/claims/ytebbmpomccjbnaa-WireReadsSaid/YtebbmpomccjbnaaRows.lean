/-
  No cell of these rows narrows 'for every input' (looked for: loops, veiled, ifaces, maps, wideKeys, modest, calm, conditions, laid).
  DERIVED. THE GIVEN ROWS OF THIS SEAT. 4 by the template 'for every input the law returns true; each argument reads behind the call as it read before'; 0 by the template 'total and deterministic' (their statements: YtebbmpomccjbnaaTotals.lean).
  GIVEN WITH THE SEED: the statements are not yours to turn. If you find one false, say at which input.
  Laid BY PROGRAM, IN A SANDBOX (cutbox-rows.mjs): the forced cells as the released guide's own fill.sh prints them over the translation 47d00613571a434d… (all of the seat's roots in one cut). By AI agents, Wed Nov 11 2026. No macro, syntax, notation, axiom, sorry.
-/
import Derived.Test.YtebbmpomccjbnaaChecked
import GoSem.Claim
import GoSem.ClaimJoined
import GoSem.ClaimMapViews
import Derived.JoinedTies
import Derived.KernelRfl
namespace Go.Proofs.Ytebbmpomccjbnaa
/- THE CELL 'sum', in the pinned program and in every row, IS THE sha256 OF THE DUMP (.gsa) THAT YtebbmpomccjbnaaProg.lean LOADS. Nothing in Lean hashes anything: it is a label: what it is worth is what the hold of that sum in a sandbox is worth. -/
noncomputable def Try.pinned : Pinned := { name := "ytebbmpomccjbnaa", sum := "47d00613571a434da1fc1c1cefd6315cf2d64465a1d8f1e3deee99cfa238f5ca", checked := Try.checked }
namespace Rows
def none {H : Type} : Left H := { results := [], args := [] }

/-- 'massiflaw06.WireReads': WHATEVER THE INPUT: true; the input reads as it did. -/
def wireReadsSpec : ChangeSpec := { name := "wireReads", fn := fun _ => fun
  | [d1, d2, d3, d4] => { results := [.lit (.bool true)], args := [d1, d2, d3, d4] }
  | _ => none }
def wireReadsRow : OpenClaim := { program := "ytebbmpomccjbnaa", sum := "47d00613571a434da1fc1c1cefd6315cf2d64465a1d8f1e3deee99cfa238f5ca", func := "massif/massiflaw06.WireReads", spec := "wireReads", apart := false }
def WireReadsSaid : Prop := wireReadsRow.holds Try.pinned (OpenSpec.ofChange wireReadsSpec)

/-- ITS FALSE NEIGHBOUR: 'it returns false'. Refute it at one input. -/
def wireReadsWrong : ChangeSpec := { name := "wireReads", fn := fun _ => fun
  | [d1, d2, d3, d4] => { results := [.lit (.bool false)], args := [d1, d2, d3, d4] }
  | _ => none }
def WireReadsWrongFalsely : Prop := wireReadsRow.holds Try.pinned (OpenSpec.ofChange wireReadsWrong)

/-- 'massiflaw04.CoverRests': WHATEVER THE INPUT: true; the input reads as it did. -/
def coverRestsSpec : ChangeSpec := { name := "coverRests", fn := fun _ => fun
  | [d1, d2] => { results := [.lit (.bool true)], args := [d1, d2] }
  | _ => none }
def coverRestsRow : OpenClaim := { program := "ytebbmpomccjbnaa", sum := "47d00613571a434da1fc1c1cefd6315cf2d64465a1d8f1e3deee99cfa238f5ca", func := "massif/massiflaw04.CoverRests", spec := "coverRests", unfollowed := true, recurses := true, apart := false }
def CoverRestsSaid : Prop := coverRestsRow.holds Try.pinned (OpenSpec.ofChange coverRestsSpec)

/-- ITS FALSE NEIGHBOUR: 'it returns false'. Refute it at one input. -/
def coverRestsWrong : ChangeSpec := { name := "coverRests", fn := fun _ => fun
  | [d1, d2] => { results := [.lit (.bool false)], args := [d1, d2] }
  | _ => none }
def CoverRestsWrongFalsely : Prop := coverRestsRow.holds Try.pinned (OpenSpec.ofChange coverRestsWrong)

/-- 'massiflaw04.CoverFresh': WHATEVER THE INPUT: true; the input reads as it did. -/
def coverFreshSpec : ChangeSpec := { name := "coverFresh", fn := fun _ => fun
  | [d1, d2, d3] => { results := [.lit (.bool true)], args := [d1, d2, d3] }
  | _ => none }
def coverFreshRow : OpenClaim := { program := "ytebbmpomccjbnaa", sum := "47d00613571a434da1fc1c1cefd6315cf2d64465a1d8f1e3deee99cfa238f5ca", func := "massif/massiflaw04.CoverFresh", spec := "coverFresh", unfollowed := true, recurses := true, apart := false }
def CoverFreshSaid : Prop := coverFreshRow.holds Try.pinned (OpenSpec.ofChange coverFreshSpec)

/-- ITS FALSE NEIGHBOUR: 'it returns false'. Refute it at one input. -/
def coverFreshWrong : ChangeSpec := { name := "coverFresh", fn := fun _ => fun
  | [d1, d2, d3] => { results := [.lit (.bool false)], args := [d1, d2, d3] }
  | _ => none }
def CoverFreshWrongFalsely : Prop := coverFreshRow.holds Try.pinned (OpenSpec.ofChange coverFreshWrong)

/-- 'massiftop.WholeForm': WHATEVER THE INPUT: true; the input reads as it did. -/
def wholeFormSpec : ChangeSpec := { name := "wholeForm", fn := fun _ => fun
  | [d1, d2] => { results := [.lit (.bool true)], args := [d1, d2] }
  | _ => none }
def wholeFormRow : OpenClaim := { program := "ytebbmpomccjbnaa", sum := "47d00613571a434da1fc1c1cefd6315cf2d64465a1d8f1e3deee99cfa238f5ca", func := "massif/massiftop.WholeForm", spec := "wholeForm", inPlace := ["internal/abi.NoEscape"], unfollowed := true, recurses := true, apart := false }
def WholeFormSaid : Prop := wholeFormRow.holds Try.pinned (OpenSpec.ofChange wholeFormSpec)

/-- ITS FALSE NEIGHBOUR: 'it returns false'. Refute it at one input. -/
def wholeFormWrong : ChangeSpec := { name := "wholeForm", fn := fun _ => fun
  | [d1, d2] => { results := [.lit (.bool false)], args := [d1, d2] }
  | _ => none }
def WholeFormWrongFalsely : Prop := wholeFormRow.holds Try.pinned (OpenSpec.ofChange wholeFormWrong)

/- THE SECOND FORM. 'bulk': how many values and letters a reading holds, each counted each time it is reached (what is shared counts as often as it is met; a slice's spare places count too). A statement '..UptoSaid' is the law's where the arguments, and the package variables that the reading takes, are together of bulk at most 1048576: NARROWER than '..Said'. Prove '..Said' where nothing that the law and all that it calls make is longer than what came in: it says more and counts as full. Else prove '..UptoSaid'. A law counts once. -/
mutual
def uptoBulk {H : Type} : DataW H → Nat
  | .lit (.string bytes) => bytes.length + 1
  | .lit _ => 1
  | .nil => 1
  | .ptr d => uptoBulk d + 1
  | .slice elems spare => uptoBulkAll elems + uptoBulkAll spare + 1
  | .agg parts => uptoBulkAll parts + 1
  | .iface _ d => uptoBulk d + 1
  | .map entries => uptoBulkEntries entries + 1
  | .held _ => 1
def uptoBulkAll {H : Type} : List (DataW H) → Nat
  | [] => 0
  | d :: r => uptoBulk d + uptoBulkAll r
def uptoBulkEntries {H : Type} : List (Lit × DataW H) → Nat
  | [] => 0
  | x :: r => uptoBulkEntry x + uptoBulkEntries r
def uptoBulkEntry {H : Type} : Lit × DataW H → Nat
  | (.string bytes, d) => bytes.length + uptoBulk d + 1
  | (_, d) => uptoBulk d + 1
 end
def uptoSmall : (H : Type) → List (DataW H) → Bool := fun _ ds => decide (uptoBulkAll ds ≤ 1048576)
def OpenSpec.upto (s : _root_.Go.ChangeSpec) : _root_.Go.OpenSpec := { _root_.Go.OpenSpec.ofChange s with cond := some uptoSmall }

/-- 'massiflaw06.WireReads', WHERE WHAT IT READS IS OF BULK AT MOST 1048576: true; the input reads as it did. -/
def wireReadsUptoRow : OpenClaim := { program := "ytebbmpomccjbnaa", sum := "47d00613571a434da1fc1c1cefd6315cf2d64465a1d8f1e3deee99cfa238f5ca", func := "massif/massiflaw06.WireReads", spec := "wireReads", apart := false, narrowed := true }
def WireReadsUptoSaid : Prop := wireReadsUptoRow.holds Try.pinned (OpenSpec.upto wireReadsSpec)

/-- 'massiflaw04.CoverRests', WHERE WHAT IT READS IS OF BULK AT MOST 1048576: true; the input reads as it did. -/
def coverRestsUptoRow : OpenClaim := { program := "ytebbmpomccjbnaa", sum := "47d00613571a434da1fc1c1cefd6315cf2d64465a1d8f1e3deee99cfa238f5ca", func := "massif/massiflaw04.CoverRests", spec := "coverRests", unfollowed := true, recurses := true, apart := false, narrowed := true }
def CoverRestsUptoSaid : Prop := coverRestsUptoRow.holds Try.pinned (OpenSpec.upto coverRestsSpec)

/-- 'massiflaw04.CoverFresh', WHERE WHAT IT READS IS OF BULK AT MOST 1048576: true; the input reads as it did. -/
def coverFreshUptoRow : OpenClaim := { program := "ytebbmpomccjbnaa", sum := "47d00613571a434da1fc1c1cefd6315cf2d64465a1d8f1e3deee99cfa238f5ca", func := "massif/massiflaw04.CoverFresh", spec := "coverFresh", unfollowed := true, recurses := true, apart := false, narrowed := true }
def CoverFreshUptoSaid : Prop := coverFreshUptoRow.holds Try.pinned (OpenSpec.upto coverFreshSpec)

/-- 'massiftop.WholeForm', WHERE WHAT IT READS IS OF BULK AT MOST 1048576: true; the input reads as it did. -/
def wholeFormUptoRow : OpenClaim := { program := "ytebbmpomccjbnaa", sum := "47d00613571a434da1fc1c1cefd6315cf2d64465a1d8f1e3deee99cfa238f5ca", func := "massif/massiftop.WholeForm", spec := "wholeForm", inPlace := ["internal/abi.NoEscape"], unfollowed := true, recurses := true, apart := false, narrowed := true }
def WholeFormUptoSaid : Prop := wholeFormUptoRow.holds Try.pinned (OpenSpec.upto wholeFormSpec)

end Rows
end Go.Proofs.Ytebbmpomccjbnaa
