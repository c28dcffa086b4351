/-
  No cell of these rows narrows 'for every input' (looked for: loops, veiled, ifaces, maps, wideKeys, modest, calm, conditions, laid).
  DERIVED. THE GIVEN ROWS OF THIS SEAT. 6 by the template 'for every input the law returns true; each argument reads behind the call as it read before'; 0 by the template 'total and deterministic' (their statements: YtnbgkkjhmdfmiaaTotals.lean).
  GIVEN WITH THE SEED: the statements are not yours to turn. If you find one false, say at which input.
  Laid BY PROGRAM, IN A SANDBOX (cutbox-rows.mjs): the forced cells as the released guide's own fill.sh prints them over the translation f2893512a38f6561… (all of the seat's roots in one cut). By AI agents, Wed Nov 11 2026. No macro, syntax, notation, axiom, sorry.
-/
import Derived.Test.YtnbgkkjhmdfmiaaChecked
import GoSem.Claim
import GoSem.ClaimJoined
import GoSem.ClaimMapViews
import Derived.JoinedTies
import Derived.KernelRfl
namespace Go.Proofs.Ytnbgkkjhmdfmiaa
/- THE CELL 'sum', in the pinned program and in every row, IS THE sha256 OF THE DUMP (.gsa) THAT YtnbgkkjhmdfmiaaProg.lean LOADS. Nothing in Lean hashes anything: it is a label: what it is worth is what the hold of that sum in a sandbox is worth. -/
noncomputable def Try.pinned : Pinned := { name := "ytnbgkkjhmdfmiaa", sum := "f2893512a38f65616b879fe8148efa38159f664151ed52f3a4348e9b532801ec", checked := Try.checked }
namespace Rows
def none {H : Type} : Left H := { results := [], args := [] }

/-- 'commonslaw16.ClogEnds': WHATEVER THE INPUT: true; the input reads as it did. -/
def clogEndsSpec : ChangeSpec := { name := "clogEnds", fn := fun _ => fun
  | [d1, d2, d3] => { results := [.lit (.bool true)], args := [d1, d2, d3] }
  | _ => none }
def clogEndsRow : OpenClaim := { program := "ytnbgkkjhmdfmiaa", sum := "f2893512a38f65616b879fe8148efa38159f664151ed52f3a4348e9b532801ec", func := "commons/commonslaw16.ClogEnds", spec := "clogEnds", apart := false }
def ClogEndsSaid : Prop := clogEndsRow.holds Try.pinned (OpenSpec.ofChange clogEndsSpec)

/-- ITS FALSE NEIGHBOUR: 'it returns false'. Refute it at one input. -/
def clogEndsWrong : ChangeSpec := { name := "clogEnds", fn := fun _ => fun
  | [d1, d2, d3] => { results := [.lit (.bool false)], args := [d1, d2, d3] }
  | _ => none }
def ClogEndsWrongFalsely : Prop := clogEndsRow.holds Try.pinned (OpenSpec.ofChange clogEndsWrong)

/-- 'commonslaw16.ClogEncodes': WHATEVER THE INPUT: true; the input reads as it did. -/
def clogEncodesSpec : ChangeSpec := { name := "clogEncodes", fn := fun _ => fun
  | [d] => { results := [.lit (.bool true)], args := [d] }
  | _ => none }
def clogEncodesRow : OpenClaim := { program := "ytnbgkkjhmdfmiaa", sum := "f2893512a38f65616b879fe8148efa38159f664151ed52f3a4348e9b532801ec", func := "commons/commonslaw16.ClogEncodes", spec := "clogEncodes", apart := false }
def ClogEncodesSaid : Prop := clogEncodesRow.holds Try.pinned (OpenSpec.ofChange clogEncodesSpec)

/-- ITS FALSE NEIGHBOUR: 'it returns false'. Refute it at one input. -/
def clogEncodesWrong : ChangeSpec := { name := "clogEncodes", fn := fun _ => fun
  | [d] => { results := [.lit (.bool false)], args := [d] }
  | _ => none }
def ClogEncodesWrongFalsely : Prop := clogEncodesRow.holds Try.pinned (OpenSpec.ofChange clogEncodesWrong)

/-- 'commonslaw16.ClogDecodes': WHATEVER THE INPUT: true; the input reads as it did. -/
def clogDecodesSpec : ChangeSpec := { name := "clogDecodes", fn := fun _ => fun
  | [d] => { results := [.lit (.bool true)], args := [d] }
  | _ => none }
def clogDecodesRow : OpenClaim := { program := "ytnbgkkjhmdfmiaa", sum := "f2893512a38f65616b879fe8148efa38159f664151ed52f3a4348e9b532801ec", func := "commons/commonslaw16.ClogDecodes", spec := "clogDecodes", apart := false }
def ClogDecodesSaid : Prop := clogDecodesRow.holds Try.pinned (OpenSpec.ofChange clogDecodesSpec)

/-- ITS FALSE NEIGHBOUR: 'it returns false'. Refute it at one input. -/
def clogDecodesWrong : ChangeSpec := { name := "clogDecodes", fn := fun _ => fun
  | [d] => { results := [.lit (.bool false)], args := [d] }
  | _ => none }
def ClogDecodesWrongFalsely : Prop := clogDecodesRow.holds Try.pinned (OpenSpec.ofChange clogDecodesWrong)

/-- 'commonslaw16.ClogRound': WHATEVER THE INPUT: true; the input reads as it did. -/
def clogRoundSpec : ChangeSpec := { name := "clogRound", fn := fun _ => fun
  | [d1, d2] => { results := [.lit (.bool true)], args := [d1, d2] }
  | _ => none }
def clogRoundRow : OpenClaim := { program := "ytnbgkkjhmdfmiaa", sum := "f2893512a38f65616b879fe8148efa38159f664151ed52f3a4348e9b532801ec", func := "commons/commonslaw16.ClogRound", spec := "clogRound", apart := false }
def ClogRoundSaid : Prop := clogRoundRow.holds Try.pinned (OpenSpec.ofChange clogRoundSpec)

/-- ITS FALSE NEIGHBOUR: 'it returns false'. Refute it at one input. -/
def clogRoundWrong : ChangeSpec := { name := "clogRound", fn := fun _ => fun
  | [d1, d2] => { results := [.lit (.bool false)], args := [d1, d2] }
  | _ => none }
def ClogRoundWrongFalsely : Prop := clogRoundRow.holds Try.pinned (OpenSpec.ofChange clogRoundWrong)

/-- 'commonslaw16.ClogScans': WHATEVER THE INPUT: true; the input reads as it did. -/
def clogScansSpec : ChangeSpec := { name := "clogScans", fn := fun _ => fun
  | [d1, d2, d3, d4, d5, d6] => { results := [.lit (.bool true)], args := [d1, d2, d3, d4, d5, d6] }
  | _ => none }
def clogScansRow : OpenClaim := { program := "ytnbgkkjhmdfmiaa", sum := "f2893512a38f65616b879fe8148efa38159f664151ed52f3a4348e9b532801ec", func := "commons/commonslaw16.ClogScans", spec := "clogScans", apart := false }
def ClogScansSaid : Prop := clogScansRow.holds Try.pinned (OpenSpec.ofChange clogScansSpec)

/-- ITS FALSE NEIGHBOUR: 'it returns false'. Refute it at one input. -/
def clogScansWrong : ChangeSpec := { name := "clogScans", fn := fun _ => fun
  | [d1, d2, d3, d4, d5, d6] => { results := [.lit (.bool false)], args := [d1, d2, d3, d4, d5, d6] }
  | _ => none }
def ClogScansWrongFalsely : Prop := clogScansRow.holds Try.pinned (OpenSpec.ofChange clogScansWrong)

/-- 'commonslaw16.ClogWhole': WHATEVER THE INPUT: true; the input reads as it did. -/
def clogWholeSpec : ChangeSpec := { name := "clogWhole", fn := fun _ => fun
  | [d1, d2, d3, d4] => { results := [.lit (.bool true)], args := [d1, d2, d3, d4] }
  | _ => none }
def clogWholeRow : OpenClaim := { program := "ytnbgkkjhmdfmiaa", sum := "f2893512a38f65616b879fe8148efa38159f664151ed52f3a4348e9b532801ec", func := "commons/commonslaw16.ClogWhole", spec := "clogWhole", apart := false }
def ClogWholeSaid : Prop := clogWholeRow.holds Try.pinned (OpenSpec.ofChange clogWholeSpec)

/-- ITS FALSE NEIGHBOUR: 'it returns false'. Refute it at one input. -/
def clogWholeWrong : ChangeSpec := { name := "clogWhole", fn := fun _ => fun
  | [d1, d2, d3, d4] => { results := [.lit (.bool false)], args := [d1, d2, d3, d4] }
  | _ => none }
def ClogWholeWrongFalsely : Prop := clogWholeRow.holds Try.pinned (OpenSpec.ofChange clogWholeWrong)

/- THE SECOND FORM. 'bulk': how many values and letters a reading holds, each counted each time it is reached (what is shared counts as often as it is met; a slice's spare places count too). A statement '..UptoSaid' is the law's where the arguments, and the package variables that the reading takes, are together of bulk at most 1048576: NARROWER than '..Said'. Prove '..Said' where nothing that the law and all that it calls make is longer than what came in: it says more and counts as full. Else prove '..UptoSaid'. A law counts once. -/
mutual
def uptoBulk {H : Type} : DataW H → Nat
  | .lit (.string bytes) => bytes.length + 1
  | .lit _ => 1
  | .nil => 1
  | .ptr d => uptoBulk d + 1
  | .slice elems spare => uptoBulkAll elems + uptoBulkAll spare + 1
  | .agg parts => uptoBulkAll parts + 1
  | .iface _ d => uptoBulk d + 1
  | .map entries => uptoBulkEntries entries + 1
  | .held _ => 1
def uptoBulkAll {H : Type} : List (DataW H) → Nat
  | [] => 0
  | d :: r => uptoBulk d + uptoBulkAll r
def uptoBulkEntries {H : Type} : List (Lit × DataW H) → Nat
  | [] => 0
  | x :: r => uptoBulkEntry x + uptoBulkEntries r
def uptoBulkEntry {H : Type} : Lit × DataW H → Nat
  | (.string bytes, d) => bytes.length + uptoBulk d + 1
  | (_, d) => uptoBulk d + 1
 end
def uptoSmall : (H : Type) → List (DataW H) → Bool := fun _ ds => decide (uptoBulkAll ds ≤ 1048576)
def OpenSpec.upto (s : _root_.Go.ChangeSpec) : _root_.Go.OpenSpec := { _root_.Go.OpenSpec.ofChange s with cond := some uptoSmall }

/-- 'commonslaw16.ClogEnds', WHERE WHAT IT READS IS OF BULK AT MOST 1048576: true; the input reads as it did. -/
def clogEndsUptoRow : OpenClaim := { program := "ytnbgkkjhmdfmiaa", sum := "f2893512a38f65616b879fe8148efa38159f664151ed52f3a4348e9b532801ec", func := "commons/commonslaw16.ClogEnds", spec := "clogEnds", apart := false, narrowed := true }
def ClogEndsUptoSaid : Prop := clogEndsUptoRow.holds Try.pinned (OpenSpec.upto clogEndsSpec)

/-- 'commonslaw16.ClogEncodes', WHERE WHAT IT READS IS OF BULK AT MOST 1048576: true; the input reads as it did. -/
def clogEncodesUptoRow : OpenClaim := { program := "ytnbgkkjhmdfmiaa", sum := "f2893512a38f65616b879fe8148efa38159f664151ed52f3a4348e9b532801ec", func := "commons/commonslaw16.ClogEncodes", spec := "clogEncodes", apart := false, narrowed := true }
def ClogEncodesUptoSaid : Prop := clogEncodesUptoRow.holds Try.pinned (OpenSpec.upto clogEncodesSpec)

/-- 'commonslaw16.ClogDecodes', WHERE WHAT IT READS IS OF BULK AT MOST 1048576: true; the input reads as it did. -/
def clogDecodesUptoRow : OpenClaim := { program := "ytnbgkkjhmdfmiaa", sum := "f2893512a38f65616b879fe8148efa38159f664151ed52f3a4348e9b532801ec", func := "commons/commonslaw16.ClogDecodes", spec := "clogDecodes", apart := false, narrowed := true }
def ClogDecodesUptoSaid : Prop := clogDecodesUptoRow.holds Try.pinned (OpenSpec.upto clogDecodesSpec)

/-- 'commonslaw16.ClogRound', WHERE WHAT IT READS IS OF BULK AT MOST 1048576: true; the input reads as it did. -/
def clogRoundUptoRow : OpenClaim := { program := "ytnbgkkjhmdfmiaa", sum := "f2893512a38f65616b879fe8148efa38159f664151ed52f3a4348e9b532801ec", func := "commons/commonslaw16.ClogRound", spec := "clogRound", apart := false, narrowed := true }
def ClogRoundUptoSaid : Prop := clogRoundUptoRow.holds Try.pinned (OpenSpec.upto clogRoundSpec)

/-- 'commonslaw16.ClogScans', WHERE WHAT IT READS IS OF BULK AT MOST 1048576: true; the input reads as it did. -/
def clogScansUptoRow : OpenClaim := { program := "ytnbgkkjhmdfmiaa", sum := "f2893512a38f65616b879fe8148efa38159f664151ed52f3a4348e9b532801ec", func := "commons/commonslaw16.ClogScans", spec := "clogScans", apart := false, narrowed := true }
def ClogScansUptoSaid : Prop := clogScansUptoRow.holds Try.pinned (OpenSpec.upto clogScansSpec)

/-- 'commonslaw16.ClogWhole', WHERE WHAT IT READS IS OF BULK AT MOST 1048576: true; the input reads as it did. -/
def clogWholeUptoRow : OpenClaim := { program := "ytnbgkkjhmdfmiaa", sum := "f2893512a38f65616b879fe8148efa38159f664151ed52f3a4348e9b532801ec", func := "commons/commonslaw16.ClogWhole", spec := "clogWhole", apart := false, narrowed := true }
def ClogWholeUptoSaid : Prop := clogWholeUptoRow.holds Try.pinned (OpenSpec.upto clogWholeSpec)

end Rows
end Go.Proofs.Ytnbgkkjhmdfmiaa
