/-
  No cell of these rows narrows 'for every input' (looked for: loops, veiled, ifaces, maps, wideKeys, modest, calm, conditions, laid).
  DERIVED. THE GIVEN ROWS OF THIS SEAT. 9 by the template 'for every input the law returns true; each argument reads behind the call as it read before'; 0 by the template 'total and deterministic' (their statements: YtjbdabjkgpamnaaTotals.lean).
  GIVEN WITH THE SEED: the statements are not yours to turn. If you find one false, say at which input.
  Laid BY PROGRAM, IN A SANDBOX (cutbox-rows.mjs): the forced cells as the released guide's own fill.sh prints them over the translation e50f5754d29367f9… (all of the seat's roots in one cut). By AI agents, Wed Nov 11 2026. No macro, syntax, notation, axiom, sorry.
-/
import Derived.Test.YtjbdabjkgpamnaaChecked
import GoSem.Claim
import GoSem.ClaimJoined
import GoSem.ClaimMapViews
import Derived.JoinedTies
import Derived.KernelRfl
namespace Go.Proofs.Ytjbdabjkgpamnaa
/- THE CELL 'sum', in the pinned program and in every row, IS THE sha256 OF THE DUMP (.gsa) THAT YtjbdabjkgpamnaaProg.lean LOADS. Nothing in Lean hashes anything: it is a label: what it is worth is what the hold of that sum in a sandbox is worth. -/
noncomputable def Try.pinned : Pinned := { name := "ytjbdabjkgpamnaa", sum := "e50f5754d29367f9f327ea3a2fca8289c533ccd3e5fa0c37bc8f85b502be792a", checked := Try.checked }
namespace Rows
def none {H : Type} : Left H := { results := [], args := [] }

/-- 'commonslaw01.NumPuts': WHATEVER THE INPUT: true; the input reads as it did. -/
def numPutsSpec : ChangeSpec := { name := "numPuts", fn := fun _ => fun
  | [d1, d2, d3] => { results := [.lit (.bool true)], args := [d1, d2, d3] }
  | _ => none }
def numPutsRow : OpenClaim := { program := "ytjbdabjkgpamnaa", sum := "e50f5754d29367f9f327ea3a2fca8289c533ccd3e5fa0c37bc8f85b502be792a", func := "commons/commonslaw01.NumPuts", spec := "numPuts", apart := false }
def NumPutsSaid : Prop := numPutsRow.holds Try.pinned (OpenSpec.ofChange numPutsSpec)

/-- ITS FALSE NEIGHBOUR: 'it returns false'. Refute it at one input. -/
def numPutsWrong : ChangeSpec := { name := "numPuts", fn := fun _ => fun
  | [d1, d2, d3] => { results := [.lit (.bool false)], args := [d1, d2, d3] }
  | _ => none }
def NumPutsWrongFalsely : Prop := numPutsRow.holds Try.pinned (OpenSpec.ofChange numPutsWrong)

/-- 'commonslaw01.NumGets': WHATEVER THE INPUT: true; the input reads as it did. -/
def numGetsSpec : ChangeSpec := { name := "numGets", fn := fun _ => fun
  | [d1, d2, d3] => { results := [.lit (.bool true)], args := [d1, d2, d3] }
  | _ => none }
def numGetsRow : OpenClaim := { program := "ytjbdabjkgpamnaa", sum := "e50f5754d29367f9f327ea3a2fca8289c533ccd3e5fa0c37bc8f85b502be792a", func := "commons/commonslaw01.NumGets", spec := "numGets", apart := false }
def NumGetsSaid : Prop := numGetsRow.holds Try.pinned (OpenSpec.ofChange numGetsSpec)

/-- ITS FALSE NEIGHBOUR: 'it returns false'. Refute it at one input. -/
def numGetsWrong : ChangeSpec := { name := "numGets", fn := fun _ => fun
  | [d1, d2, d3] => { results := [.lit (.bool false)], args := [d1, d2, d3] }
  | _ => none }
def NumGetsWrongFalsely : Prop := numGetsRow.holds Try.pinned (OpenSpec.ofChange numGetsWrong)

/-- 'commonslaw01.NumRound': WHATEVER THE INPUT: true; the input reads as it did. -/
def numRoundSpec : ChangeSpec := { name := "numRound", fn := fun _ => fun
  | [d1, d2, d3] => { results := [.lit (.bool true)], args := [d1, d2, d3] }
  | _ => none }
def numRoundRow : OpenClaim := { program := "ytjbdabjkgpamnaa", sum := "e50f5754d29367f9f327ea3a2fca8289c533ccd3e5fa0c37bc8f85b502be792a", func := "commons/commonslaw01.NumRound", spec := "numRound", apart := false }
def NumRoundSaid : Prop := numRoundRow.holds Try.pinned (OpenSpec.ofChange numRoundSpec)

/-- ITS FALSE NEIGHBOUR: 'it returns false'. Refute it at one input. -/
def numRoundWrong : ChangeSpec := { name := "numRound", fn := fun _ => fun
  | [d1, d2, d3] => { results := [.lit (.bool false)], args := [d1, d2, d3] }
  | _ => none }
def NumRoundWrongFalsely : Prop := numRoundRow.holds Try.pinned (OpenSpec.ofChange numRoundWrong)

/-- 'commonslaw01.NumAgain': WHATEVER THE INPUT: true; the input reads as it did. -/
def numAgainSpec : ChangeSpec := { name := "numAgain", fn := fun _ => fun
  | [d1, d2, d3] => { results := [.lit (.bool true)], args := [d1, d2, d3] }
  | _ => none }
def numAgainRow : OpenClaim := { program := "ytjbdabjkgpamnaa", sum := "e50f5754d29367f9f327ea3a2fca8289c533ccd3e5fa0c37bc8f85b502be792a", func := "commons/commonslaw01.NumAgain", spec := "numAgain", apart := false }
def NumAgainSaid : Prop := numAgainRow.holds Try.pinned (OpenSpec.ofChange numAgainSpec)

/-- ITS FALSE NEIGHBOUR: 'it returns false'. Refute it at one input. -/
def numAgainWrong : ChangeSpec := { name := "numAgain", fn := fun _ => fun
  | [d1, d2, d3] => { results := [.lit (.bool false)], args := [d1, d2, d3] }
  | _ => none }
def NumAgainWrongFalsely : Prop := numAgainRow.holds Try.pinned (OpenSpec.ofChange numAgainWrong)

/-- 'commonslaw01.NumRounds': WHATEVER THE INPUT: true; the input reads as it did. -/
def numRoundsSpec : ChangeSpec := { name := "numRounds", fn := fun _ => fun
  | [d1, d2] => { results := [.lit (.bool true)], args := [d1, d2] }
  | _ => none }
def numRoundsRow : OpenClaim := { program := "ytjbdabjkgpamnaa", sum := "e50f5754d29367f9f327ea3a2fca8289c533ccd3e5fa0c37bc8f85b502be792a", func := "commons/commonslaw01.NumRounds", spec := "numRounds", apart := false }
def NumRoundsSaid : Prop := numRoundsRow.holds Try.pinned (OpenSpec.ofChange numRoundsSpec)

/-- ITS FALSE NEIGHBOUR: 'it returns false'. Refute it at one input. -/
def numRoundsWrong : ChangeSpec := { name := "numRounds", fn := fun _ => fun
  | [d1, d2] => { results := [.lit (.bool false)], args := [d1, d2] }
  | _ => none }
def NumRoundsWrongFalsely : Prop := numRoundsRow.holds Try.pinned (OpenSpec.ofChange numRoundsWrong)

/-- 'commonslaw01.NumNear': WHATEVER THE INPUT: true; the input reads as it did. -/
def numNearSpec : ChangeSpec := { name := "numNear", fn := fun _ => fun
  | [d1, d2] => { results := [.lit (.bool true)], args := [d1, d2] }
  | _ => none }
def numNearRow : OpenClaim := { program := "ytjbdabjkgpamnaa", sum := "e50f5754d29367f9f327ea3a2fca8289c533ccd3e5fa0c37bc8f85b502be792a", func := "commons/commonslaw01.NumNear", spec := "numNear", apart := false }
def NumNearSaid : Prop := numNearRow.holds Try.pinned (OpenSpec.ofChange numNearSpec)

/-- ITS FALSE NEIGHBOUR: 'it returns false'. Refute it at one input. -/
def numNearWrong : ChangeSpec := { name := "numNear", fn := fun _ => fun
  | [d1, d2] => { results := [.lit (.bool false)], args := [d1, d2] }
  | _ => none }
def NumNearWrongFalsely : Prop := numNearRow.holds Try.pinned (OpenSpec.ofChange numNearWrong)

/-- 'commonslaw01.NumTurns': WHATEVER THE INPUT: true; the input reads as it did. -/
def numTurnsSpec : ChangeSpec := { name := "numTurns", fn := fun _ => fun
  | [d1, d2, d3] => { results := [.lit (.bool true)], args := [d1, d2, d3] }
  | _ => none }
def numTurnsRow : OpenClaim := { program := "ytjbdabjkgpamnaa", sum := "e50f5754d29367f9f327ea3a2fca8289c533ccd3e5fa0c37bc8f85b502be792a", func := "commons/commonslaw01.NumTurns", spec := "numTurns", apart := false }
def NumTurnsSaid : Prop := numTurnsRow.holds Try.pinned (OpenSpec.ofChange numTurnsSpec)

/-- ITS FALSE NEIGHBOUR: 'it returns false'. Refute it at one input. -/
def numTurnsWrong : ChangeSpec := { name := "numTurns", fn := fun _ => fun
  | [d1, d2, d3] => { results := [.lit (.bool false)], args := [d1, d2, d3] }
  | _ => none }
def NumTurnsWrongFalsely : Prop := numTurnsRow.holds Try.pinned (OpenSpec.ofChange numTurnsWrong)

/-- 'commonslaw01.NumOwns': WHATEVER THE INPUT: true; the input reads as it did. -/
def numOwnsSpec : ChangeSpec := { name := "numOwns", fn := fun _ => fun
  | [d1, d2, d3] => { results := [.lit (.bool true)], args := [d1, d2, d3] }
  | _ => none }
def numOwnsRow : OpenClaim := { program := "ytjbdabjkgpamnaa", sum := "e50f5754d29367f9f327ea3a2fca8289c533ccd3e5fa0c37bc8f85b502be792a", func := "commons/commonslaw01.NumOwns", spec := "numOwns", apart := false }
def NumOwnsSaid : Prop := numOwnsRow.holds Try.pinned (OpenSpec.ofChange numOwnsSpec)

/-- ITS FALSE NEIGHBOUR: 'it returns false'. Refute it at one input. -/
def numOwnsWrong : ChangeSpec := { name := "numOwns", fn := fun _ => fun
  | [d1, d2, d3] => { results := [.lit (.bool false)], args := [d1, d2, d3] }
  | _ => none }
def NumOwnsWrongFalsely : Prop := numOwnsRow.holds Try.pinned (OpenSpec.ofChange numOwnsWrong)

/-- 'commonslaw01.NumSets': WHATEVER THE INPUT: true; the input reads as it did. -/
def numSetsSpec : ChangeSpec := { name := "numSets", fn := fun _ => fun
  | [d1, d2, d3, d4] => { results := [.lit (.bool true)], args := [d1, d2, d3, d4] }
  | _ => none }
def numSetsRow : OpenClaim := { program := "ytjbdabjkgpamnaa", sum := "e50f5754d29367f9f327ea3a2fca8289c533ccd3e5fa0c37bc8f85b502be792a", func := "commons/commonslaw01.NumSets", spec := "numSets", apart := false }
def NumSetsSaid : Prop := numSetsRow.holds Try.pinned (OpenSpec.ofChange numSetsSpec)

/-- ITS FALSE NEIGHBOUR: 'it returns false'. Refute it at one input. -/
def numSetsWrong : ChangeSpec := { name := "numSets", fn := fun _ => fun
  | [d1, d2, d3, d4] => { results := [.lit (.bool false)], args := [d1, d2, d3, d4] }
  | _ => none }
def NumSetsWrongFalsely : Prop := numSetsRow.holds Try.pinned (OpenSpec.ofChange numSetsWrong)

/- THE SECOND FORM. 'bulk': how many values and letters a reading holds, each counted each time it is reached (what is shared counts as often as it is met; a slice's spare places count too). A statement '..UptoSaid' is the law's where the arguments, and the package variables that the reading takes, are together of bulk at most 1048576: NARROWER than '..Said'. Prove '..Said' where nothing that the law and all that it calls make is longer than what came in: it says more and counts as full. Else prove '..UptoSaid'. A law counts once. -/
mutual
def uptoBulk {H : Type} : DataW H → Nat
  | .lit (.string bytes) => bytes.length + 1
  | .lit _ => 1
  | .nil => 1
  | .ptr d => uptoBulk d + 1
  | .slice elems spare => uptoBulkAll elems + uptoBulkAll spare + 1
  | .agg parts => uptoBulkAll parts + 1
  | .iface _ d => uptoBulk d + 1
  | .map entries => uptoBulkEntries entries + 1
  | .held _ => 1
def uptoBulkAll {H : Type} : List (DataW H) → Nat
  | [] => 0
  | d :: r => uptoBulk d + uptoBulkAll r
def uptoBulkEntries {H : Type} : List (Lit × DataW H) → Nat
  | [] => 0
  | x :: r => uptoBulkEntry x + uptoBulkEntries r
def uptoBulkEntry {H : Type} : Lit × DataW H → Nat
  | (.string bytes, d) => bytes.length + uptoBulk d + 1
  | (_, d) => uptoBulk d + 1
 end
def uptoSmall : (H : Type) → List (DataW H) → Bool := fun _ ds => decide (uptoBulkAll ds ≤ 1048576)
def OpenSpec.upto (s : _root_.Go.ChangeSpec) : _root_.Go.OpenSpec := { _root_.Go.OpenSpec.ofChange s with cond := some uptoSmall }

/-- 'commonslaw01.NumPuts', WHERE WHAT IT READS IS OF BULK AT MOST 1048576: true; the input reads as it did. -/
def numPutsUptoRow : OpenClaim := { program := "ytjbdabjkgpamnaa", sum := "e50f5754d29367f9f327ea3a2fca8289c533ccd3e5fa0c37bc8f85b502be792a", func := "commons/commonslaw01.NumPuts", spec := "numPuts", apart := false, narrowed := true }
def NumPutsUptoSaid : Prop := numPutsUptoRow.holds Try.pinned (OpenSpec.upto numPutsSpec)

/-- 'commonslaw01.NumGets', WHERE WHAT IT READS IS OF BULK AT MOST 1048576: true; the input reads as it did. -/
def numGetsUptoRow : OpenClaim := { program := "ytjbdabjkgpamnaa", sum := "e50f5754d29367f9f327ea3a2fca8289c533ccd3e5fa0c37bc8f85b502be792a", func := "commons/commonslaw01.NumGets", spec := "numGets", apart := false, narrowed := true }
def NumGetsUptoSaid : Prop := numGetsUptoRow.holds Try.pinned (OpenSpec.upto numGetsSpec)

/-- 'commonslaw01.NumRound', WHERE WHAT IT READS IS OF BULK AT MOST 1048576: true; the input reads as it did. -/
def numRoundUptoRow : OpenClaim := { program := "ytjbdabjkgpamnaa", sum := "e50f5754d29367f9f327ea3a2fca8289c533ccd3e5fa0c37bc8f85b502be792a", func := "commons/commonslaw01.NumRound", spec := "numRound", apart := false, narrowed := true }
def NumRoundUptoSaid : Prop := numRoundUptoRow.holds Try.pinned (OpenSpec.upto numRoundSpec)

/-- 'commonslaw01.NumAgain', WHERE WHAT IT READS IS OF BULK AT MOST 1048576: true; the input reads as it did. -/
def numAgainUptoRow : OpenClaim := { program := "ytjbdabjkgpamnaa", sum := "e50f5754d29367f9f327ea3a2fca8289c533ccd3e5fa0c37bc8f85b502be792a", func := "commons/commonslaw01.NumAgain", spec := "numAgain", apart := false, narrowed := true }
def NumAgainUptoSaid : Prop := numAgainUptoRow.holds Try.pinned (OpenSpec.upto numAgainSpec)

/-- 'commonslaw01.NumRounds', WHERE WHAT IT READS IS OF BULK AT MOST 1048576: true; the input reads as it did. -/
def numRoundsUptoRow : OpenClaim := { program := "ytjbdabjkgpamnaa", sum := "e50f5754d29367f9f327ea3a2fca8289c533ccd3e5fa0c37bc8f85b502be792a", func := "commons/commonslaw01.NumRounds", spec := "numRounds", apart := false, narrowed := true }
def NumRoundsUptoSaid : Prop := numRoundsUptoRow.holds Try.pinned (OpenSpec.upto numRoundsSpec)

/-- 'commonslaw01.NumNear', WHERE WHAT IT READS IS OF BULK AT MOST 1048576: true; the input reads as it did. -/
def numNearUptoRow : OpenClaim := { program := "ytjbdabjkgpamnaa", sum := "e50f5754d29367f9f327ea3a2fca8289c533ccd3e5fa0c37bc8f85b502be792a", func := "commons/commonslaw01.NumNear", spec := "numNear", apart := false, narrowed := true }
def NumNearUptoSaid : Prop := numNearUptoRow.holds Try.pinned (OpenSpec.upto numNearSpec)

/-- 'commonslaw01.NumTurns', WHERE WHAT IT READS IS OF BULK AT MOST 1048576: true; the input reads as it did. -/
def numTurnsUptoRow : OpenClaim := { program := "ytjbdabjkgpamnaa", sum := "e50f5754d29367f9f327ea3a2fca8289c533ccd3e5fa0c37bc8f85b502be792a", func := "commons/commonslaw01.NumTurns", spec := "numTurns", apart := false, narrowed := true }
def NumTurnsUptoSaid : Prop := numTurnsUptoRow.holds Try.pinned (OpenSpec.upto numTurnsSpec)

/-- 'commonslaw01.NumOwns', WHERE WHAT IT READS IS OF BULK AT MOST 1048576: true; the input reads as it did. -/
def numOwnsUptoRow : OpenClaim := { program := "ytjbdabjkgpamnaa", sum := "e50f5754d29367f9f327ea3a2fca8289c533ccd3e5fa0c37bc8f85b502be792a", func := "commons/commonslaw01.NumOwns", spec := "numOwns", apart := false, narrowed := true }
def NumOwnsUptoSaid : Prop := numOwnsUptoRow.holds Try.pinned (OpenSpec.upto numOwnsSpec)

/-- 'commonslaw01.NumSets', WHERE WHAT IT READS IS OF BULK AT MOST 1048576: true; the input reads as it did. -/
def numSetsUptoRow : OpenClaim := { program := "ytjbdabjkgpamnaa", sum := "e50f5754d29367f9f327ea3a2fca8289c533ccd3e5fa0c37bc8f85b502be792a", func := "commons/commonslaw01.NumSets", spec := "numSets", apart := false, narrowed := true }
def NumSetsUptoSaid : Prop := numSetsUptoRow.holds Try.pinned (OpenSpec.upto numSetsSpec)

end Rows
end Go.Proofs.Ytjbdabjkgpamnaa
