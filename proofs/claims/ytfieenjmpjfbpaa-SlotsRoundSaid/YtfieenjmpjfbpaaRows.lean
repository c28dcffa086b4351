/-
  No cell of these rows narrows 'for every input' (looked for: loops, veiled, ifaces, maps, wideKeys, modest, calm, conditions, laid).
  DERIVED. THE GIVEN ROWS OF THIS SEAT. 5 by the template 'for every input the law returns true; each argument reads behind the call as it read before'; 0 by the template 'total and deterministic' (their statements: YtfieenjmpjfbpaaTotals.lean).
  GIVEN WITH THE SEED: the statements are not yours to turn. If you find one false, say at which input.
  Laid BY PROGRAM, IN A SANDBOX (cutbox-rows.mjs): the forced cells as the released guide's own fill.sh prints them over the translation 5fd320f78bcb7562… (all of the seat's roots in one cut). By AI agents, Wed Nov 11 2026. No macro, syntax, notation, axiom, sorry.
-/
import Derived.Test.YtfieenjmpjfbpaaChecked
import GoSem.Claim
import GoSem.ClaimJoined
import GoSem.ClaimMapViews
import Derived.JoinedTies
import Derived.KernelRfl
namespace Go.Proofs.Ytfieenjmpjfbpaa
/- THE CELL 'sum', in the pinned program and in every row, IS THE sha256 OF THE DUMP (.gsa) THAT YtfieenjmpjfbpaaProg.lean LOADS. Nothing in Lean hashes anything: it is a label: what it is worth is what the hold of that sum in a sandbox is worth. -/
noncomputable def Try.pinned : Pinned := { name := "ytfieenjmpjfbpaa", sum := "5fd320f78bcb7562121588b4837c935764e4a2ee9e9efedf5e1f6e6f032f0fe8", checked := Try.checked }
namespace Rows
def none {H : Type} : Left H := { results := [], args := [] }

/-- 'commonslaw13.SlotsPuts': WHATEVER THE INPUT: true; the input reads as it did. -/
def slotsPutsSpec : ChangeSpec := { name := "slotsPuts", fn := fun _ => fun
  | [d] => { results := [.lit (.bool true)], args := [d] }
  | _ => none }
def slotsPutsRow : OpenClaim := { program := "ytfieenjmpjfbpaa", sum := "5fd320f78bcb7562121588b4837c935764e4a2ee9e9efedf5e1f6e6f032f0fe8", func := "commons/commonslaw13.SlotsPuts", spec := "slotsPuts", apart := false }
def SlotsPutsSaid : Prop := slotsPutsRow.holds Try.pinned (OpenSpec.ofChange slotsPutsSpec)

/-- ITS FALSE NEIGHBOUR: 'it returns false'. Refute it at one input. -/
def slotsPutsWrong : ChangeSpec := { name := "slotsPuts", fn := fun _ => fun
  | [d] => { results := [.lit (.bool false)], args := [d] }
  | _ => none }
def SlotsPutsWrongFalsely : Prop := slotsPutsRow.holds Try.pinned (OpenSpec.ofChange slotsPutsWrong)

/-- 'commonslaw13.SlotsHeads': WHATEVER THE INPUT: true; the input reads as it did. -/
def slotsHeadsSpec : ChangeSpec := { name := "slotsHeads", fn := fun _ => fun
  | [d1, d2] => { results := [.lit (.bool true)], args := [d1, d2] }
  | _ => none }
def slotsHeadsRow : OpenClaim := { program := "ytfieenjmpjfbpaa", sum := "5fd320f78bcb7562121588b4837c935764e4a2ee9e9efedf5e1f6e6f032f0fe8", func := "commons/commonslaw13.SlotsHeads", spec := "slotsHeads", apart := false }
def SlotsHeadsSaid : Prop := slotsHeadsRow.holds Try.pinned (OpenSpec.ofChange slotsHeadsSpec)

/-- ITS FALSE NEIGHBOUR: 'it returns false'. Refute it at one input. -/
def slotsHeadsWrong : ChangeSpec := { name := "slotsHeads", fn := fun _ => fun
  | [d1, d2] => { results := [.lit (.bool false)], args := [d1, d2] }
  | _ => none }
def SlotsHeadsWrongFalsely : Prop := slotsHeadsRow.holds Try.pinned (OpenSpec.ofChange slotsHeadsWrong)

/-- 'commonslaw13.SlotsReads': WHATEVER THE INPUT: true; the input reads as it did. -/
def slotsReadsSpec : ChangeSpec := { name := "slotsReads", fn := fun _ => fun
  | [d] => { results := [.lit (.bool true)], args := [d] }
  | _ => none }
def slotsReadsRow : OpenClaim := { program := "ytfieenjmpjfbpaa", sum := "5fd320f78bcb7562121588b4837c935764e4a2ee9e9efedf5e1f6e6f032f0fe8", func := "commons/commonslaw13.SlotsReads", spec := "slotsReads", unfollowed := true, recurses := true, apart := false }
def SlotsReadsSaid : Prop := slotsReadsRow.holds Try.pinned (OpenSpec.ofChange slotsReadsSpec)

/-- ITS FALSE NEIGHBOUR: 'it returns false'. Refute it at one input. -/
def slotsReadsWrong : ChangeSpec := { name := "slotsReads", fn := fun _ => fun
  | [d] => { results := [.lit (.bool false)], args := [d] }
  | _ => none }
def SlotsReadsWrongFalsely : Prop := slotsReadsRow.holds Try.pinned (OpenSpec.ofChange slotsReadsWrong)

/-- 'commonslaw13.SlotsTurned': WHATEVER THE INPUT: true; the input reads as it did. -/
def slotsTurnedSpec : ChangeSpec := { name := "slotsTurned", fn := fun _ => fun
  | [d1, d2, d3] => { results := [.lit (.bool true)], args := [d1, d2, d3] }
  | _ => none }
def slotsTurnedRow : OpenClaim := { program := "ytfieenjmpjfbpaa", sum := "5fd320f78bcb7562121588b4837c935764e4a2ee9e9efedf5e1f6e6f032f0fe8", func := "commons/commonslaw13.SlotsTurned", spec := "slotsTurned", unfollowed := true, recurses := true, apart := false }
def SlotsTurnedSaid : Prop := slotsTurnedRow.holds Try.pinned (OpenSpec.ofChange slotsTurnedSpec)

/-- ITS FALSE NEIGHBOUR: 'it returns false'. Refute it at one input. -/
def slotsTurnedWrong : ChangeSpec := { name := "slotsTurned", fn := fun _ => fun
  | [d1, d2, d3] => { results := [.lit (.bool false)], args := [d1, d2, d3] }
  | _ => none }
def SlotsTurnedWrongFalsely : Prop := slotsTurnedRow.holds Try.pinned (OpenSpec.ofChange slotsTurnedWrong)

/-- 'commonslaw13.SlotsRound': WHATEVER THE INPUT: true; the input reads as it did. -/
def slotsRoundSpec : ChangeSpec := { name := "slotsRound", fn := fun _ => fun
  | [d1, d2, d3] => { results := [.lit (.bool true)], args := [d1, d2, d3] }
  | _ => none }
def slotsRoundRow : OpenClaim := { program := "ytfieenjmpjfbpaa", sum := "5fd320f78bcb7562121588b4837c935764e4a2ee9e9efedf5e1f6e6f032f0fe8", func := "commons/commonslaw13.SlotsRound", spec := "slotsRound", unfollowed := true, recurses := true, apart := false }
def SlotsRoundSaid : Prop := slotsRoundRow.holds Try.pinned (OpenSpec.ofChange slotsRoundSpec)

/-- ITS FALSE NEIGHBOUR: 'it returns false'. Refute it at one input. -/
def slotsRoundWrong : ChangeSpec := { name := "slotsRound", fn := fun _ => fun
  | [d1, d2, d3] => { results := [.lit (.bool false)], args := [d1, d2, d3] }
  | _ => none }
def SlotsRoundWrongFalsely : Prop := slotsRoundRow.holds Try.pinned (OpenSpec.ofChange slotsRoundWrong)

/- THE SECOND FORM. 'bulk': how many values and letters a reading holds, each counted each time it is reached (what is shared counts as often as it is met; a slice's spare places count too). A statement '..UptoSaid' is the law's where the arguments, and the package variables that the reading takes, are together of bulk at most 1048576: NARROWER than '..Said'. Prove '..Said' where nothing that the law and all that it calls make is longer than what came in: it says more and counts as full. Else prove '..UptoSaid'. A law counts once. -/
mutual
def uptoBulk {H : Type} : DataW H → Nat
  | .lit (.string bytes) => bytes.length + 1
  | .lit _ => 1
  | .nil => 1
  | .ptr d => uptoBulk d + 1
  | .slice elems spare => uptoBulkAll elems + uptoBulkAll spare + 1
  | .agg parts => uptoBulkAll parts + 1
  | .iface _ d => uptoBulk d + 1
  | .map entries => uptoBulkEntries entries + 1
  | .held _ => 1
def uptoBulkAll {H : Type} : List (DataW H) → Nat
  | [] => 0
  | d :: r => uptoBulk d + uptoBulkAll r
def uptoBulkEntries {H : Type} : List (Lit × DataW H) → Nat
  | [] => 0
  | x :: r => uptoBulkEntry x + uptoBulkEntries r
def uptoBulkEntry {H : Type} : Lit × DataW H → Nat
  | (.string bytes, d) => bytes.length + uptoBulk d + 1
  | (_, d) => uptoBulk d + 1
 end
def uptoSmall : (H : Type) → List (DataW H) → Bool := fun _ ds => decide (uptoBulkAll ds ≤ 1048576)
def OpenSpec.upto (s : _root_.Go.ChangeSpec) : _root_.Go.OpenSpec := { _root_.Go.OpenSpec.ofChange s with cond := some uptoSmall }

/-- 'commonslaw13.SlotsPuts', WHERE WHAT IT READS IS OF BULK AT MOST 1048576: true; the input reads as it did. -/
def slotsPutsUptoRow : OpenClaim := { program := "ytfieenjmpjfbpaa", sum := "5fd320f78bcb7562121588b4837c935764e4a2ee9e9efedf5e1f6e6f032f0fe8", func := "commons/commonslaw13.SlotsPuts", spec := "slotsPuts", apart := false, narrowed := true }
def SlotsPutsUptoSaid : Prop := slotsPutsUptoRow.holds Try.pinned (OpenSpec.upto slotsPutsSpec)

/-- 'commonslaw13.SlotsHeads', WHERE WHAT IT READS IS OF BULK AT MOST 1048576: true; the input reads as it did. -/
def slotsHeadsUptoRow : OpenClaim := { program := "ytfieenjmpjfbpaa", sum := "5fd320f78bcb7562121588b4837c935764e4a2ee9e9efedf5e1f6e6f032f0fe8", func := "commons/commonslaw13.SlotsHeads", spec := "slotsHeads", apart := false, narrowed := true }
def SlotsHeadsUptoSaid : Prop := slotsHeadsUptoRow.holds Try.pinned (OpenSpec.upto slotsHeadsSpec)

/-- 'commonslaw13.SlotsReads', WHERE WHAT IT READS IS OF BULK AT MOST 1048576: true; the input reads as it did. -/
def slotsReadsUptoRow : OpenClaim := { program := "ytfieenjmpjfbpaa", sum := "5fd320f78bcb7562121588b4837c935764e4a2ee9e9efedf5e1f6e6f032f0fe8", func := "commons/commonslaw13.SlotsReads", spec := "slotsReads", unfollowed := true, recurses := true, apart := false, narrowed := true }
def SlotsReadsUptoSaid : Prop := slotsReadsUptoRow.holds Try.pinned (OpenSpec.upto slotsReadsSpec)

/-- 'commonslaw13.SlotsTurned', WHERE WHAT IT READS IS OF BULK AT MOST 1048576: true; the input reads as it did. -/
def slotsTurnedUptoRow : OpenClaim := { program := "ytfieenjmpjfbpaa", sum := "5fd320f78bcb7562121588b4837c935764e4a2ee9e9efedf5e1f6e6f032f0fe8", func := "commons/commonslaw13.SlotsTurned", spec := "slotsTurned", unfollowed := true, recurses := true, apart := false, narrowed := true }
def SlotsTurnedUptoSaid : Prop := slotsTurnedUptoRow.holds Try.pinned (OpenSpec.upto slotsTurnedSpec)

/-- 'commonslaw13.SlotsRound', WHERE WHAT IT READS IS OF BULK AT MOST 1048576: true; the input reads as it did. -/
def slotsRoundUptoRow : OpenClaim := { program := "ytfieenjmpjfbpaa", sum := "5fd320f78bcb7562121588b4837c935764e4a2ee9e9efedf5e1f6e6f032f0fe8", func := "commons/commonslaw13.SlotsRound", spec := "slotsRound", unfollowed := true, recurses := true, apart := false, narrowed := true }
def SlotsRoundUptoSaid : Prop := slotsRoundUptoRow.holds Try.pinned (OpenSpec.upto slotsRoundSpec)

end Rows
end Go.Proofs.Ytfieenjmpjfbpaa
