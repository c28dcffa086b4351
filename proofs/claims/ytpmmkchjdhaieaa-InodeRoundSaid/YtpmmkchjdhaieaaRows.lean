/-
  No cell of these rows narrows 'for every input' (looked for: loops, veiled, ifaces, maps, wideKeys, modest, calm, conditions, laid).
  DERIVED. THE GIVEN ROWS OF THIS SEAT. 5 by the template 'for every input the law returns true; each argument reads behind the call as it read before'; 0 by the template 'total and deterministic' (their statements: YtpmmkchjdhaieaaTotals.lean).
  GIVEN WITH THE SEED: the statements are not yours to turn. If you find one false, say at which input.
  Laid BY PROGRAM, IN A SANDBOX (cutbox-rows.mjs): the forced cells as the released guide's own fill.sh prints them over the translation 3d75b434d7bcd91f… (all of the seat's roots in one cut). By AI agents, Wed Nov 11 2026. No macro, syntax, notation, axiom, sorry.
-/
import Derived.Test.YtpmmkchjdhaieaaChecked
import GoSem.Claim
import GoSem.ClaimJoined
import GoSem.ClaimMapViews
import Derived.JoinedTies
import Derived.KernelRfl
namespace Go.Proofs.Ytpmmkchjdhaieaa
/- THE CELL 'sum', in the pinned program and in every row, IS THE sha256 OF THE DUMP (.gsa) THAT YtpmmkchjdhaieaaProg.lean LOADS. Nothing in Lean hashes anything: it is a label: what it is worth is what the hold of that sum in a sandbox is worth. -/
noncomputable def Try.pinned : Pinned := { name := "ytpmmkchjdhaieaa", sum := "3d75b434d7bcd91f65ec7422a0796d822afa5b583d9649539742cf0c3cfab091", checked := Try.checked }
namespace Rows
def none {H : Type} : Left H := { results := [], args := [] }

/-- 'commonslaw11.InodePuts': WHATEVER THE INPUT: true; the input reads as it did. -/
def inodePutsSpec : ChangeSpec := { name := "inodePuts", fn := fun _ => fun
  | [d] => { results := [.lit (.bool true)], args := [d] }
  | _ => none }
def inodePutsRow : OpenClaim := { program := "ytpmmkchjdhaieaa", sum := "3d75b434d7bcd91f65ec7422a0796d822afa5b583d9649539742cf0c3cfab091", func := "commons/commonslaw11.InodePuts", spec := "inodePuts", apart := false }
def InodePutsSaid : Prop := inodePutsRow.holds Try.pinned (OpenSpec.ofChange inodePutsSpec)

/-- ITS FALSE NEIGHBOUR: 'it returns false'. Refute it at one input. -/
def inodePutsWrong : ChangeSpec := { name := "inodePuts", fn := fun _ => fun
  | [d] => { results := [.lit (.bool false)], args := [d] }
  | _ => none }
def InodePutsWrongFalsely : Prop := inodePutsRow.holds Try.pinned (OpenSpec.ofChange inodePutsWrong)

/-- 'commonslaw11.InodeNeeds': WHATEVER THE INPUT: true; the input reads as it did. -/
def inodeNeedsSpec : ChangeSpec := { name := "inodeNeeds", fn := fun _ => fun
  | [d1, d2] => { results := [.lit (.bool true)], args := [d1, d2] }
  | _ => none }
def inodeNeedsRow : OpenClaim := { program := "ytpmmkchjdhaieaa", sum := "3d75b434d7bcd91f65ec7422a0796d822afa5b583d9649539742cf0c3cfab091", func := "commons/commonslaw11.InodeNeeds", spec := "inodeNeeds", apart := false }
def InodeNeedsSaid : Prop := inodeNeedsRow.holds Try.pinned (OpenSpec.ofChange inodeNeedsSpec)

/-- ITS FALSE NEIGHBOUR: 'it returns false'. Refute it at one input. -/
def inodeNeedsWrong : ChangeSpec := { name := "inodeNeeds", fn := fun _ => fun
  | [d1, d2] => { results := [.lit (.bool false)], args := [d1, d2] }
  | _ => none }
def InodeNeedsWrongFalsely : Prop := inodeNeedsRow.holds Try.pinned (OpenSpec.ofChange inodeNeedsWrong)

/-- 'commonslaw11.InodeReads': WHATEVER THE INPUT: true; the input reads as it did. -/
def inodeReadsSpec : ChangeSpec := { name := "inodeReads", fn := fun _ => fun
  | [d] => { results := [.lit (.bool true)], args := [d] }
  | _ => none }
def inodeReadsRow : OpenClaim := { program := "ytpmmkchjdhaieaa", sum := "3d75b434d7bcd91f65ec7422a0796d822afa5b583d9649539742cf0c3cfab091", func := "commons/commonslaw11.InodeReads", spec := "inodeReads", apart := false }
def InodeReadsSaid : Prop := inodeReadsRow.holds Try.pinned (OpenSpec.ofChange inodeReadsSpec)

/-- ITS FALSE NEIGHBOUR: 'it returns false'. Refute it at one input. -/
def inodeReadsWrong : ChangeSpec := { name := "inodeReads", fn := fun _ => fun
  | [d] => { results := [.lit (.bool false)], args := [d] }
  | _ => none }
def InodeReadsWrongFalsely : Prop := inodeReadsRow.holds Try.pinned (OpenSpec.ofChange inodeReadsWrong)

/-- 'commonslaw11.InodeRound': WHATEVER THE INPUT: true; the input reads as it did. -/
def inodeRoundSpec : ChangeSpec := { name := "inodeRound", fn := fun _ => fun
  | [d1, d2] => { results := [.lit (.bool true)], args := [d1, d2] }
  | _ => none }
def inodeRoundRow : OpenClaim := { program := "ytpmmkchjdhaieaa", sum := "3d75b434d7bcd91f65ec7422a0796d822afa5b583d9649539742cf0c3cfab091", func := "commons/commonslaw11.InodeRound", spec := "inodeRound", apart := false }
def InodeRoundSaid : Prop := inodeRoundRow.holds Try.pinned (OpenSpec.ofChange inodeRoundSpec)

/-- ITS FALSE NEIGHBOUR: 'it returns false'. Refute it at one input. -/
def inodeRoundWrong : ChangeSpec := { name := "inodeRound", fn := fun _ => fun
  | [d1, d2] => { results := [.lit (.bool false)], args := [d1, d2] }
  | _ => none }
def InodeRoundWrongFalsely : Prop := inodeRoundRow.holds Try.pinned (OpenSpec.ofChange inodeRoundWrong)

/-- 'commonslaw11.InodeTurned': WHATEVER THE INPUT: true; the input reads as it did. -/
def inodeTurnedSpec : ChangeSpec := { name := "inodeTurned", fn := fun _ => fun
  | [d1, d2, d3] => { results := [.lit (.bool true)], args := [d1, d2, d3] }
  | _ => none }
def inodeTurnedRow : OpenClaim := { program := "ytpmmkchjdhaieaa", sum := "3d75b434d7bcd91f65ec7422a0796d822afa5b583d9649539742cf0c3cfab091", func := "commons/commonslaw11.InodeTurned", spec := "inodeTurned", apart := false }
def InodeTurnedSaid : Prop := inodeTurnedRow.holds Try.pinned (OpenSpec.ofChange inodeTurnedSpec)

/-- ITS FALSE NEIGHBOUR: 'it returns false'. Refute it at one input. -/
def inodeTurnedWrong : ChangeSpec := { name := "inodeTurned", fn := fun _ => fun
  | [d1, d2, d3] => { results := [.lit (.bool false)], args := [d1, d2, d3] }
  | _ => none }
def InodeTurnedWrongFalsely : Prop := inodeTurnedRow.holds Try.pinned (OpenSpec.ofChange inodeTurnedWrong)

/- THE SECOND FORM. 'bulk': how many values and letters a reading holds, each counted each time it is reached (what is shared counts as often as it is met; a slice's spare places count too). A statement '..UptoSaid' is the law's where the arguments, and the package variables that the reading takes, are together of bulk at most 1048576: NARROWER than '..Said'. Prove '..Said' where nothing that the law and all that it calls make is longer than what came in: it says more and counts as full. Else prove '..UptoSaid'. A law counts once. -/
mutual
def uptoBulk {H : Type} : DataW H → Nat
  | .lit (.string bytes) => bytes.length + 1
  | .lit _ => 1
  | .nil => 1
  | .ptr d => uptoBulk d + 1
  | .slice elems spare => uptoBulkAll elems + uptoBulkAll spare + 1
  | .agg parts => uptoBulkAll parts + 1
  | .iface _ d => uptoBulk d + 1
  | .map entries => uptoBulkEntries entries + 1
  | .held _ => 1
def uptoBulkAll {H : Type} : List (DataW H) → Nat
  | [] => 0
  | d :: r => uptoBulk d + uptoBulkAll r
def uptoBulkEntries {H : Type} : List (Lit × DataW H) → Nat
  | [] => 0
  | x :: r => uptoBulkEntry x + uptoBulkEntries r
def uptoBulkEntry {H : Type} : Lit × DataW H → Nat
  | (.string bytes, d) => bytes.length + uptoBulk d + 1
  | (_, d) => uptoBulk d + 1
 end
def uptoSmall : (H : Type) → List (DataW H) → Bool := fun _ ds => decide (uptoBulkAll ds ≤ 1048576)
def OpenSpec.upto (s : _root_.Go.ChangeSpec) : _root_.Go.OpenSpec := { _root_.Go.OpenSpec.ofChange s with cond := some uptoSmall }

/-- 'commonslaw11.InodePuts', WHERE WHAT IT READS IS OF BULK AT MOST 1048576: true; the input reads as it did. -/
def inodePutsUptoRow : OpenClaim := { program := "ytpmmkchjdhaieaa", sum := "3d75b434d7bcd91f65ec7422a0796d822afa5b583d9649539742cf0c3cfab091", func := "commons/commonslaw11.InodePuts", spec := "inodePuts", apart := false, narrowed := true }
def InodePutsUptoSaid : Prop := inodePutsUptoRow.holds Try.pinned (OpenSpec.upto inodePutsSpec)

/-- 'commonslaw11.InodeNeeds', WHERE WHAT IT READS IS OF BULK AT MOST 1048576: true; the input reads as it did. -/
def inodeNeedsUptoRow : OpenClaim := { program := "ytpmmkchjdhaieaa", sum := "3d75b434d7bcd91f65ec7422a0796d822afa5b583d9649539742cf0c3cfab091", func := "commons/commonslaw11.InodeNeeds", spec := "inodeNeeds", apart := false, narrowed := true }
def InodeNeedsUptoSaid : Prop := inodeNeedsUptoRow.holds Try.pinned (OpenSpec.upto inodeNeedsSpec)

/-- 'commonslaw11.InodeReads', WHERE WHAT IT READS IS OF BULK AT MOST 1048576: true; the input reads as it did. -/
def inodeReadsUptoRow : OpenClaim := { program := "ytpmmkchjdhaieaa", sum := "3d75b434d7bcd91f65ec7422a0796d822afa5b583d9649539742cf0c3cfab091", func := "commons/commonslaw11.InodeReads", spec := "inodeReads", apart := false, narrowed := true }
def InodeReadsUptoSaid : Prop := inodeReadsUptoRow.holds Try.pinned (OpenSpec.upto inodeReadsSpec)

/-- 'commonslaw11.InodeRound', WHERE WHAT IT READS IS OF BULK AT MOST 1048576: true; the input reads as it did. -/
def inodeRoundUptoRow : OpenClaim := { program := "ytpmmkchjdhaieaa", sum := "3d75b434d7bcd91f65ec7422a0796d822afa5b583d9649539742cf0c3cfab091", func := "commons/commonslaw11.InodeRound", spec := "inodeRound", apart := false, narrowed := true }
def InodeRoundUptoSaid : Prop := inodeRoundUptoRow.holds Try.pinned (OpenSpec.upto inodeRoundSpec)

/-- 'commonslaw11.InodeTurned', WHERE WHAT IT READS IS OF BULK AT MOST 1048576: true; the input reads as it did. -/
def inodeTurnedUptoRow : OpenClaim := { program := "ytpmmkchjdhaieaa", sum := "3d75b434d7bcd91f65ec7422a0796d822afa5b583d9649539742cf0c3cfab091", func := "commons/commonslaw11.InodeTurned", spec := "inodeTurned", apart := false, narrowed := true }
def InodeTurnedUptoSaid : Prop := inodeTurnedUptoRow.holds Try.pinned (OpenSpec.upto inodeTurnedSpec)

end Rows
end Go.Proofs.Ytpmmkchjdhaieaa
