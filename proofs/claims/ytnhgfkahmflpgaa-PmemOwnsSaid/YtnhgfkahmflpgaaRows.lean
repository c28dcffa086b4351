/-
  No cell of these rows narrows 'for every input' (looked for: loops, veiled, ifaces, maps, wideKeys, modest, calm, conditions, laid).
  DERIVED. THE GIVEN ROWS OF THIS SEAT. 6 by the template 'for every input the law returns true; each argument reads behind the call as it read before'; 0 by the template 'total and deterministic' (their statements: YtnhgfkahmflpgaaTotals.lean).
  GIVEN WITH THE SEED: the statements are not yours to turn. If you find one false, say at which input.
  Laid BY PROGRAM, IN A SANDBOX (cutbox-rows.mjs): the forced cells as the released guide's own fill.sh prints them over the translation 42b4b1d51ba18d76… (all of the seat's roots in one cut). By AI agents, Wed Nov 11 2026. No macro, syntax, notation, axiom, sorry.
-/
import Derived.Test.YtnhgfkahmflpgaaChecked
import GoSem.Claim
import GoSem.ClaimJoined
import GoSem.ClaimMapViews
import Derived.JoinedTies
import Derived.KernelRfl
namespace Go.Proofs.Ytnhgfkahmflpgaa
/- THE CELL 'sum', in the pinned program and in every row, IS THE sha256 OF THE DUMP (.gsa) THAT YtnhgfkahmflpgaaProg.lean LOADS. Nothing in Lean hashes anything: it is a label: what it is worth is what the hold of that sum in a sandbox is worth. -/
noncomputable def Try.pinned : Pinned := { name := "ytnhgfkahmflpgaa", sum := "42b4b1d51ba18d7698a1cc9e929609e4b7ddda981db3a3aa77c32511c04d9386", checked := Try.checked }
namespace Rows
def none {H : Type} : Left H := { results := [], args := [] }

/-- 'commonslaw03.PmemSizes': WHATEVER THE INPUT: true; the input reads as it did. -/
def pmemSizesSpec : ChangeSpec := { name := "pmemSizes", fn := fun _ => fun
  | [d] => { results := [.lit (.bool true)], args := [d] }
  | _ => none }
def pmemSizesRow : OpenClaim := { program := "ytnhgfkahmflpgaa", sum := "42b4b1d51ba18d7698a1cc9e929609e4b7ddda981db3a3aa77c32511c04d9386", func := "commons/commonslaw03.PmemSizes", spec := "pmemSizes", unfollowed := true, recurses := true, apart := false }
def PmemSizesSaid : Prop := pmemSizesRow.holds Try.pinned (OpenSpec.ofChange pmemSizesSpec)

/-- ITS FALSE NEIGHBOUR: 'it returns false'. Refute it at one input. -/
def pmemSizesWrong : ChangeSpec := { name := "pmemSizes", fn := fun _ => fun
  | [d] => { results := [.lit (.bool false)], args := [d] }
  | _ => none }
def PmemSizesWrongFalsely : Prop := pmemSizesRow.holds Try.pinned (OpenSpec.ofChange pmemSizesWrong)

/-- 'commonslaw03.PmemLasts': WHATEVER THE INPUT: true; the input reads as it did. -/
def pmemLastsSpec : ChangeSpec := { name := "pmemLasts", fn := fun _ => fun
  | [d1, d2, d3, d4] => { results := [.lit (.bool true)], args := [d1, d2, d3, d4] }
  | _ => none }
def pmemLastsRow : OpenClaim := { program := "ytnhgfkahmflpgaa", sum := "42b4b1d51ba18d7698a1cc9e929609e4b7ddda981db3a3aa77c32511c04d9386", func := "commons/commonslaw03.PmemLasts", spec := "pmemLasts", unfollowed := true, recurses := true, apart := false }
def PmemLastsSaid : Prop := pmemLastsRow.holds Try.pinned (OpenSpec.ofChange pmemLastsSpec)

/-- ITS FALSE NEIGHBOUR: 'it returns false'. Refute it at one input. -/
def pmemLastsWrong : ChangeSpec := { name := "pmemLasts", fn := fun _ => fun
  | [d1, d2, d3, d4] => { results := [.lit (.bool false)], args := [d1, d2, d3, d4] }
  | _ => none }
def PmemLastsWrongFalsely : Prop := pmemLastsRow.holds Try.pinned (OpenSpec.ofChange pmemLastsWrong)

/-- 'commonslaw03.PmemPlays': WHATEVER THE INPUT: true; the input reads as it did. -/
def pmemPlaysSpec : ChangeSpec := { name := "pmemPlays", fn := fun _ => fun
  | [d1, d2] => { results := [.lit (.bool true)], args := [d1, d2] }
  | _ => none }
def pmemPlaysRow : OpenClaim := { program := "ytnhgfkahmflpgaa", sum := "42b4b1d51ba18d7698a1cc9e929609e4b7ddda981db3a3aa77c32511c04d9386", func := "commons/commonslaw03.PmemPlays", spec := "pmemPlays", unfollowed := true, recurses := true, apart := false }
def PmemPlaysSaid : Prop := pmemPlaysRow.holds Try.pinned (OpenSpec.ofChange pmemPlaysSpec)

/-- ITS FALSE NEIGHBOUR: 'it returns false'. Refute it at one input. -/
def pmemPlaysWrong : ChangeSpec := { name := "pmemPlays", fn := fun _ => fun
  | [d1, d2] => { results := [.lit (.bool false)], args := [d1, d2] }
  | _ => none }
def PmemPlaysWrongFalsely : Prop := pmemPlaysRow.holds Try.pinned (OpenSpec.ofChange pmemPlaysWrong)

/-- 'commonslaw03.PmemCells': WHATEVER THE INPUT: true; the input reads as it did. -/
def pmemCellsSpec : ChangeSpec := { name := "pmemCells", fn := fun _ => fun
  | [d1, d2, d3] => { results := [.lit (.bool true)], args := [d1, d2, d3] }
  | _ => none }
def pmemCellsRow : OpenClaim := { program := "ytnhgfkahmflpgaa", sum := "42b4b1d51ba18d7698a1cc9e929609e4b7ddda981db3a3aa77c32511c04d9386", func := "commons/commonslaw03.PmemCells", spec := "pmemCells", unfollowed := true, recurses := true, apart := false }
def PmemCellsSaid : Prop := pmemCellsRow.holds Try.pinned (OpenSpec.ofChange pmemCellsSpec)

/-- ITS FALSE NEIGHBOUR: 'it returns false'. Refute it at one input. -/
def pmemCellsWrong : ChangeSpec := { name := "pmemCells", fn := fun _ => fun
  | [d1, d2, d3] => { results := [.lit (.bool false)], args := [d1, d2, d3] }
  | _ => none }
def PmemCellsWrongFalsely : Prop := pmemCellsRow.holds Try.pinned (OpenSpec.ofChange pmemCellsWrong)

/-- 'commonslaw03.PmemElse': WHATEVER THE INPUT: true; the input reads as it did. -/
def pmemElseSpec : ChangeSpec := { name := "pmemElse", fn := fun _ => fun
  | [d1, d2, d3] => { results := [.lit (.bool true)], args := [d1, d2, d3] }
  | _ => none }
def pmemElseRow : OpenClaim := { program := "ytnhgfkahmflpgaa", sum := "42b4b1d51ba18d7698a1cc9e929609e4b7ddda981db3a3aa77c32511c04d9386", func := "commons/commonslaw03.PmemElse", spec := "pmemElse", unfollowed := true, recurses := true, apart := false }
def PmemElseSaid : Prop := pmemElseRow.holds Try.pinned (OpenSpec.ofChange pmemElseSpec)

/-- ITS FALSE NEIGHBOUR: 'it returns false'. Refute it at one input. -/
def pmemElseWrong : ChangeSpec := { name := "pmemElse", fn := fun _ => fun
  | [d1, d2, d3] => { results := [.lit (.bool false)], args := [d1, d2, d3] }
  | _ => none }
def PmemElseWrongFalsely : Prop := pmemElseRow.holds Try.pinned (OpenSpec.ofChange pmemElseWrong)

/-- 'commonslaw03.PmemOwns': WHATEVER THE INPUT: true; the input reads as it did. -/
def pmemOwnsSpec : ChangeSpec := { name := "pmemOwns", fn := fun _ => fun
  | [d] => { results := [.lit (.bool true)], args := [d] }
  | _ => none }
def pmemOwnsRow : OpenClaim := { program := "ytnhgfkahmflpgaa", sum := "42b4b1d51ba18d7698a1cc9e929609e4b7ddda981db3a3aa77c32511c04d9386", func := "commons/commonslaw03.PmemOwns", spec := "pmemOwns", unfollowed := true, recurses := true, apart := false }
def PmemOwnsSaid : Prop := pmemOwnsRow.holds Try.pinned (OpenSpec.ofChange pmemOwnsSpec)

/-- ITS FALSE NEIGHBOUR: 'it returns false'. Refute it at one input. -/
def pmemOwnsWrong : ChangeSpec := { name := "pmemOwns", fn := fun _ => fun
  | [d] => { results := [.lit (.bool false)], args := [d] }
  | _ => none }
def PmemOwnsWrongFalsely : Prop := pmemOwnsRow.holds Try.pinned (OpenSpec.ofChange pmemOwnsWrong)

/- THE SECOND FORM. 'bulk': how many values and letters a reading holds, each counted each time it is reached (what is shared counts as often as it is met; a slice's spare places count too). A statement '..UptoSaid' is the law's where the arguments, and the package variables that the reading takes, are together of bulk at most 1048576: NARROWER than '..Said'. Prove '..Said' where nothing that the law and all that it calls make is longer than what came in: it says more and counts as full. Else prove '..UptoSaid'. A law counts once. -/
mutual
def uptoBulk {H : Type} : DataW H → Nat
  | .lit (.string bytes) => bytes.length + 1
  | .lit _ => 1
  | .nil => 1
  | .ptr d => uptoBulk d + 1
  | .slice elems spare => uptoBulkAll elems + uptoBulkAll spare + 1
  | .agg parts => uptoBulkAll parts + 1
  | .iface _ d => uptoBulk d + 1
  | .map entries => uptoBulkEntries entries + 1
  | .held _ => 1
def uptoBulkAll {H : Type} : List (DataW H) → Nat
  | [] => 0
  | d :: r => uptoBulk d + uptoBulkAll r
def uptoBulkEntries {H : Type} : List (Lit × DataW H) → Nat
  | [] => 0
  | x :: r => uptoBulkEntry x + uptoBulkEntries r
def uptoBulkEntry {H : Type} : Lit × DataW H → Nat
  | (.string bytes, d) => bytes.length + uptoBulk d + 1
  | (_, d) => uptoBulk d + 1
 end
def uptoSmall : (H : Type) → List (DataW H) → Bool := fun _ ds => decide (uptoBulkAll ds ≤ 1048576)
def OpenSpec.upto (s : _root_.Go.ChangeSpec) : _root_.Go.OpenSpec := { _root_.Go.OpenSpec.ofChange s with cond := some uptoSmall }

/-- 'commonslaw03.PmemSizes', WHERE WHAT IT READS IS OF BULK AT MOST 1048576: true; the input reads as it did. -/
def pmemSizesUptoRow : OpenClaim := { program := "ytnhgfkahmflpgaa", sum := "42b4b1d51ba18d7698a1cc9e929609e4b7ddda981db3a3aa77c32511c04d9386", func := "commons/commonslaw03.PmemSizes", spec := "pmemSizes", unfollowed := true, recurses := true, apart := false, narrowed := true }
def PmemSizesUptoSaid : Prop := pmemSizesUptoRow.holds Try.pinned (OpenSpec.upto pmemSizesSpec)

/-- 'commonslaw03.PmemLasts', WHERE WHAT IT READS IS OF BULK AT MOST 1048576: true; the input reads as it did. -/
def pmemLastsUptoRow : OpenClaim := { program := "ytnhgfkahmflpgaa", sum := "42b4b1d51ba18d7698a1cc9e929609e4b7ddda981db3a3aa77c32511c04d9386", func := "commons/commonslaw03.PmemLasts", spec := "pmemLasts", unfollowed := true, recurses := true, apart := false, narrowed := true }
def PmemLastsUptoSaid : Prop := pmemLastsUptoRow.holds Try.pinned (OpenSpec.upto pmemLastsSpec)

/-- 'commonslaw03.PmemPlays', WHERE WHAT IT READS IS OF BULK AT MOST 1048576: true; the input reads as it did. -/
def pmemPlaysUptoRow : OpenClaim := { program := "ytnhgfkahmflpgaa", sum := "42b4b1d51ba18d7698a1cc9e929609e4b7ddda981db3a3aa77c32511c04d9386", func := "commons/commonslaw03.PmemPlays", spec := "pmemPlays", unfollowed := true, recurses := true, apart := false, narrowed := true }
def PmemPlaysUptoSaid : Prop := pmemPlaysUptoRow.holds Try.pinned (OpenSpec.upto pmemPlaysSpec)

/-- 'commonslaw03.PmemCells', WHERE WHAT IT READS IS OF BULK AT MOST 1048576: true; the input reads as it did. -/
def pmemCellsUptoRow : OpenClaim := { program := "ytnhgfkahmflpgaa", sum := "42b4b1d51ba18d7698a1cc9e929609e4b7ddda981db3a3aa77c32511c04d9386", func := "commons/commonslaw03.PmemCells", spec := "pmemCells", unfollowed := true, recurses := true, apart := false, narrowed := true }
def PmemCellsUptoSaid : Prop := pmemCellsUptoRow.holds Try.pinned (OpenSpec.upto pmemCellsSpec)

/-- 'commonslaw03.PmemElse', WHERE WHAT IT READS IS OF BULK AT MOST 1048576: true; the input reads as it did. -/
def pmemElseUptoRow : OpenClaim := { program := "ytnhgfkahmflpgaa", sum := "42b4b1d51ba18d7698a1cc9e929609e4b7ddda981db3a3aa77c32511c04d9386", func := "commons/commonslaw03.PmemElse", spec := "pmemElse", unfollowed := true, recurses := true, apart := false, narrowed := true }
def PmemElseUptoSaid : Prop := pmemElseUptoRow.holds Try.pinned (OpenSpec.upto pmemElseSpec)

/-- 'commonslaw03.PmemOwns', WHERE WHAT IT READS IS OF BULK AT MOST 1048576: true; the input reads as it did. -/
def pmemOwnsUptoRow : OpenClaim := { program := "ytnhgfkahmflpgaa", sum := "42b4b1d51ba18d7698a1cc9e929609e4b7ddda981db3a3aa77c32511c04d9386", func := "commons/commonslaw03.PmemOwns", spec := "pmemOwns", unfollowed := true, recurses := true, apart := false, narrowed := true }
def PmemOwnsUptoSaid : Prop := pmemOwnsUptoRow.holds Try.pinned (OpenSpec.upto pmemOwnsSpec)

end Rows
end Go.Proofs.Ytnhgfkahmflpgaa
