/-
  No cell of these rows narrows 'for every input' (looked for: loops, veiled, ifaces, maps, wideKeys, modest, calm, conditions, laid).
  DERIVED. THE GIVEN ROWS OF THIS SEAT. 4 by the template 'for every input the law returns true; each argument reads behind the call as it read before'; 0 by the template 'total and deterministic' (their statements: YtallhdjmmliehaaTotals.lean).
  GIVEN WITH THE SEED: the statements are not yours to turn. If you find one false, say at which input.
  Laid BY PROGRAM, IN A SANDBOX (cutbox-rows.mjs): the forced cells as the released guide's own fill.sh prints them over the translation 77c2f31529ba2a09… (all of the seat's roots in one cut). By AI agents, Wed Nov 11 2026. No macro, syntax, notation, axiom, sorry.
-/
import Derived.Test.YtallhdjmmliehaaChecked
import GoSem.Claim
import GoSem.ClaimJoined
import GoSem.ClaimMapViews
import Derived.JoinedTies
import Derived.KernelRfl
namespace Go.Proofs.Ytallhdjmmliehaa
/- THE CELL 'sum', in the pinned program and in every row, IS THE sha256 OF THE DUMP (.gsa) THAT YtallhdjmmliehaaProg.lean LOADS. Nothing in Lean hashes anything: it is a label: what it is worth is what the hold of that sum in a sandbox is worth. -/
noncomputable def Try.pinned : Pinned := { name := "ytallhdjmmliehaa", sum := "77c2f31529ba2a090777dbc6e55e9d0463b2e952f0a8f9db112464a37e15c3f1", checked := Try.checked }
namespace Rows
def none {H : Type} : Left H := { results := [], args := [] }

/-- 'commonslaw04.LayoutFinds': WHATEVER THE INPUT: true; the input reads as it did. -/
def layoutFindsSpec : ChangeSpec := { name := "layoutFinds", fn := fun _ => fun
  | [d1, d2] => { results := [.lit (.bool true)], args := [d1, d2] }
  | _ => none }
def layoutFindsRow : OpenClaim := { program := "ytallhdjmmliehaa", sum := "77c2f31529ba2a090777dbc6e55e9d0463b2e952f0a8f9db112464a37e15c3f1", func := "commons/commonslaw04.LayoutFinds", spec := "layoutFinds", unfollowed := true, recurses := true, apart := false }
def LayoutFindsSaid : Prop := layoutFindsRow.holds Try.pinned (OpenSpec.ofChange layoutFindsSpec)

/-- ITS FALSE NEIGHBOUR: 'it returns false'. Refute it at one input. -/
def layoutFindsWrong : ChangeSpec := { name := "layoutFinds", fn := fun _ => fun
  | [d1, d2] => { results := [.lit (.bool false)], args := [d1, d2] }
  | _ => none }
def LayoutFindsWrongFalsely : Prop := layoutFindsRow.holds Try.pinned (OpenSpec.ofChange layoutFindsWrong)

/-- 'commonslaw04.LayoutOf': WHATEVER THE INPUT: true; the input reads as it did. -/
def layoutOfSpec : ChangeSpec := { name := "layoutOf", fn := fun _ => fun
  | [d1, d2, d3] => { results := [.lit (.bool true)], args := [d1, d2, d3] }
  | _ => none }
def layoutOfRow : OpenClaim := { program := "ytallhdjmmliehaa", sum := "77c2f31529ba2a090777dbc6e55e9d0463b2e952f0a8f9db112464a37e15c3f1", func := "commons/commonslaw04.LayoutOf", spec := "layoutOf", unfollowed := true, recurses := true, apart := false }
def LayoutOfSaid : Prop := layoutOfRow.holds Try.pinned (OpenSpec.ofChange layoutOfSpec)

/-- ITS FALSE NEIGHBOUR: 'it returns false'. Refute it at one input. -/
def layoutOfWrong : ChangeSpec := { name := "layoutOf", fn := fun _ => fun
  | [d1, d2, d3] => { results := [.lit (.bool false)], args := [d1, d2, d3] }
  | _ => none }
def LayoutOfWrongFalsely : Prop := layoutOfRow.holds Try.pinned (OpenSpec.ofChange layoutOfWrong)

/-- 'commonslaw04.LayoutIn': WHATEVER THE INPUT: true; the input reads as it did. -/
def layoutInSpec : ChangeSpec := { name := "layoutIn", fn := fun _ => fun
  | [d1, d2, d3] => { results := [.lit (.bool true)], args := [d1, d2, d3] }
  | _ => none }
def layoutInRow : OpenClaim := { program := "ytallhdjmmliehaa", sum := "77c2f31529ba2a090777dbc6e55e9d0463b2e952f0a8f9db112464a37e15c3f1", func := "commons/commonslaw04.LayoutIn", spec := "layoutIn", unfollowed := true, recurses := true, apart := false }
def LayoutInSaid : Prop := layoutInRow.holds Try.pinned (OpenSpec.ofChange layoutInSpec)

/-- ITS FALSE NEIGHBOUR: 'it returns false'. Refute it at one input. -/
def layoutInWrong : ChangeSpec := { name := "layoutIn", fn := fun _ => fun
  | [d1, d2, d3] => { results := [.lit (.bool false)], args := [d1, d2, d3] }
  | _ => none }
def LayoutInWrongFalsely : Prop := layoutInRow.holds Try.pinned (OpenSpec.ofChange layoutInWrong)

/-- 'commonslaw04.LayoutWhole': WHATEVER THE INPUT: true; the input reads as it did. -/
def layoutWholeSpec : ChangeSpec := { name := "layoutWhole", fn := fun _ => fun
  | [d1, d2] => { results := [.lit (.bool true)], args := [d1, d2] }
  | _ => none }
def layoutWholeRow : OpenClaim := { program := "ytallhdjmmliehaa", sum := "77c2f31529ba2a090777dbc6e55e9d0463b2e952f0a8f9db112464a37e15c3f1", func := "commons/commonslaw04.LayoutWhole", spec := "layoutWhole", unfollowed := true, recurses := true, apart := false }
def LayoutWholeSaid : Prop := layoutWholeRow.holds Try.pinned (OpenSpec.ofChange layoutWholeSpec)

/-- ITS FALSE NEIGHBOUR: 'it returns false'. Refute it at one input. -/
def layoutWholeWrong : ChangeSpec := { name := "layoutWhole", fn := fun _ => fun
  | [d1, d2] => { results := [.lit (.bool false)], args := [d1, d2] }
  | _ => none }
def LayoutWholeWrongFalsely : Prop := layoutWholeRow.holds Try.pinned (OpenSpec.ofChange layoutWholeWrong)

/- THE SECOND FORM. 'bulk': how many values and letters a reading holds, each counted each time it is reached (what is shared counts as often as it is met; a slice's spare places count too). A statement '..UptoSaid' is the law's where the arguments, and the package variables that the reading takes, are together of bulk at most 1048576: NARROWER than '..Said'. Prove '..Said' where nothing that the law and all that it calls make is longer than what came in: it says more and counts as full. Else prove '..UptoSaid'. A law counts once. -/
mutual
def uptoBulk {H : Type} : DataW H → Nat
  | .lit (.string bytes) => bytes.length + 1
  | .lit _ => 1
  | .nil => 1
  | .ptr d => uptoBulk d + 1
  | .slice elems spare => uptoBulkAll elems + uptoBulkAll spare + 1
  | .agg parts => uptoBulkAll parts + 1
  | .iface _ d => uptoBulk d + 1
  | .map entries => uptoBulkEntries entries + 1
  | .held _ => 1
def uptoBulkAll {H : Type} : List (DataW H) → Nat
  | [] => 0
  | d :: r => uptoBulk d + uptoBulkAll r
def uptoBulkEntries {H : Type} : List (Lit × DataW H) → Nat
  | [] => 0
  | x :: r => uptoBulkEntry x + uptoBulkEntries r
def uptoBulkEntry {H : Type} : Lit × DataW H → Nat
  | (.string bytes, d) => bytes.length + uptoBulk d + 1
  | (_, d) => uptoBulk d + 1
 end
def uptoSmall : (H : Type) → List (DataW H) → Bool := fun _ ds => decide (uptoBulkAll ds ≤ 1048576)
def OpenSpec.upto (s : _root_.Go.ChangeSpec) : _root_.Go.OpenSpec := { _root_.Go.OpenSpec.ofChange s with cond := some uptoSmall }

/-- 'commonslaw04.LayoutFinds', WHERE WHAT IT READS IS OF BULK AT MOST 1048576: true; the input reads as it did. -/
def layoutFindsUptoRow : OpenClaim := { program := "ytallhdjmmliehaa", sum := "77c2f31529ba2a090777dbc6e55e9d0463b2e952f0a8f9db112464a37e15c3f1", func := "commons/commonslaw04.LayoutFinds", spec := "layoutFinds", unfollowed := true, recurses := true, apart := false, narrowed := true }
def LayoutFindsUptoSaid : Prop := layoutFindsUptoRow.holds Try.pinned (OpenSpec.upto layoutFindsSpec)

/-- 'commonslaw04.LayoutOf', WHERE WHAT IT READS IS OF BULK AT MOST 1048576: true; the input reads as it did. -/
def layoutOfUptoRow : OpenClaim := { program := "ytallhdjmmliehaa", sum := "77c2f31529ba2a090777dbc6e55e9d0463b2e952f0a8f9db112464a37e15c3f1", func := "commons/commonslaw04.LayoutOf", spec := "layoutOf", unfollowed := true, recurses := true, apart := false, narrowed := true }
def LayoutOfUptoSaid : Prop := layoutOfUptoRow.holds Try.pinned (OpenSpec.upto layoutOfSpec)

/-- 'commonslaw04.LayoutIn', WHERE WHAT IT READS IS OF BULK AT MOST 1048576: true; the input reads as it did. -/
def layoutInUptoRow : OpenClaim := { program := "ytallhdjmmliehaa", sum := "77c2f31529ba2a090777dbc6e55e9d0463b2e952f0a8f9db112464a37e15c3f1", func := "commons/commonslaw04.LayoutIn", spec := "layoutIn", unfollowed := true, recurses := true, apart := false, narrowed := true }
def LayoutInUptoSaid : Prop := layoutInUptoRow.holds Try.pinned (OpenSpec.upto layoutInSpec)

/-- 'commonslaw04.LayoutWhole', WHERE WHAT IT READS IS OF BULK AT MOST 1048576: true; the input reads as it did. -/
def layoutWholeUptoRow : OpenClaim := { program := "ytallhdjmmliehaa", sum := "77c2f31529ba2a090777dbc6e55e9d0463b2e952f0a8f9db112464a37e15c3f1", func := "commons/commonslaw04.LayoutWhole", spec := "layoutWhole", unfollowed := true, recurses := true, apart := false, narrowed := true }
def LayoutWholeUptoSaid : Prop := layoutWholeUptoRow.holds Try.pinned (OpenSpec.upto layoutWholeSpec)

end Rows
end Go.Proofs.Ytallhdjmmliehaa
