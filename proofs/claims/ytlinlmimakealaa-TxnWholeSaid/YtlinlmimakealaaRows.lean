/-
  No cell of these rows narrows 'for every input' (looked for: loops, veiled, ifaces, maps, wideKeys, modest, calm, conditions, laid).
  DERIVED. THE GIVEN ROWS OF THIS SEAT. 5 by the template 'for every input the law returns true; each argument reads behind the call as it read before'; 0 by the template 'total and deterministic' (their statements: YtlinlmimakealaaTotals.lean).
  GIVEN WITH THE SEED: the statements are not yours to turn. If you find one false, say at which input.
  Laid BY PROGRAM, IN A SANDBOX (cutbox-rows.mjs): the forced cells as the released guide's own fill.sh prints them over the translation 421fd93b5d5c209b… (all of the seat's roots in one cut). By AI agents, Wed Nov 11 2026. No macro, syntax, notation, axiom, sorry.
-/
import Derived.Test.YtlinlmimakealaaChecked
import GoSem.Claim
import GoSem.ClaimJoined
import GoSem.ClaimMapViews
import Derived.JoinedTies
import Derived.KernelRfl
namespace Go.Proofs.Ytlinlmimakealaa
/- THE CELL 'sum', in the pinned program and in every row, IS THE sha256 OF THE DUMP (.gsa) THAT YtlinlmimakealaaProg.lean LOADS. Nothing in Lean hashes anything: it is a label: what it is worth is what the hold of that sum in a sandbox is worth. -/
noncomputable def Try.pinned : Pinned := { name := "ytlinlmimakealaa", sum := "421fd93b5d5c209bafd441c19d978c06f982d61bfbef9aba3c2783417c0dc48d", checked := Try.checked }
namespace Rows
def none {H : Type} : Left H := { results := [], args := [] }

/-- 'commonslaw09.TxnMany': WHATEVER THE INPUT: true; the input reads as it did. -/
def txnManySpec : ChangeSpec := { name := "txnMany", fn := fun _ => fun
  | [d1, d2] => { results := [.lit (.bool true)], args := [d1, d2] }
  | _ => none }
def txnManyRow : OpenClaim := { program := "ytlinlmimakealaa", sum := "421fd93b5d5c209bafd441c19d978c06f982d61bfbef9aba3c2783417c0dc48d", func := "commons/commonslaw09.TxnMany", spec := "txnMany", unfollowed := true, recurses := true, apart := false }
def TxnManySaid : Prop := txnManyRow.holds Try.pinned (OpenSpec.ofChange txnManySpec)

/-- ITS FALSE NEIGHBOUR: 'it returns false'. Refute it at one input. -/
def txnManyWrong : ChangeSpec := { name := "txnMany", fn := fun _ => fun
  | [d1, d2] => { results := [.lit (.bool false)], args := [d1, d2] }
  | _ => none }
def TxnManyWrongFalsely : Prop := txnManyRow.holds Try.pinned (OpenSpec.ofChange txnManyWrong)

/-- 'commonslaw09.TxnWhole': WHATEVER THE INPUT: true; the input reads as it did. -/
def txnWholeSpec : ChangeSpec := { name := "txnWhole", fn := fun _ => fun
  | [d1, d2, d3] => { results := [.lit (.bool true)], args := [d1, d2, d3] }
  | _ => none }
def txnWholeRow : OpenClaim := { program := "ytlinlmimakealaa", sum := "421fd93b5d5c209bafd441c19d978c06f982d61bfbef9aba3c2783417c0dc48d", func := "commons/commonslaw09.TxnWhole", spec := "txnWhole", unfollowed := true, recurses := true, apart := false }
def TxnWholeSaid : Prop := txnWholeRow.holds Try.pinned (OpenSpec.ofChange txnWholeSpec)

/-- ITS FALSE NEIGHBOUR: 'it returns false'. Refute it at one input. -/
def txnWholeWrong : ChangeSpec := { name := "txnWhole", fn := fun _ => fun
  | [d1, d2, d3] => { results := [.lit (.bool false)], args := [d1, d2, d3] }
  | _ => none }
def TxnWholeWrongFalsely : Prop := txnWholeRow.holds Try.pinned (OpenSpec.ofChange txnWholeWrong)

/-- 'commonslaw09.TxnAlone': WHATEVER THE INPUT: true; the input reads as it did. -/
def txnAloneSpec : ChangeSpec := { name := "txnAlone", fn := fun _ => fun
  | [d] => { results := [.lit (.bool true)], args := [d] }
  | _ => none }
def txnAloneRow : OpenClaim := { program := "ytlinlmimakealaa", sum := "421fd93b5d5c209bafd441c19d978c06f982d61bfbef9aba3c2783417c0dc48d", func := "commons/commonslaw09.TxnAlone", spec := "txnAlone", unfollowed := true, recurses := true, apart := false }
def TxnAloneSaid : Prop := txnAloneRow.holds Try.pinned (OpenSpec.ofChange txnAloneSpec)

/-- ITS FALSE NEIGHBOUR: 'it returns false'. Refute it at one input. -/
def txnAloneWrong : ChangeSpec := { name := "txnAlone", fn := fun _ => fun
  | [d] => { results := [.lit (.bool false)], args := [d] }
  | _ => none }
def TxnAloneWrongFalsely : Prop := txnAloneRow.holds Try.pinned (OpenSpec.ofChange txnAloneWrong)

/-- 'commonslaw09.TxnPlays': WHATEVER THE INPUT: true; the input reads as it did. -/
def txnPlaysSpec : ChangeSpec := { name := "txnPlays", fn := fun _ => fun
  | [d] => { results := [.lit (.bool true)], args := [d] }
  | _ => none }
def txnPlaysRow : OpenClaim := { program := "ytlinlmimakealaa", sum := "421fd93b5d5c209bafd441c19d978c06f982d61bfbef9aba3c2783417c0dc48d", func := "commons/commonslaw09.TxnPlays", spec := "txnPlays", unfollowed := true, recurses := true, apart := false }
def TxnPlaysSaid : Prop := txnPlaysRow.holds Try.pinned (OpenSpec.ofChange txnPlaysSpec)

/-- ITS FALSE NEIGHBOUR: 'it returns false'. Refute it at one input. -/
def txnPlaysWrong : ChangeSpec := { name := "txnPlays", fn := fun _ => fun
  | [d] => { results := [.lit (.bool false)], args := [d] }
  | _ => none }
def TxnPlaysWrongFalsely : Prop := txnPlaysRow.holds Try.pinned (OpenSpec.ofChange txnPlaysWrong)

/-- 'commonslaw09.TxnOwns': WHATEVER THE INPUT: true; the input reads as it did. -/
def txnOwnsSpec : ChangeSpec := { name := "txnOwns", fn := fun _ => fun
  | [d] => { results := [.lit (.bool true)], args := [d] }
  | _ => none }
def txnOwnsRow : OpenClaim := { program := "ytlinlmimakealaa", sum := "421fd93b5d5c209bafd441c19d978c06f982d61bfbef9aba3c2783417c0dc48d", func := "commons/commonslaw09.TxnOwns", spec := "txnOwns", unfollowed := true, recurses := true, apart := false }
def TxnOwnsSaid : Prop := txnOwnsRow.holds Try.pinned (OpenSpec.ofChange txnOwnsSpec)

/-- ITS FALSE NEIGHBOUR: 'it returns false'. Refute it at one input. -/
def txnOwnsWrong : ChangeSpec := { name := "txnOwns", fn := fun _ => fun
  | [d] => { results := [.lit (.bool false)], args := [d] }
  | _ => none }
def TxnOwnsWrongFalsely : Prop := txnOwnsRow.holds Try.pinned (OpenSpec.ofChange txnOwnsWrong)

/- THE SECOND FORM. 'bulk': how many values and letters a reading holds, each counted each time it is reached (what is shared counts as often as it is met; a slice's spare places count too). A statement '..UptoSaid' is the law's where the arguments, and the package variables that the reading takes, are together of bulk at most 1048576: NARROWER than '..Said'. Prove '..Said' where nothing that the law and all that it calls make is longer than what came in: it says more and counts as full. Else prove '..UptoSaid'. A law counts once. -/
mutual
def uptoBulk {H : Type} : DataW H → Nat
  | .lit (.string bytes) => bytes.length + 1
  | .lit _ => 1
  | .nil => 1
  | .ptr d => uptoBulk d + 1
  | .slice elems spare => uptoBulkAll elems + uptoBulkAll spare + 1
  | .agg parts => uptoBulkAll parts + 1
  | .iface _ d => uptoBulk d + 1
  | .map entries => uptoBulkEntries entries + 1
  | .held _ => 1
def uptoBulkAll {H : Type} : List (DataW H) → Nat
  | [] => 0
  | d :: r => uptoBulk d + uptoBulkAll r
def uptoBulkEntries {H : Type} : List (Lit × DataW H) → Nat
  | [] => 0
  | x :: r => uptoBulkEntry x + uptoBulkEntries r
def uptoBulkEntry {H : Type} : Lit × DataW H → Nat
  | (.string bytes, d) => bytes.length + uptoBulk d + 1
  | (_, d) => uptoBulk d + 1
 end
def uptoSmall : (H : Type) → List (DataW H) → Bool := fun _ ds => decide (uptoBulkAll ds ≤ 1048576)
def OpenSpec.upto (s : _root_.Go.ChangeSpec) : _root_.Go.OpenSpec := { _root_.Go.OpenSpec.ofChange s with cond := some uptoSmall }

/-- 'commonslaw09.TxnMany', WHERE WHAT IT READS IS OF BULK AT MOST 1048576: true; the input reads as it did. -/
def txnManyUptoRow : OpenClaim := { program := "ytlinlmimakealaa", sum := "421fd93b5d5c209bafd441c19d978c06f982d61bfbef9aba3c2783417c0dc48d", func := "commons/commonslaw09.TxnMany", spec := "txnMany", unfollowed := true, recurses := true, apart := false, narrowed := true }
def TxnManyUptoSaid : Prop := txnManyUptoRow.holds Try.pinned (OpenSpec.upto txnManySpec)

/-- 'commonslaw09.TxnWhole', WHERE WHAT IT READS IS OF BULK AT MOST 1048576: true; the input reads as it did. -/
def txnWholeUptoRow : OpenClaim := { program := "ytlinlmimakealaa", sum := "421fd93b5d5c209bafd441c19d978c06f982d61bfbef9aba3c2783417c0dc48d", func := "commons/commonslaw09.TxnWhole", spec := "txnWhole", unfollowed := true, recurses := true, apart := false, narrowed := true }
def TxnWholeUptoSaid : Prop := txnWholeUptoRow.holds Try.pinned (OpenSpec.upto txnWholeSpec)

/-- 'commonslaw09.TxnAlone', WHERE WHAT IT READS IS OF BULK AT MOST 1048576: true; the input reads as it did. -/
def txnAloneUptoRow : OpenClaim := { program := "ytlinlmimakealaa", sum := "421fd93b5d5c209bafd441c19d978c06f982d61bfbef9aba3c2783417c0dc48d", func := "commons/commonslaw09.TxnAlone", spec := "txnAlone", unfollowed := true, recurses := true, apart := false, narrowed := true }
def TxnAloneUptoSaid : Prop := txnAloneUptoRow.holds Try.pinned (OpenSpec.upto txnAloneSpec)

/-- 'commonslaw09.TxnPlays', WHERE WHAT IT READS IS OF BULK AT MOST 1048576: true; the input reads as it did. -/
def txnPlaysUptoRow : OpenClaim := { program := "ytlinlmimakealaa", sum := "421fd93b5d5c209bafd441c19d978c06f982d61bfbef9aba3c2783417c0dc48d", func := "commons/commonslaw09.TxnPlays", spec := "txnPlays", unfollowed := true, recurses := true, apart := false, narrowed := true }
def TxnPlaysUptoSaid : Prop := txnPlaysUptoRow.holds Try.pinned (OpenSpec.upto txnPlaysSpec)

/-- 'commonslaw09.TxnOwns', WHERE WHAT IT READS IS OF BULK AT MOST 1048576: true; the input reads as it did. -/
def txnOwnsUptoRow : OpenClaim := { program := "ytlinlmimakealaa", sum := "421fd93b5d5c209bafd441c19d978c06f982d61bfbef9aba3c2783417c0dc48d", func := "commons/commonslaw09.TxnOwns", spec := "txnOwns", unfollowed := true, recurses := true, apart := false, narrowed := true }
def TxnOwnsUptoSaid : Prop := txnOwnsUptoRow.holds Try.pinned (OpenSpec.upto txnOwnsSpec)

end Rows
end Go.Proofs.Ytlinlmimakealaa
