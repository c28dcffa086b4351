/-
  No cell of these rows narrows 'for every input' (looked for: loops, veiled, ifaces, maps, wideKeys, modest, calm, conditions, laid).
  DERIVED. THE GIVEN ROWS OF THIS SEAT. 9 by the template 'for every input the law returns true; each argument reads behind the call as it read before'; 0 by the template 'total and deterministic' (their statements: YtncjfljmnkfghaaTotals.lean).
  GIVEN WITH THE SEED: the statements are not yours to turn. If you find one false, say at which input.
  Laid BY PROGRAM, IN A SANDBOX (cutbox-rows.mjs): the forced cells as the released guide's own fill.sh prints them over the translation 127b8152f1a44c5f… (all of the seat's roots in one cut). By AI agents, Wed Nov 11 2026. No macro, syntax, notation, axiom, sorry.
-/
import Derived.Test.YtncjfljmnkfghaaChecked
import GoSem.Claim
import GoSem.ClaimJoined
import GoSem.ClaimMapViews
import Derived.JoinedTies
import Derived.KernelRfl
namespace Go.Proofs.Ytncjfljmnkfghaa
/- THE CELL 'sum', in the pinned program and in every row, IS THE sha256 OF THE DUMP (.gsa) THAT YtncjfljmnkfghaaProg.lean LOADS. Nothing in Lean hashes anything: it is a label: what it is worth is what the hold of that sum in a sandbox is worth. -/
noncomputable def Try.pinned : Pinned := { name := "ytncjfljmnkfghaa", sum := "127b8152f1a44c5f2f948e73ddbe4636aed60db0e5ea2419f1896b93ea66b0a9", checked := Try.checked }
namespace Rows
def none {H : Type} : Left H := { results := [], args := [] }

/-- 'commonslaw08.PlogEncodes': WHATEVER THE INPUT: true; the input reads as it did. -/
def plogEncodesSpec : ChangeSpec := { name := "plogEncodes", fn := fun _ => fun
  | [d] => { results := [.lit (.bool true)], args := [d] }
  | _ => none }
def plogEncodesRow : OpenClaim := { program := "ytncjfljmnkfghaa", sum := "127b8152f1a44c5f2f948e73ddbe4636aed60db0e5ea2419f1896b93ea66b0a9", func := "commons/commonslaw08.PlogEncodes", spec := "plogEncodes", unfollowed := true, recurses := true, apart := false }
def PlogEncodesSaid : Prop := plogEncodesRow.holds Try.pinned (OpenSpec.ofChange plogEncodesSpec)

/-- ITS FALSE NEIGHBOUR: 'it returns false'. Refute it at one input. -/
def plogEncodesWrong : ChangeSpec := { name := "plogEncodes", fn := fun _ => fun
  | [d] => { results := [.lit (.bool false)], args := [d] }
  | _ => none }
def PlogEncodesWrongFalsely : Prop := plogEncodesRow.holds Try.pinned (OpenSpec.ofChange plogEncodesWrong)

/-- 'commonslaw08.PlogDecodes': WHATEVER THE INPUT: true; the input reads as it did. -/
def plogDecodesSpec : ChangeSpec := { name := "plogDecodes", fn := fun _ => fun
  | [d] => { results := [.lit (.bool true)], args := [d] }
  | _ => none }
def plogDecodesRow : OpenClaim := { program := "ytncjfljmnkfghaa", sum := "127b8152f1a44c5f2f948e73ddbe4636aed60db0e5ea2419f1896b93ea66b0a9", func := "commons/commonslaw08.PlogDecodes", spec := "plogDecodes", unfollowed := true, recurses := true, apart := false }
def PlogDecodesSaid : Prop := plogDecodesRow.holds Try.pinned (OpenSpec.ofChange plogDecodesSpec)

/-- ITS FALSE NEIGHBOUR: 'it returns false'. Refute it at one input. -/
def plogDecodesWrong : ChangeSpec := { name := "plogDecodes", fn := fun _ => fun
  | [d] => { results := [.lit (.bool false)], args := [d] }
  | _ => none }
def PlogDecodesWrongFalsely : Prop := plogDecodesRow.holds Try.pinned (OpenSpec.ofChange plogDecodesWrong)

/-- 'commonslaw08.PlogRound': WHATEVER THE INPUT: true; the input reads as it did. -/
def plogRoundSpec : ChangeSpec := { name := "plogRound", fn := fun _ => fun
  | [d1, d2] => { results := [.lit (.bool true)], args := [d1, d2] }
  | _ => none }
def plogRoundRow : OpenClaim := { program := "ytncjfljmnkfghaa", sum := "127b8152f1a44c5f2f948e73ddbe4636aed60db0e5ea2419f1896b93ea66b0a9", func := "commons/commonslaw08.PlogRound", spec := "plogRound", unfollowed := true, recurses := true, apart := false }
def PlogRoundSaid : Prop := plogRoundRow.holds Try.pinned (OpenSpec.ofChange plogRoundSpec)

/-- ITS FALSE NEIGHBOUR: 'it returns false'. Refute it at one input. -/
def plogRoundWrong : ChangeSpec := { name := "plogRound", fn := fun _ => fun
  | [d1, d2] => { results := [.lit (.bool false)], args := [d1, d2] }
  | _ => none }
def PlogRoundWrongFalsely : Prop := plogRoundRow.holds Try.pinned (OpenSpec.ofChange plogRoundWrong)

/-- 'commonslaw08.PlogPlaces': WHATEVER THE INPUT: true; the input reads as it did. -/
def plogPlacesSpec : ChangeSpec := { name := "plogPlaces", fn := fun _ => fun
  | [d1, d2, d3] => { results := [.lit (.bool true)], args := [d1, d2, d3] }
  | _ => none }
def plogPlacesRow : OpenClaim := { program := "ytncjfljmnkfghaa", sum := "127b8152f1a44c5f2f948e73ddbe4636aed60db0e5ea2419f1896b93ea66b0a9", func := "commons/commonslaw08.PlogPlaces", spec := "plogPlaces", unfollowed := true, recurses := true, apart := false }
def PlogPlacesSaid : Prop := plogPlacesRow.holds Try.pinned (OpenSpec.ofChange plogPlacesSpec)

/-- ITS FALSE NEIGHBOUR: 'it returns false'. Refute it at one input. -/
def plogPlacesWrong : ChangeSpec := { name := "plogPlaces", fn := fun _ => fun
  | [d1, d2, d3] => { results := [.lit (.bool false)], args := [d1, d2, d3] }
  | _ => none }
def PlogPlacesWrongFalsely : Prop := plogPlacesRow.holds Try.pinned (OpenSpec.ofChange plogPlacesWrong)

/-- 'commonslaw08.PlogOwns': WHATEVER THE INPUT: true; the input reads as it did. -/
def plogOwnsSpec : ChangeSpec := { name := "plogOwns", fn := fun _ => fun
  | [d] => { results := [.lit (.bool true)], args := [d] }
  | _ => none }
def plogOwnsRow : OpenClaim := { program := "ytncjfljmnkfghaa", sum := "127b8152f1a44c5f2f948e73ddbe4636aed60db0e5ea2419f1896b93ea66b0a9", func := "commons/commonslaw08.PlogOwns", spec := "plogOwns", unfollowed := true, recurses := true, apart := false }
def PlogOwnsSaid : Prop := plogOwnsRow.holds Try.pinned (OpenSpec.ofChange plogOwnsSpec)

/-- ITS FALSE NEIGHBOUR: 'it returns false'. Refute it at one input. -/
def plogOwnsWrong : ChangeSpec := { name := "plogOwns", fn := fun _ => fun
  | [d] => { results := [.lit (.bool false)], args := [d] }
  | _ => none }
def PlogOwnsWrongFalsely : Prop := plogOwnsRow.holds Try.pinned (OpenSpec.ofChange plogOwnsWrong)

/-- 'commonslaw08.PlogTwice': WHATEVER THE INPUT: true; the input reads as it did. -/
def plogTwiceSpec : ChangeSpec := { name := "plogTwice", fn := fun _ => fun
  | [d1, d2, d3] => { results := [.lit (.bool true)], args := [d1, d2, d3] }
  | _ => none }
def plogTwiceRow : OpenClaim := { program := "ytncjfljmnkfghaa", sum := "127b8152f1a44c5f2f948e73ddbe4636aed60db0e5ea2419f1896b93ea66b0a9", func := "commons/commonslaw08.PlogTwice", spec := "plogTwice", unfollowed := true, recurses := true, apart := false }
def PlogTwiceSaid : Prop := plogTwiceRow.holds Try.pinned (OpenSpec.ofChange plogTwiceSpec)

/-- ITS FALSE NEIGHBOUR: 'it returns false'. Refute it at one input. -/
def plogTwiceWrong : ChangeSpec := { name := "plogTwice", fn := fun _ => fun
  | [d1, d2, d3] => { results := [.lit (.bool false)], args := [d1, d2, d3] }
  | _ => none }
def PlogTwiceWrongFalsely : Prop := plogTwiceRow.holds Try.pinned (OpenSpec.ofChange plogTwiceWrong)

/-- 'commonslaw08.PlogPlays': WHATEVER THE INPUT: true; the input reads as it did. -/
def plogPlaysSpec : ChangeSpec := { name := "plogPlays", fn := fun _ => fun
  | [d] => { results := [.lit (.bool true)], args := [d] }
  | _ => none }
def plogPlaysRow : OpenClaim := { program := "ytncjfljmnkfghaa", sum := "127b8152f1a44c5f2f948e73ddbe4636aed60db0e5ea2419f1896b93ea66b0a9", func := "commons/commonslaw08.PlogPlays", spec := "plogPlays", unfollowed := true, recurses := true, apart := false }
def PlogPlaysSaid : Prop := plogPlaysRow.holds Try.pinned (OpenSpec.ofChange plogPlaysSpec)

/-- ITS FALSE NEIGHBOUR: 'it returns false'. Refute it at one input. -/
def plogPlaysWrong : ChangeSpec := { name := "plogPlays", fn := fun _ => fun
  | [d] => { results := [.lit (.bool false)], args := [d] }
  | _ => none }
def PlogPlaysWrongFalsely : Prop := plogPlaysRow.holds Try.pinned (OpenSpec.ofChange plogPlaysWrong)

/-- 'commonslaw08.PlogLasts': WHATEVER THE INPUT: true; the input reads as it did. -/
def plogLastsSpec : ChangeSpec := { name := "plogLasts", fn := fun _ => fun
  | [d1, d2, d3] => { results := [.lit (.bool true)], args := [d1, d2, d3] }
  | _ => none }
def plogLastsRow : OpenClaim := { program := "ytncjfljmnkfghaa", sum := "127b8152f1a44c5f2f948e73ddbe4636aed60db0e5ea2419f1896b93ea66b0a9", func := "commons/commonslaw08.PlogLasts", spec := "plogLasts", unfollowed := true, recurses := true, apart := false }
def PlogLastsSaid : Prop := plogLastsRow.holds Try.pinned (OpenSpec.ofChange plogLastsSpec)

/-- ITS FALSE NEIGHBOUR: 'it returns false'. Refute it at one input. -/
def plogLastsWrong : ChangeSpec := { name := "plogLasts", fn := fun _ => fun
  | [d1, d2, d3] => { results := [.lit (.bool false)], args := [d1, d2, d3] }
  | _ => none }
def PlogLastsWrongFalsely : Prop := plogLastsRow.holds Try.pinned (OpenSpec.ofChange plogLastsWrong)

/-- 'commonslaw08.PlogTorn': WHATEVER THE INPUT: true; the input reads as it did. -/
def plogTornSpec : ChangeSpec := { name := "plogTorn", fn := fun _ => fun
  | [d1, d2, d3, d4] => { results := [.lit (.bool true)], args := [d1, d2, d3, d4] }
  | _ => none }
def plogTornRow : OpenClaim := { program := "ytncjfljmnkfghaa", sum := "127b8152f1a44c5f2f948e73ddbe4636aed60db0e5ea2419f1896b93ea66b0a9", func := "commons/commonslaw08.PlogTorn", spec := "plogTorn", unfollowed := true, recurses := true, apart := false }
def PlogTornSaid : Prop := plogTornRow.holds Try.pinned (OpenSpec.ofChange plogTornSpec)

/-- ITS FALSE NEIGHBOUR: 'it returns false'. Refute it at one input. -/
def plogTornWrong : ChangeSpec := { name := "plogTorn", fn := fun _ => fun
  | [d1, d2, d3, d4] => { results := [.lit (.bool false)], args := [d1, d2, d3, d4] }
  | _ => none }
def PlogTornWrongFalsely : Prop := plogTornRow.holds Try.pinned (OpenSpec.ofChange plogTornWrong)

/- THE SECOND FORM. 'bulk': how many values and letters a reading holds, each counted each time it is reached (what is shared counts as often as it is met; a slice's spare places count too). A statement '..UptoSaid' is the law's where the arguments, and the package variables that the reading takes, are together of bulk at most 1048576: NARROWER than '..Said'. Prove '..Said' where nothing that the law and all that it calls make is longer than what came in: it says more and counts as full. Else prove '..UptoSaid'. A law counts once. -/
mutual
def uptoBulk {H : Type} : DataW H → Nat
  | .lit (.string bytes) => bytes.length + 1
  | .lit _ => 1
  | .nil => 1
  | .ptr d => uptoBulk d + 1
  | .slice elems spare => uptoBulkAll elems + uptoBulkAll spare + 1
  | .agg parts => uptoBulkAll parts + 1
  | .iface _ d => uptoBulk d + 1
  | .map entries => uptoBulkEntries entries + 1
  | .held _ => 1
def uptoBulkAll {H : Type} : List (DataW H) → Nat
  | [] => 0
  | d :: r => uptoBulk d + uptoBulkAll r
def uptoBulkEntries {H : Type} : List (Lit × DataW H) → Nat
  | [] => 0
  | x :: r => uptoBulkEntry x + uptoBulkEntries r
def uptoBulkEntry {H : Type} : Lit × DataW H → Nat
  | (.string bytes, d) => bytes.length + uptoBulk d + 1
  | (_, d) => uptoBulk d + 1
 end
def uptoSmall : (H : Type) → List (DataW H) → Bool := fun _ ds => decide (uptoBulkAll ds ≤ 1048576)
def OpenSpec.upto (s : _root_.Go.ChangeSpec) : _root_.Go.OpenSpec := { _root_.Go.OpenSpec.ofChange s with cond := some uptoSmall }

/-- 'commonslaw08.PlogEncodes', WHERE WHAT IT READS IS OF BULK AT MOST 1048576: true; the input reads as it did. -/
def plogEncodesUptoRow : OpenClaim := { program := "ytncjfljmnkfghaa", sum := "127b8152f1a44c5f2f948e73ddbe4636aed60db0e5ea2419f1896b93ea66b0a9", func := "commons/commonslaw08.PlogEncodes", spec := "plogEncodes", unfollowed := true, recurses := true, apart := false, narrowed := true }
def PlogEncodesUptoSaid : Prop := plogEncodesUptoRow.holds Try.pinned (OpenSpec.upto plogEncodesSpec)

/-- 'commonslaw08.PlogDecodes', WHERE WHAT IT READS IS OF BULK AT MOST 1048576: true; the input reads as it did. -/
def plogDecodesUptoRow : OpenClaim := { program := "ytncjfljmnkfghaa", sum := "127b8152f1a44c5f2f948e73ddbe4636aed60db0e5ea2419f1896b93ea66b0a9", func := "commons/commonslaw08.PlogDecodes", spec := "plogDecodes", unfollowed := true, recurses := true, apart := false, narrowed := true }
def PlogDecodesUptoSaid : Prop := plogDecodesUptoRow.holds Try.pinned (OpenSpec.upto plogDecodesSpec)

/-- 'commonslaw08.PlogRound', WHERE WHAT IT READS IS OF BULK AT MOST 1048576: true; the input reads as it did. -/
def plogRoundUptoRow : OpenClaim := { program := "ytncjfljmnkfghaa", sum := "127b8152f1a44c5f2f948e73ddbe4636aed60db0e5ea2419f1896b93ea66b0a9", func := "commons/commonslaw08.PlogRound", spec := "plogRound", unfollowed := true, recurses := true, apart := false, narrowed := true }
def PlogRoundUptoSaid : Prop := plogRoundUptoRow.holds Try.pinned (OpenSpec.upto plogRoundSpec)

/-- 'commonslaw08.PlogPlaces', WHERE WHAT IT READS IS OF BULK AT MOST 1048576: true; the input reads as it did. -/
def plogPlacesUptoRow : OpenClaim := { program := "ytncjfljmnkfghaa", sum := "127b8152f1a44c5f2f948e73ddbe4636aed60db0e5ea2419f1896b93ea66b0a9", func := "commons/commonslaw08.PlogPlaces", spec := "plogPlaces", unfollowed := true, recurses := true, apart := false, narrowed := true }
def PlogPlacesUptoSaid : Prop := plogPlacesUptoRow.holds Try.pinned (OpenSpec.upto plogPlacesSpec)

/-- 'commonslaw08.PlogOwns', WHERE WHAT IT READS IS OF BULK AT MOST 1048576: true; the input reads as it did. -/
def plogOwnsUptoRow : OpenClaim := { program := "ytncjfljmnkfghaa", sum := "127b8152f1a44c5f2f948e73ddbe4636aed60db0e5ea2419f1896b93ea66b0a9", func := "commons/commonslaw08.PlogOwns", spec := "plogOwns", unfollowed := true, recurses := true, apart := false, narrowed := true }
def PlogOwnsUptoSaid : Prop := plogOwnsUptoRow.holds Try.pinned (OpenSpec.upto plogOwnsSpec)

/-- 'commonslaw08.PlogTwice', WHERE WHAT IT READS IS OF BULK AT MOST 1048576: true; the input reads as it did. -/
def plogTwiceUptoRow : OpenClaim := { program := "ytncjfljmnkfghaa", sum := "127b8152f1a44c5f2f948e73ddbe4636aed60db0e5ea2419f1896b93ea66b0a9", func := "commons/commonslaw08.PlogTwice", spec := "plogTwice", unfollowed := true, recurses := true, apart := false, narrowed := true }
def PlogTwiceUptoSaid : Prop := plogTwiceUptoRow.holds Try.pinned (OpenSpec.upto plogTwiceSpec)

/-- 'commonslaw08.PlogPlays', WHERE WHAT IT READS IS OF BULK AT MOST 1048576: true; the input reads as it did. -/
def plogPlaysUptoRow : OpenClaim := { program := "ytncjfljmnkfghaa", sum := "127b8152f1a44c5f2f948e73ddbe4636aed60db0e5ea2419f1896b93ea66b0a9", func := "commons/commonslaw08.PlogPlays", spec := "plogPlays", unfollowed := true, recurses := true, apart := false, narrowed := true }
def PlogPlaysUptoSaid : Prop := plogPlaysUptoRow.holds Try.pinned (OpenSpec.upto plogPlaysSpec)

/-- 'commonslaw08.PlogLasts', WHERE WHAT IT READS IS OF BULK AT MOST 1048576: true; the input reads as it did. -/
def plogLastsUptoRow : OpenClaim := { program := "ytncjfljmnkfghaa", sum := "127b8152f1a44c5f2f948e73ddbe4636aed60db0e5ea2419f1896b93ea66b0a9", func := "commons/commonslaw08.PlogLasts", spec := "plogLasts", unfollowed := true, recurses := true, apart := false, narrowed := true }
def PlogLastsUptoSaid : Prop := plogLastsUptoRow.holds Try.pinned (OpenSpec.upto plogLastsSpec)

/-- 'commonslaw08.PlogTorn', WHERE WHAT IT READS IS OF BULK AT MOST 1048576: true; the input reads as it did. -/
def plogTornUptoRow : OpenClaim := { program := "ytncjfljmnkfghaa", sum := "127b8152f1a44c5f2f948e73ddbe4636aed60db0e5ea2419f1896b93ea66b0a9", func := "commons/commonslaw08.PlogTorn", spec := "plogTorn", unfollowed := true, recurses := true, apart := false, narrowed := true }
def PlogTornUptoSaid : Prop := plogTornUptoRow.holds Try.pinned (OpenSpec.upto plogTornSpec)

end Rows
end Go.Proofs.Ytncjfljmnkfghaa
