/-
  No cell of these rows narrows 'for every input' (looked for: loops, veiled, ifaces, maps, wideKeys, modest, calm, conditions, laid).
  DERIVED. THE GIVEN ROWS OF THIS SEAT. 5 by the template 'for every input the law returns true; each argument reads behind the call as it read before'; 0 by the template 'total and deterministic' (their statements: YtcggeogpanackaaTotals.lean).
  GIVEN WITH THE SEED: the statements are not yours to turn. If you find one false, say at which input.
  Laid BY PROGRAM, IN A SANDBOX (cutbox-rows.mjs): the forced cells as the released guide's own fill.sh prints them over the translation e335304882513602… (all of the seat's roots in one cut). By AI agents, Wed Nov 11 2026. No macro, syntax, notation, axiom, sorry.
-/
import Derived.Test.YtcggeogpanackaaChecked
import GoSem.Claim
import GoSem.ClaimJoined
import GoSem.ClaimMapViews
import Derived.JoinedTies
import Derived.KernelRfl
namespace Go.Proofs.Ytcggeogpanackaa
/- THE CELL 'sum', in the pinned program and in every row, IS THE sha256 OF THE DUMP (.gsa) THAT YtcggeogpanackaaProg.lean LOADS. Nothing in Lean hashes anything: it is a label: what it is worth is what the hold of that sum in a sandbox is worth. -/
noncomputable def Try.pinned : Pinned := { name := "ytcggeogpanackaa", sum := "e335304882513602d6746e0fbd72b6d3b141a95ecfefc8ab55d73f3210703e76", checked := Try.checked }
namespace Rows
def none {H : Type} : Left H := { results := [], args := [] }

/-- 'gavottelaw07.TrackFrom': WHATEVER THE INPUT: true; the input reads as it did. -/
def trackFromSpec : ChangeSpec := { name := "trackFrom", fn := fun _ => fun
  | [d1, d2, d3] => { results := [.lit (.bool true)], args := [d1, d2, d3] }
  | _ => none }
def trackFromRow : OpenClaim := { program := "ytcggeogpanackaa", sum := "e335304882513602d6746e0fbd72b6d3b141a95ecfefc8ab55d73f3210703e76", func := "gavotte/gavottelaw07.TrackFrom", spec := "trackFrom", unfollowed := true, recurses := true, apart := false }
def TrackFromSaid : Prop := trackFromRow.holds Try.pinned (OpenSpec.ofChange trackFromSpec)

/-- ITS FALSE NEIGHBOUR: 'it returns false'. Refute it at one input. -/
def trackFromWrong : ChangeSpec := { name := "trackFrom", fn := fun _ => fun
  | [d1, d2, d3] => { results := [.lit (.bool false)], args := [d1, d2, d3] }
  | _ => none }
def TrackFromWrongFalsely : Prop := trackFromRow.holds Try.pinned (OpenSpec.ofChange trackFromWrong)

/-- 'gavottelaw07.TrackFrees': WHATEVER THE INPUT: true; the input reads as it did. -/
def trackFreesSpec : ChangeSpec := { name := "trackFrees", fn := fun _ => fun
  | [d1, d2, d3] => { results := [.lit (.bool true)], args := [d1, d2, d3] }
  | _ => none }
def trackFreesRow : OpenClaim := { program := "ytcggeogpanackaa", sum := "e335304882513602d6746e0fbd72b6d3b141a95ecfefc8ab55d73f3210703e76", func := "gavotte/gavottelaw07.TrackFrees", spec := "trackFrees", unfollowed := true, recurses := true, apart := false }
def TrackFreesSaid : Prop := trackFreesRow.holds Try.pinned (OpenSpec.ofChange trackFreesSpec)

/-- ITS FALSE NEIGHBOUR: 'it returns false'. Refute it at one input. -/
def trackFreesWrong : ChangeSpec := { name := "trackFrees", fn := fun _ => fun
  | [d1, d2, d3] => { results := [.lit (.bool false)], args := [d1, d2, d3] }
  | _ => none }
def TrackFreesWrongFalsely : Prop := trackFreesRow.holds Try.pinned (OpenSpec.ofChange trackFreesWrong)

/-- 'gavottelaw07.TrackAgain': WHATEVER THE INPUT: true; the input reads as it did. -/
def trackAgainSpec : ChangeSpec := { name := "trackAgain", fn := fun _ => fun
  | [d1, d2] => { results := [.lit (.bool true)], args := [d1, d2] }
  | _ => none }
def trackAgainRow : OpenClaim := { program := "ytcggeogpanackaa", sum := "e335304882513602d6746e0fbd72b6d3b141a95ecfefc8ab55d73f3210703e76", func := "gavotte/gavottelaw07.TrackAgain", spec := "trackAgain", unfollowed := true, recurses := true, apart := false }
def TrackAgainSaid : Prop := trackAgainRow.holds Try.pinned (OpenSpec.ofChange trackAgainSpec)

/-- ITS FALSE NEIGHBOUR: 'it returns false'. Refute it at one input. -/
def trackAgainWrong : ChangeSpec := { name := "trackAgain", fn := fun _ => fun
  | [d1, d2] => { results := [.lit (.bool false)], args := [d1, d2] }
  | _ => none }
def TrackAgainWrongFalsely : Prop := trackAgainRow.holds Try.pinned (OpenSpec.ofChange trackAgainWrong)

/-- 'gavottelaw07.TrackPlays': WHATEVER THE INPUT: true; the input reads as it did. -/
def trackPlaysSpec : ChangeSpec := { name := "trackPlays", fn := fun _ => fun
  | [d1, d2] => { results := [.lit (.bool true)], args := [d1, d2] }
  | _ => none }
def trackPlaysRow : OpenClaim := { program := "ytcggeogpanackaa", sum := "e335304882513602d6746e0fbd72b6d3b141a95ecfefc8ab55d73f3210703e76", func := "gavotte/gavottelaw07.TrackPlays", spec := "trackPlays", unfollowed := true, recurses := true, apart := false }
def TrackPlaysSaid : Prop := trackPlaysRow.holds Try.pinned (OpenSpec.ofChange trackPlaysSpec)

/-- ITS FALSE NEIGHBOUR: 'it returns false'. Refute it at one input. -/
def trackPlaysWrong : ChangeSpec := { name := "trackPlays", fn := fun _ => fun
  | [d1, d2] => { results := [.lit (.bool false)], args := [d1, d2] }
  | _ => none }
def TrackPlaysWrongFalsely : Prop := trackPlaysRow.holds Try.pinned (OpenSpec.ofChange trackPlaysWrong)

/-- 'gavottelaw07.TrackNil': WHATEVER THE INPUT: true; the input reads as it did. -/
def trackNilSpec : ChangeSpec := { name := "trackNil", fn := fun _ => fun
  | [d1, d2] => { results := [.lit (.bool true)], args := [d1, d2] }
  | _ => none }
def trackNilRow : OpenClaim := { program := "ytcggeogpanackaa", sum := "e335304882513602d6746e0fbd72b6d3b141a95ecfefc8ab55d73f3210703e76", func := "gavotte/gavottelaw07.TrackNil", spec := "trackNil", unfollowed := true, recurses := true, apart := false }
def TrackNilSaid : Prop := trackNilRow.holds Try.pinned (OpenSpec.ofChange trackNilSpec)

/-- ITS FALSE NEIGHBOUR: 'it returns false'. Refute it at one input. -/
def trackNilWrong : ChangeSpec := { name := "trackNil", fn := fun _ => fun
  | [d1, d2] => { results := [.lit (.bool false)], args := [d1, d2] }
  | _ => none }
def TrackNilWrongFalsely : Prop := trackNilRow.holds Try.pinned (OpenSpec.ofChange trackNilWrong)

/- THE SECOND FORM. 'bulk': how many values and letters a reading holds, each counted each time it is reached (what is shared counts as often as it is met; a slice's spare places count too). A statement '..UptoSaid' is the law's where the arguments, and the package variables that the reading takes, are together of bulk at most 1048576: NARROWER than '..Said'. Prove '..Said' where nothing that the law and all that it calls make is longer than what came in: it says more and counts as full. Else prove '..UptoSaid'. A law counts once. -/
mutual
def uptoBulk {H : Type} : DataW H → Nat
  | .lit (.string bytes) => bytes.length + 1
  | .lit _ => 1
  | .nil => 1
  | .ptr d => uptoBulk d + 1
  | .slice elems spare => uptoBulkAll elems + uptoBulkAll spare + 1
  | .agg parts => uptoBulkAll parts + 1
  | .iface _ d => uptoBulk d + 1
  | .map entries => uptoBulkEntries entries + 1
  | .held _ => 1
def uptoBulkAll {H : Type} : List (DataW H) → Nat
  | [] => 0
  | d :: r => uptoBulk d + uptoBulkAll r
def uptoBulkEntries {H : Type} : List (Lit × DataW H) → Nat
  | [] => 0
  | x :: r => uptoBulkEntry x + uptoBulkEntries r
def uptoBulkEntry {H : Type} : Lit × DataW H → Nat
  | (.string bytes, d) => bytes.length + uptoBulk d + 1
  | (_, d) => uptoBulk d + 1
 end
def uptoSmall : (H : Type) → List (DataW H) → Bool := fun _ ds => decide (uptoBulkAll ds ≤ 1048576)
def OpenSpec.upto (s : _root_.Go.ChangeSpec) : _root_.Go.OpenSpec := { _root_.Go.OpenSpec.ofChange s with cond := some uptoSmall }

/-- 'gavottelaw07.TrackFrom', WHERE WHAT IT READS IS OF BULK AT MOST 1048576: true; the input reads as it did. -/
def trackFromUptoRow : OpenClaim := { program := "ytcggeogpanackaa", sum := "e335304882513602d6746e0fbd72b6d3b141a95ecfefc8ab55d73f3210703e76", func := "gavotte/gavottelaw07.TrackFrom", spec := "trackFrom", unfollowed := true, recurses := true, apart := false, narrowed := true }
def TrackFromUptoSaid : Prop := trackFromUptoRow.holds Try.pinned (OpenSpec.upto trackFromSpec)

/-- 'gavottelaw07.TrackFrees', WHERE WHAT IT READS IS OF BULK AT MOST 1048576: true; the input reads as it did. -/
def trackFreesUptoRow : OpenClaim := { program := "ytcggeogpanackaa", sum := "e335304882513602d6746e0fbd72b6d3b141a95ecfefc8ab55d73f3210703e76", func := "gavotte/gavottelaw07.TrackFrees", spec := "trackFrees", unfollowed := true, recurses := true, apart := false, narrowed := true }
def TrackFreesUptoSaid : Prop := trackFreesUptoRow.holds Try.pinned (OpenSpec.upto trackFreesSpec)

/-- 'gavottelaw07.TrackAgain', WHERE WHAT IT READS IS OF BULK AT MOST 1048576: true; the input reads as it did. -/
def trackAgainUptoRow : OpenClaim := { program := "ytcggeogpanackaa", sum := "e335304882513602d6746e0fbd72b6d3b141a95ecfefc8ab55d73f3210703e76", func := "gavotte/gavottelaw07.TrackAgain", spec := "trackAgain", unfollowed := true, recurses := true, apart := false, narrowed := true }
def TrackAgainUptoSaid : Prop := trackAgainUptoRow.holds Try.pinned (OpenSpec.upto trackAgainSpec)

/-- 'gavottelaw07.TrackPlays', WHERE WHAT IT READS IS OF BULK AT MOST 1048576: true; the input reads as it did. -/
def trackPlaysUptoRow : OpenClaim := { program := "ytcggeogpanackaa", sum := "e335304882513602d6746e0fbd72b6d3b141a95ecfefc8ab55d73f3210703e76", func := "gavotte/gavottelaw07.TrackPlays", spec := "trackPlays", unfollowed := true, recurses := true, apart := false, narrowed := true }
def TrackPlaysUptoSaid : Prop := trackPlaysUptoRow.holds Try.pinned (OpenSpec.upto trackPlaysSpec)

/-- 'gavottelaw07.TrackNil', WHERE WHAT IT READS IS OF BULK AT MOST 1048576: true; the input reads as it did. -/
def trackNilUptoRow : OpenClaim := { program := "ytcggeogpanackaa", sum := "e335304882513602d6746e0fbd72b6d3b141a95ecfefc8ab55d73f3210703e76", func := "gavotte/gavottelaw07.TrackNil", spec := "trackNil", unfollowed := true, recurses := true, apart := false, narrowed := true }
def TrackNilUptoSaid : Prop := trackNilUptoRow.holds Try.pinned (OpenSpec.upto trackNilSpec)

end Rows
end Go.Proofs.Ytcggeogpanackaa
