/-
  No cell of these rows narrows 'for every input' (looked for: loops, veiled, ifaces, maps, wideKeys, modest, calm, conditions, laid).
  DERIVED. THE GIVEN ROWS OF THIS SEAT. 6 by the template 'for every input the law returns true; each argument reads behind the call as it read before'; 0 by the template 'total and deterministic' (their statements: YtpedlapemgjgaaaTotals.lean).
  GIVEN WITH THE SEED: the statements are not yours to turn. If you find one false, say at which input.
  Laid BY PROGRAM, IN A SANDBOX (cutbox-rows.mjs): the forced cells as the released guide's own fill.sh prints them over the translation 629b749b4a92dba9… (all of the seat's roots in one cut). By AI agents, Wed Nov 11 2026. No macro, syntax, notation, axiom, sorry.
-/
import Derived.Test.YtpedlapemgjgaaaChecked
import GoSem.Claim
import GoSem.ClaimJoined
import GoSem.ClaimMapViews
import Derived.JoinedTies
import Derived.KernelRfl
namespace Go.Proofs.Ytpedlapemgjgaaa
/- THE CELL 'sum', in the pinned program and in every row, IS THE sha256 OF THE DUMP (.gsa) THAT YtpedlapemgjgaaaProg.lean LOADS. Nothing in Lean hashes anything: it is a label: what it is worth is what the hold of that sum in a sandbox is worth. -/
noncomputable def Try.pinned : Pinned := { name := "ytpedlapemgjgaaa", sum := "629b749b4a92dba933a8eb45ca6b0e7c0c618c9eb38be69115dd9d499cbb89ce", checked := Try.checked }
namespace Rows
def none {H : Type} : Left H := { results := [], args := [] }

/-- 'gavottelaw03.BagSorts': WHATEVER THE INPUT: true; the input reads as it did. -/
def bagSortsSpec : ChangeSpec := { name := "bagSorts", fn := fun _ => fun
  | [d] => { results := [.lit (.bool true)], args := [d] }
  | _ => none }
def bagSortsRow : OpenClaim := { program := "ytpedlapemgjgaaa", sum := "629b749b4a92dba933a8eb45ca6b0e7c0c618c9eb38be69115dd9d499cbb89ce", func := "gavotte/gavottelaw03.BagSorts", spec := "bagSorts", unfollowed := true, recurses := true, apart := false }
def BagSortsSaid : Prop := bagSortsRow.holds Try.pinned (OpenSpec.ofChange bagSortsSpec)

/-- ITS FALSE NEIGHBOUR: 'it returns false'. Refute it at one input. -/
def bagSortsWrong : ChangeSpec := { name := "bagSorts", fn := fun _ => fun
  | [d] => { results := [.lit (.bool false)], args := [d] }
  | _ => none }
def BagSortsWrongFalsely : Prop := bagSortsRow.holds Try.pinned (OpenSpec.ofChange bagSortsWrong)

/-- 'gavottelaw03.BagOrder': WHATEVER THE INPUT: true; the input reads as it did. -/
def bagOrderSpec : ChangeSpec := { name := "bagOrder", fn := fun _ => fun
  | [d1, d2, d3] => { results := [.lit (.bool true)], args := [d1, d2, d3] }
  | _ => none }
def bagOrderRow : OpenClaim := { program := "ytpedlapemgjgaaa", sum := "629b749b4a92dba933a8eb45ca6b0e7c0c618c9eb38be69115dd9d499cbb89ce", func := "gavotte/gavottelaw03.BagOrder", spec := "bagOrder", unfollowed := true, recurses := true, apart := false }
def BagOrderSaid : Prop := bagOrderRow.holds Try.pinned (OpenSpec.ofChange bagOrderSpec)

/-- ITS FALSE NEIGHBOUR: 'it returns false'. Refute it at one input. -/
def bagOrderWrong : ChangeSpec := { name := "bagOrder", fn := fun _ => fun
  | [d1, d2, d3] => { results := [.lit (.bool false)], args := [d1, d2, d3] }
  | _ => none }
def BagOrderWrongFalsely : Prop := bagOrderRow.holds Try.pinned (OpenSpec.ofChange bagOrderWrong)

/-- 'gavottelaw03.BagWhere': WHATEVER THE INPUT: true; the input reads as it did. -/
def bagWhereSpec : ChangeSpec := { name := "bagWhere", fn := fun _ => fun
  | [d1, d2] => { results := [.lit (.bool true)], args := [d1, d2] }
  | _ => none }
def bagWhereRow : OpenClaim := { program := "ytpedlapemgjgaaa", sum := "629b749b4a92dba933a8eb45ca6b0e7c0c618c9eb38be69115dd9d499cbb89ce", func := "gavotte/gavottelaw03.BagWhere", spec := "bagWhere", unfollowed := true, recurses := true, apart := false }
def BagWhereSaid : Prop := bagWhereRow.holds Try.pinned (OpenSpec.ofChange bagWhereSpec)

/-- ITS FALSE NEIGHBOUR: 'it returns false'. Refute it at one input. -/
def bagWhereWrong : ChangeSpec := { name := "bagWhere", fn := fun _ => fun
  | [d1, d2] => { results := [.lit (.bool false)], args := [d1, d2] }
  | _ => none }
def BagWhereWrongFalsely : Prop := bagWhereRow.holds Try.pinned (OpenSpec.ofChange bagWhereWrong)

/-- 'gavottelaw03.BagAts': WHATEVER THE INPUT: true; the input reads as it did. -/
def bagAtsSpec : ChangeSpec := { name := "bagAts", fn := fun _ => fun
  | [d1, d2] => { results := [.lit (.bool true)], args := [d1, d2] }
  | _ => none }
def bagAtsRow : OpenClaim := { program := "ytpedlapemgjgaaa", sum := "629b749b4a92dba933a8eb45ca6b0e7c0c618c9eb38be69115dd9d499cbb89ce", func := "gavotte/gavottelaw03.BagAts", spec := "bagAts", unfollowed := true, recurses := true, apart := false }
def BagAtsSaid : Prop := bagAtsRow.holds Try.pinned (OpenSpec.ofChange bagAtsSpec)

/-- ITS FALSE NEIGHBOUR: 'it returns false'. Refute it at one input. -/
def bagAtsWrong : ChangeSpec := { name := "bagAts", fn := fun _ => fun
  | [d1, d2] => { results := [.lit (.bool false)], args := [d1, d2] }
  | _ => none }
def BagAtsWrongFalsely : Prop := bagAtsRow.holds Try.pinned (OpenSpec.ofChange bagAtsWrong)

/-- 'gavottelaw03.BagPlays': WHATEVER THE INPUT: true; the input reads as it did. -/
def bagPlaysSpec : ChangeSpec := { name := "bagPlays", fn := fun _ => fun
  | [d] => { results := [.lit (.bool true)], args := [d] }
  | _ => none }
def bagPlaysRow : OpenClaim := { program := "ytpedlapemgjgaaa", sum := "629b749b4a92dba933a8eb45ca6b0e7c0c618c9eb38be69115dd9d499cbb89ce", func := "gavotte/gavottelaw03.BagPlays", spec := "bagPlays", unfollowed := true, recurses := true, apart := false }
def BagPlaysSaid : Prop := bagPlaysRow.holds Try.pinned (OpenSpec.ofChange bagPlaysSpec)

/-- ITS FALSE NEIGHBOUR: 'it returns false'. Refute it at one input. -/
def bagPlaysWrong : ChangeSpec := { name := "bagPlays", fn := fun _ => fun
  | [d] => { results := [.lit (.bool false)], args := [d] }
  | _ => none }
def BagPlaysWrongFalsely : Prop := bagPlaysRow.holds Try.pinned (OpenSpec.ofChange bagPlaysWrong)

/-- 'gavottelaw03.BagNil': WHATEVER THE INPUT: true; the input reads as it did. -/
def bagNilSpec : ChangeSpec := { name := "bagNil", fn := fun _ => fun
  | [d1, d2] => { results := [.lit (.bool true)], args := [d1, d2] }
  | _ => none }
def bagNilRow : OpenClaim := { program := "ytpedlapemgjgaaa", sum := "629b749b4a92dba933a8eb45ca6b0e7c0c618c9eb38be69115dd9d499cbb89ce", func := "gavotte/gavottelaw03.BagNil", spec := "bagNil", unfollowed := true, recurses := true, apart := false }
def BagNilSaid : Prop := bagNilRow.holds Try.pinned (OpenSpec.ofChange bagNilSpec)

/-- ITS FALSE NEIGHBOUR: 'it returns false'. Refute it at one input. -/
def bagNilWrong : ChangeSpec := { name := "bagNil", fn := fun _ => fun
  | [d1, d2] => { results := [.lit (.bool false)], args := [d1, d2] }
  | _ => none }
def BagNilWrongFalsely : Prop := bagNilRow.holds Try.pinned (OpenSpec.ofChange bagNilWrong)

/- THE SECOND FORM. 'bulk': how many values and letters a reading holds, each counted each time it is reached (what is shared counts as often as it is met; a slice's spare places count too). A statement '..UptoSaid' is the law's where the arguments, and the package variables that the reading takes, are together of bulk at most 1048576: NARROWER than '..Said'. Prove '..Said' where nothing that the law and all that it calls make is longer than what came in: it says more and counts as full. Else prove '..UptoSaid'. A law counts once. -/
mutual
def uptoBulk {H : Type} : DataW H → Nat
  | .lit (.string bytes) => bytes.length + 1
  | .lit _ => 1
  | .nil => 1
  | .ptr d => uptoBulk d + 1
  | .slice elems spare => uptoBulkAll elems + uptoBulkAll spare + 1
  | .agg parts => uptoBulkAll parts + 1
  | .iface _ d => uptoBulk d + 1
  | .map entries => uptoBulkEntries entries + 1
  | .held _ => 1
def uptoBulkAll {H : Type} : List (DataW H) → Nat
  | [] => 0
  | d :: r => uptoBulk d + uptoBulkAll r
def uptoBulkEntries {H : Type} : List (Lit × DataW H) → Nat
  | [] => 0
  | x :: r => uptoBulkEntry x + uptoBulkEntries r
def uptoBulkEntry {H : Type} : Lit × DataW H → Nat
  | (.string bytes, d) => bytes.length + uptoBulk d + 1
  | (_, d) => uptoBulk d + 1
 end
def uptoSmall : (H : Type) → List (DataW H) → Bool := fun _ ds => decide (uptoBulkAll ds ≤ 1048576)
def OpenSpec.upto (s : _root_.Go.ChangeSpec) : _root_.Go.OpenSpec := { _root_.Go.OpenSpec.ofChange s with cond := some uptoSmall }

/-- 'gavottelaw03.BagSorts', WHERE WHAT IT READS IS OF BULK AT MOST 1048576: true; the input reads as it did. -/
def bagSortsUptoRow : OpenClaim := { program := "ytpedlapemgjgaaa", sum := "629b749b4a92dba933a8eb45ca6b0e7c0c618c9eb38be69115dd9d499cbb89ce", func := "gavotte/gavottelaw03.BagSorts", spec := "bagSorts", unfollowed := true, recurses := true, apart := false, narrowed := true }
def BagSortsUptoSaid : Prop := bagSortsUptoRow.holds Try.pinned (OpenSpec.upto bagSortsSpec)

/-- 'gavottelaw03.BagOrder', WHERE WHAT IT READS IS OF BULK AT MOST 1048576: true; the input reads as it did. -/
def bagOrderUptoRow : OpenClaim := { program := "ytpedlapemgjgaaa", sum := "629b749b4a92dba933a8eb45ca6b0e7c0c618c9eb38be69115dd9d499cbb89ce", func := "gavotte/gavottelaw03.BagOrder", spec := "bagOrder", unfollowed := true, recurses := true, apart := false, narrowed := true }
def BagOrderUptoSaid : Prop := bagOrderUptoRow.holds Try.pinned (OpenSpec.upto bagOrderSpec)

/-- 'gavottelaw03.BagWhere', WHERE WHAT IT READS IS OF BULK AT MOST 1048576: true; the input reads as it did. -/
def bagWhereUptoRow : OpenClaim := { program := "ytpedlapemgjgaaa", sum := "629b749b4a92dba933a8eb45ca6b0e7c0c618c9eb38be69115dd9d499cbb89ce", func := "gavotte/gavottelaw03.BagWhere", spec := "bagWhere", unfollowed := true, recurses := true, apart := false, narrowed := true }
def BagWhereUptoSaid : Prop := bagWhereUptoRow.holds Try.pinned (OpenSpec.upto bagWhereSpec)

/-- 'gavottelaw03.BagAts', WHERE WHAT IT READS IS OF BULK AT MOST 1048576: true; the input reads as it did. -/
def bagAtsUptoRow : OpenClaim := { program := "ytpedlapemgjgaaa", sum := "629b749b4a92dba933a8eb45ca6b0e7c0c618c9eb38be69115dd9d499cbb89ce", func := "gavotte/gavottelaw03.BagAts", spec := "bagAts", unfollowed := true, recurses := true, apart := false, narrowed := true }
def BagAtsUptoSaid : Prop := bagAtsUptoRow.holds Try.pinned (OpenSpec.upto bagAtsSpec)

/-- 'gavottelaw03.BagPlays', WHERE WHAT IT READS IS OF BULK AT MOST 1048576: true; the input reads as it did. -/
def bagPlaysUptoRow : OpenClaim := { program := "ytpedlapemgjgaaa", sum := "629b749b4a92dba933a8eb45ca6b0e7c0c618c9eb38be69115dd9d499cbb89ce", func := "gavotte/gavottelaw03.BagPlays", spec := "bagPlays", unfollowed := true, recurses := true, apart := false, narrowed := true }
def BagPlaysUptoSaid : Prop := bagPlaysUptoRow.holds Try.pinned (OpenSpec.upto bagPlaysSpec)

/-- 'gavottelaw03.BagNil', WHERE WHAT IT READS IS OF BULK AT MOST 1048576: true; the input reads as it did. -/
def bagNilUptoRow : OpenClaim := { program := "ytpedlapemgjgaaa", sum := "629b749b4a92dba933a8eb45ca6b0e7c0c618c9eb38be69115dd9d499cbb89ce", func := "gavotte/gavottelaw03.BagNil", spec := "bagNil", unfollowed := true, recurses := true, apart := false, narrowed := true }
def BagNilUptoSaid : Prop := bagNilUptoRow.holds Try.pinned (OpenSpec.upto bagNilSpec)

end Rows
end Go.Proofs.Ytpedlapemgjgaaa
