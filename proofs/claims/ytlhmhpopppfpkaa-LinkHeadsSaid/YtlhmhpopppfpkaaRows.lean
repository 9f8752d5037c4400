/-
  No cell of these rows narrows 'for every input' (looked for: loops, veiled, ifaces, maps, wideKeys, modest, calm, conditions, laid).
  DERIVED. THE GIVEN ROWS OF THIS SEAT. 5 by the template 'for every input the law returns true; each argument reads behind the call as it read before'; 0 by the template 'total and deterministic' (their statements: YtlhmhpopppfpkaaTotals.lean).
  GIVEN WITH THE SEED: the statements are not yours to turn. If you find one false, say at which input.
  Laid BY PROGRAM, IN A SANDBOX (cutbox-rows.mjs): the forced cells as the released guide's own fill.sh prints them over the translation e957c554ce038981… (all of the seat's roots in one cut). By AI agents, Wed Nov 11 2026. No macro, syntax, notation, axiom, sorry.
-/
import Derived.Test.YtlhmhpopppfpkaaChecked
import GoSem.Claim
import GoSem.ClaimJoined
import GoSem.ClaimMapViews
import Derived.JoinedTies
import Derived.KernelRfl
namespace Go.Proofs.Ytlhmhpopppfpkaa
/- THE CELL 'sum', in the pinned program and in every row, IS THE sha256 OF THE DUMP (.gsa) THAT YtlhmhpopppfpkaaProg.lean LOADS. Nothing in Lean hashes anything: it is a label: what it is worth is what the hold of that sum in a sandbox is worth. -/
noncomputable def Try.pinned : Pinned := { name := "ytlhmhpopppfpkaa", sum := "e957c554ce03898185fb36aff598c714593ef1b23be3aac6db3049c3080d824a", checked := Try.checked }
namespace Rows
def none {H : Type} : Left H := { results := [], args := [] }

/-- 'gavottelaw21.LinkOrder': WHATEVER THE INPUT: true; the input reads as it did. -/
def linkOrderSpec : ChangeSpec := { name := "linkOrder", fn := fun _ => fun
  | [d1, d2, d3] => { results := [.lit (.bool true)], args := [d1, d2, d3] }
  | _ => none }
def linkOrderRow : OpenClaim := { program := "ytlhmhpopppfpkaa", sum := "e957c554ce03898185fb36aff598c714593ef1b23be3aac6db3049c3080d824a", func := "gavotte/gavottelaw21.LinkOrder", spec := "linkOrder", unfollowed := true, recurses := true, plainKeys := false, apart := false }
def LinkOrderSaid : Prop := linkOrderRow.holds Try.pinned (OpenSpec.ofChange linkOrderSpec)

/-- ITS FALSE NEIGHBOUR: 'it returns false'. Refute it at one input. -/
def linkOrderWrong : ChangeSpec := { name := "linkOrder", fn := fun _ => fun
  | [d1, d2, d3] => { results := [.lit (.bool false)], args := [d1, d2, d3] }
  | _ => none }
def LinkOrderWrongFalsely : Prop := linkOrderRow.holds Try.pinned (OpenSpec.ofChange linkOrderWrong)

/-- 'gavottelaw21.LinkPlays': WHATEVER THE INPUT: true; the input reads as it did. -/
def linkPlaysSpec : ChangeSpec := { name := "linkPlays", fn := fun _ => fun
  | [d1, d2, d3] => { results := [.lit (.bool true)], args := [d1, d2, d3] }
  | _ => none }
def linkPlaysRow : OpenClaim := { program := "ytlhmhpopppfpkaa", sum := "e957c554ce03898185fb36aff598c714593ef1b23be3aac6db3049c3080d824a", func := "gavotte/gavottelaw21.LinkPlays", spec := "linkPlays", unfollowed := true, recurses := true, plainKeys := false, apart := false }
def LinkPlaysSaid : Prop := linkPlaysRow.holds Try.pinned (OpenSpec.ofChange linkPlaysSpec)

/-- ITS FALSE NEIGHBOUR: 'it returns false'. Refute it at one input. -/
def linkPlaysWrong : ChangeSpec := { name := "linkPlays", fn := fun _ => fun
  | [d1, d2, d3] => { results := [.lit (.bool false)], args := [d1, d2, d3] }
  | _ => none }
def LinkPlaysWrongFalsely : Prop := linkPlaysRow.holds Try.pinned (OpenSpec.ofChange linkPlaysWrong)

/-- 'gavottelaw21.LinkAll': WHATEVER THE INPUT: true; the input reads as it did. -/
def linkAllSpec : ChangeSpec := { name := "linkAll", fn := fun _ => fun
  | [d1, d2, d3] => { results := [.lit (.bool true)], args := [d1, d2, d3] }
  | _ => none }
def linkAllRow : OpenClaim := { program := "ytlhmhpopppfpkaa", sum := "e957c554ce03898185fb36aff598c714593ef1b23be3aac6db3049c3080d824a", func := "gavotte/gavottelaw21.LinkAll", spec := "linkAll", unfollowed := true, recurses := true, plainKeys := false, apart := false }
def LinkAllSaid : Prop := linkAllRow.holds Try.pinned (OpenSpec.ofChange linkAllSpec)

/-- ITS FALSE NEIGHBOUR: 'it returns false'. Refute it at one input. -/
def linkAllWrong : ChangeSpec := { name := "linkAll", fn := fun _ => fun
  | [d1, d2, d3] => { results := [.lit (.bool false)], args := [d1, d2, d3] }
  | _ => none }
def LinkAllWrongFalsely : Prop := linkAllRow.holds Try.pinned (OpenSpec.ofChange linkAllWrong)

/-- 'gavottelaw21.LinkHeads': WHATEVER THE INPUT: true; the input reads as it did. -/
def linkHeadsSpec : ChangeSpec := { name := "linkHeads", fn := fun _ => fun
  | [d1, d2] => { results := [.lit (.bool true)], args := [d1, d2] }
  | _ => none }
def linkHeadsRow : OpenClaim := { program := "ytlhmhpopppfpkaa", sum := "e957c554ce03898185fb36aff598c714593ef1b23be3aac6db3049c3080d824a", func := "gavotte/gavottelaw21.LinkHeads", spec := "linkHeads", unfollowed := true, recurses := true, plainKeys := false, apart := false }
def LinkHeadsSaid : Prop := linkHeadsRow.holds Try.pinned (OpenSpec.ofChange linkHeadsSpec)

/-- ITS FALSE NEIGHBOUR: 'it returns false'. Refute it at one input. -/
def linkHeadsWrong : ChangeSpec := { name := "linkHeads", fn := fun _ => fun
  | [d1, d2] => { results := [.lit (.bool false)], args := [d1, d2] }
  | _ => none }
def LinkHeadsWrongFalsely : Prop := linkHeadsRow.holds Try.pinned (OpenSpec.ofChange linkHeadsWrong)

/-- 'gavottelaw21.LinkNil': WHATEVER THE INPUT: true; the input reads as it did. -/
def linkNilSpec : ChangeSpec := { name := "linkNil", fn := fun _ => fun
  | [d1, d2, d3] => { results := [.lit (.bool true)], args := [d1, d2, d3] }
  | _ => none }
def linkNilRow : OpenClaim := { program := "ytlhmhpopppfpkaa", sum := "e957c554ce03898185fb36aff598c714593ef1b23be3aac6db3049c3080d824a", func := "gavotte/gavottelaw21.LinkNil", spec := "linkNil", unfollowed := true, recurses := true, plainKeys := false, apart := false }
def LinkNilSaid : Prop := linkNilRow.holds Try.pinned (OpenSpec.ofChange linkNilSpec)

/-- ITS FALSE NEIGHBOUR: 'it returns false'. Refute it at one input. -/
def linkNilWrong : ChangeSpec := { name := "linkNil", fn := fun _ => fun
  | [d1, d2, d3] => { results := [.lit (.bool false)], args := [d1, d2, d3] }
  | _ => none }
def LinkNilWrongFalsely : Prop := linkNilRow.holds Try.pinned (OpenSpec.ofChange linkNilWrong)

/- THE SECOND FORM. 'bulk': how many values and letters a reading holds, each counted each time it is reached (what is shared counts as often as it is met; a slice's spare places count too). A statement '..UptoSaid' is the law's where the arguments, and the package variables that the reading takes, are together of bulk at most 1048576: NARROWER than '..Said'. Prove '..Said' where nothing that the law and all that it calls make is longer than what came in: it says more and counts as full. Else prove '..UptoSaid'. A law counts once. -/
mutual
def uptoBulk {H : Type} : DataW H → Nat
  | .lit (.string bytes) => bytes.length + 1
  | .lit _ => 1
  | .nil => 1
  | .ptr d => uptoBulk d + 1
  | .slice elems spare => uptoBulkAll elems + uptoBulkAll spare + 1
  | .agg parts => uptoBulkAll parts + 1
  | .iface _ d => uptoBulk d + 1
  | .map entries => uptoBulkEntries entries + 1
  | .held _ => 1
def uptoBulkAll {H : Type} : List (DataW H) → Nat
  | [] => 0
  | d :: r => uptoBulk d + uptoBulkAll r
def uptoBulkEntries {H : Type} : List (Lit × DataW H) → Nat
  | [] => 0
  | x :: r => uptoBulkEntry x + uptoBulkEntries r
def uptoBulkEntry {H : Type} : Lit × DataW H → Nat
  | (.string bytes, d) => bytes.length + uptoBulk d + 1
  | (_, d) => uptoBulk d + 1
 end
def uptoSmall : (H : Type) → List (DataW H) → Bool := fun _ ds => decide (uptoBulkAll ds ≤ 1048576)
def OpenSpec.upto (s : _root_.Go.ChangeSpec) : _root_.Go.OpenSpec := { _root_.Go.OpenSpec.ofChange s with cond := some uptoSmall }

/-- 'gavottelaw21.LinkOrder', WHERE WHAT IT READS IS OF BULK AT MOST 1048576: true; the input reads as it did. -/
def linkOrderUptoRow : OpenClaim := { program := "ytlhmhpopppfpkaa", sum := "e957c554ce03898185fb36aff598c714593ef1b23be3aac6db3049c3080d824a", func := "gavotte/gavottelaw21.LinkOrder", spec := "linkOrder", unfollowed := true, recurses := true, plainKeys := false, apart := false, narrowed := true }
def LinkOrderUptoSaid : Prop := linkOrderUptoRow.holds Try.pinned (OpenSpec.upto linkOrderSpec)

/-- 'gavottelaw21.LinkPlays', WHERE WHAT IT READS IS OF BULK AT MOST 1048576: true; the input reads as it did. -/
def linkPlaysUptoRow : OpenClaim := { program := "ytlhmhpopppfpkaa", sum := "e957c554ce03898185fb36aff598c714593ef1b23be3aac6db3049c3080d824a", func := "gavotte/gavottelaw21.LinkPlays", spec := "linkPlays", unfollowed := true, recurses := true, plainKeys := false, apart := false, narrowed := true }
def LinkPlaysUptoSaid : Prop := linkPlaysUptoRow.holds Try.pinned (OpenSpec.upto linkPlaysSpec)

/-- 'gavottelaw21.LinkAll', WHERE WHAT IT READS IS OF BULK AT MOST 1048576: true; the input reads as it did. -/
def linkAllUptoRow : OpenClaim := { program := "ytlhmhpopppfpkaa", sum := "e957c554ce03898185fb36aff598c714593ef1b23be3aac6db3049c3080d824a", func := "gavotte/gavottelaw21.LinkAll", spec := "linkAll", unfollowed := true, recurses := true, plainKeys := false, apart := false, narrowed := true }
def LinkAllUptoSaid : Prop := linkAllUptoRow.holds Try.pinned (OpenSpec.upto linkAllSpec)

/-- 'gavottelaw21.LinkHeads', WHERE WHAT IT READS IS OF BULK AT MOST 1048576: true; the input reads as it did. -/
def linkHeadsUptoRow : OpenClaim := { program := "ytlhmhpopppfpkaa", sum := "e957c554ce03898185fb36aff598c714593ef1b23be3aac6db3049c3080d824a", func := "gavotte/gavottelaw21.LinkHeads", spec := "linkHeads", unfollowed := true, recurses := true, plainKeys := false, apart := false, narrowed := true }
def LinkHeadsUptoSaid : Prop := linkHeadsUptoRow.holds Try.pinned (OpenSpec.upto linkHeadsSpec)

/-- 'gavottelaw21.LinkNil', WHERE WHAT IT READS IS OF BULK AT MOST 1048576: true; the input reads as it did. -/
def linkNilUptoRow : OpenClaim := { program := "ytlhmhpopppfpkaa", sum := "e957c554ce03898185fb36aff598c714593ef1b23be3aac6db3049c3080d824a", func := "gavotte/gavottelaw21.LinkNil", spec := "linkNil", unfollowed := true, recurses := true, plainKeys := false, apart := false, narrowed := true }
def LinkNilUptoSaid : Prop := linkNilUptoRow.holds Try.pinned (OpenSpec.upto linkNilSpec)

end Rows
end Go.Proofs.Ytlhmhpopppfpkaa
