/-
  NARROWER THAN 'FOR EVERY INPUT', by the rows' own cells (each row's printed sentence says how): KindMore: loops, laid · KindTypes: loops, laid · KindLeaves: loops, laid · KindAll: loops, laid.
  DERIVED. THE GIVEN ROWS OF THIS SEAT. 4 by the template 'for every input the law returns true; each argument reads behind the call as it read before'; 0 by the template 'total and deterministic' (their statements: YtjhpckeoackblaaDoorTotals.lean).
  GIVEN WITH THE SEED: the statements are not yours to turn. If you find one false, say at which input.
  Laid BY PROGRAM, IN A SANDBOX (cutbox-rows.mjs): the forced cells as the released guide's own fill.sh prints them over the translation ec3d01d27c362a52… (all of the seat's roots in one cut). By AI agents, Wed Nov 11 2026. No macro, syntax, notation, axiom, sorry.
-/
import Derived.Test.YtjhpckeoackblaaDoorChecked
import GoSem.Claim
import GoSem.ClaimJoined
import GoSem.ClaimMapViews
import Derived.JoinedTies
import Derived.KernelRfl
namespace Go.Proofs.YtjhpckeoackblaaDoor
/- THE CELL 'sum', in the pinned program and in every row, IS THE sha256 OF THE DUMP (.gsa) THAT YtjhpckeoackblaaDoorProg.lean LOADS. Nothing in Lean hashes anything: it is a label: what it is worth is what the hold of that sum in a sandbox is worth. -/
noncomputable def Tryd.pinned : Pinned := { name := "ytjhpckeoackblaadoor", sum := "ec3d01d27c362a5231fb01cdd9cc1152f8038ceccd6e363913afeb10b05fc51e", checked := Tryd.checked }
namespace Rows
def none {H : Type} : Left H := { results := [], args := [] }

/- WHAT THE LISTED PACKAGE-LEVEL VARIABLES READ AS WHEN THE CALL BEGINS. Each datum BY PROGRAM (the guide's laid-datum.mjs) off the statement by which the dump's own 'gosem.cut.vars' lays the variable. In a bare row this is a premise. The card (YtjhpckeoackblaaDoorCards.lean) ties it to the program's text. -/
def laid_gavotte_ast_words {H : Type} : DataW H := .agg [.lit (.string [97, 116, 111, 109, 105, 99]), .lit (.string [99, 111, 117, 112, 108, 101, 100]), .lit (.string [114, 111, 111, 116]), .lit (.string [105, 110]), .lit (.string [111, 117, 116]), .lit (.string [118, 97, 114]), .lit (.string [116, 97]), .lit (.string [101, 109, 105, 116]), .lit (.string [105, 110, 116]), .lit (.string [98, 111, 111, 108]), .lit (.string [115, 121, 109]), .lit (.string [101, 120, 116]), .lit (.string [99, 111, 110]), .lit (.string [112, 97, 114, 116]), .lit (.string [108, 105, 110, 107]), .lit (.string [114, 117, 108, 101]), .lit (.string [97, 100, 100]), .lit (.string [100, 114, 111, 112]), .lit (.string [116, 105, 101]), .lit (.string [99, 117, 116]), .lit (.string [105, 102]), .lit (.string [116, 104, 101, 110]), .lit (.string [101, 108, 115, 101]), .lit (.string [97, 110, 100]), .lit (.string [111, 114]), .lit (.string [110, 111, 116]), .lit (.string [116, 114, 117, 101]), .lit (.string [102, 97, 108, 115, 101]), .lit (.string [99, 111, 117, 110, 116]), .lit (.string [104, 97, 115]), .lit (.string [115, 117, 109]), .lit (.string [108, 101, 97, 115, 116]), .lit (.string [101, 108, 97, 112, 115, 101, 100])]

/-- 'gavottelaw12.KindMore': WHATEVER THE INPUT: true; the input reads as it did. -/
def kindMoreSpec : ChangeSpec := { name := "kindMore", fn := fun _ => fun
  | [d1, d2, d3] => { results := [.lit (.bool true)], args := [d1, d2, d3] }
  | _ => none }
def kindMoreRow : OpenClaim := { program := "ytjhpckeoackblaadoor", sum := "ec3d01d27c362a5231fb01cdd9cc1152f8038ceccd6e363913afeb10b05fc51e", func := "gavotte/gavottelaw12.KindMore", spec := "kindMore", unfollowed := true, recurses := true, named := ["gavotte/ast.words"], loops := true, apart := false, laid := [("gavotte/ast.words", laid_gavotte_ast_words)] }
def KindMoreSaid : Prop := kindMoreRow.holds Tryd.pinned (OpenSpec.ofChange kindMoreSpec)

/-- ITS FALSE NEIGHBOUR: 'it returns false'. Refute it at one input. -/
def kindMoreWrong : ChangeSpec := { name := "kindMore", fn := fun _ => fun
  | [d1, d2, d3] => { results := [.lit (.bool false)], args := [d1, d2, d3] }
  | _ => none }
def KindMoreWrongFalsely : Prop := kindMoreRow.holds Tryd.pinned (OpenSpec.ofChange kindMoreWrong)

/-- 'gavottelaw12.KindTypes': WHATEVER THE INPUT: true; the input reads as it did. -/
def kindTypesSpec : ChangeSpec := { name := "kindTypes", fn := fun _ => fun
  | [d1, d2] => { results := [.lit (.bool true)], args := [d1, d2] }
  | _ => none }
def kindTypesRow : OpenClaim := { program := "ytjhpckeoackblaadoor", sum := "ec3d01d27c362a5231fb01cdd9cc1152f8038ceccd6e363913afeb10b05fc51e", func := "gavotte/gavottelaw12.KindTypes", spec := "kindTypes", unfollowed := true, recurses := true, named := ["gavotte/ast.words"], loops := true, apart := false, laid := [("gavotte/ast.words", laid_gavotte_ast_words)] }
def KindTypesSaid : Prop := kindTypesRow.holds Tryd.pinned (OpenSpec.ofChange kindTypesSpec)

/-- ITS FALSE NEIGHBOUR: 'it returns false'. Refute it at one input. -/
def kindTypesWrong : ChangeSpec := { name := "kindTypes", fn := fun _ => fun
  | [d1, d2] => { results := [.lit (.bool false)], args := [d1, d2] }
  | _ => none }
def KindTypesWrongFalsely : Prop := kindTypesRow.holds Tryd.pinned (OpenSpec.ofChange kindTypesWrong)

/-- 'gavottelaw12.KindLeaves': WHATEVER THE INPUT: true; the input reads as it did. -/
def kindLeavesSpec : ChangeSpec := { name := "kindLeaves", fn := fun _ => fun
  | [d1, d2, d3, d4, d5] => { results := [.lit (.bool true)], args := [d1, d2, d3, d4, d5] }
  | _ => none }
def kindLeavesRow : OpenClaim := { program := "ytjhpckeoackblaadoor", sum := "ec3d01d27c362a5231fb01cdd9cc1152f8038ceccd6e363913afeb10b05fc51e", func := "gavotte/gavottelaw12.KindLeaves", spec := "kindLeaves", unfollowed := true, recurses := true, named := ["gavotte/ast.words"], loops := true, apart := false, laid := [("gavotte/ast.words", laid_gavotte_ast_words)] }
def KindLeavesSaid : Prop := kindLeavesRow.holds Tryd.pinned (OpenSpec.ofChange kindLeavesSpec)

/-- ITS FALSE NEIGHBOUR: 'it returns false'. Refute it at one input. -/
def kindLeavesWrong : ChangeSpec := { name := "kindLeaves", fn := fun _ => fun
  | [d1, d2, d3, d4, d5] => { results := [.lit (.bool false)], args := [d1, d2, d3, d4, d5] }
  | _ => none }
def KindLeavesWrongFalsely : Prop := kindLeavesRow.holds Tryd.pinned (OpenSpec.ofChange kindLeavesWrong)

/-- 'gavottelaw12.KindAll': WHATEVER THE INPUT: true; the input reads as it did. -/
def kindAllSpec : ChangeSpec := { name := "kindAll", fn := fun _ => fun
  | [d1, d2, d3] => { results := [.lit (.bool true)], args := [d1, d2, d3] }
  | _ => none }
def kindAllRow : OpenClaim := { program := "ytjhpckeoackblaadoor", sum := "ec3d01d27c362a5231fb01cdd9cc1152f8038ceccd6e363913afeb10b05fc51e", func := "gavotte/gavottelaw12.KindAll", spec := "kindAll", unfollowed := true, recurses := true, named := ["gavotte/ast.words"], loops := true, apart := false, laid := [("gavotte/ast.words", laid_gavotte_ast_words)] }
def KindAllSaid : Prop := kindAllRow.holds Tryd.pinned (OpenSpec.ofChange kindAllSpec)

/-- ITS FALSE NEIGHBOUR: 'it returns false'. Refute it at one input. -/
def kindAllWrong : ChangeSpec := { name := "kindAll", fn := fun _ => fun
  | [d1, d2, d3] => { results := [.lit (.bool false)], args := [d1, d2, d3] }
  | _ => none }
def KindAllWrongFalsely : Prop := kindAllRow.holds Tryd.pinned (OpenSpec.ofChange kindAllWrong)

/- THE SECOND FORM. 'bulk': how many values and letters a reading holds, each counted each time it is reached (what is shared counts as often as it is met; a slice's spare places count too). A statement '..UptoSaid' is the law's where the arguments, and the package variables that the reading takes, are together of bulk at most 1048576: NARROWER than '..Said'. Prove '..Said' where nothing that the law and all that it calls make is longer than what came in: it says more and counts as full. Else prove '..UptoSaid'. A law counts once. -/
mutual
def uptoBulk {H : Type} : DataW H → Nat
  | .lit (.string bytes) => bytes.length + 1
  | .lit _ => 1
  | .nil => 1
  | .ptr d => uptoBulk d + 1
  | .slice elems spare => uptoBulkAll elems + uptoBulkAll spare + 1
  | .agg parts => uptoBulkAll parts + 1
  | .iface _ d => uptoBulk d + 1
  | .map entries => uptoBulkEntries entries + 1
  | .held _ => 1
def uptoBulkAll {H : Type} : List (DataW H) → Nat
  | [] => 0
  | d :: r => uptoBulk d + uptoBulkAll r
def uptoBulkEntries {H : Type} : List (Lit × DataW H) → Nat
  | [] => 0
  | x :: r => uptoBulkEntry x + uptoBulkEntries r
def uptoBulkEntry {H : Type} : Lit × DataW H → Nat
  | (.string bytes, d) => bytes.length + uptoBulk d + 1
  | (_, d) => uptoBulk d + 1
 end
def uptoSmall : (H : Type) → List (DataW H) → Bool := fun _ ds => decide (uptoBulkAll ds ≤ 1048576)
def OpenSpec.upto (s : _root_.Go.ChangeSpec) : _root_.Go.OpenSpec := { _root_.Go.OpenSpec.ofChange s with cond := some uptoSmall }

/-- 'gavottelaw12.KindMore', WHERE WHAT IT READS IS OF BULK AT MOST 1048576: true; the input reads as it did. -/
def kindMoreUptoRow : OpenClaim := { program := "ytjhpckeoackblaadoor", sum := "ec3d01d27c362a5231fb01cdd9cc1152f8038ceccd6e363913afeb10b05fc51e", func := "gavotte/gavottelaw12.KindMore", spec := "kindMore", unfollowed := true, recurses := true, named := ["gavotte/ast.words"], loops := true, apart := false, laid := [("gavotte/ast.words", laid_gavotte_ast_words)], narrowed := true }
def KindMoreUptoSaid : Prop := kindMoreUptoRow.holds Tryd.pinned (OpenSpec.upto kindMoreSpec)

/-- 'gavottelaw12.KindTypes', WHERE WHAT IT READS IS OF BULK AT MOST 1048576: true; the input reads as it did. -/
def kindTypesUptoRow : OpenClaim := { program := "ytjhpckeoackblaadoor", sum := "ec3d01d27c362a5231fb01cdd9cc1152f8038ceccd6e363913afeb10b05fc51e", func := "gavotte/gavottelaw12.KindTypes", spec := "kindTypes", unfollowed := true, recurses := true, named := ["gavotte/ast.words"], loops := true, apart := false, laid := [("gavotte/ast.words", laid_gavotte_ast_words)], narrowed := true }
def KindTypesUptoSaid : Prop := kindTypesUptoRow.holds Tryd.pinned (OpenSpec.upto kindTypesSpec)

/-- 'gavottelaw12.KindLeaves', WHERE WHAT IT READS IS OF BULK AT MOST 1048576: true; the input reads as it did. -/
def kindLeavesUptoRow : OpenClaim := { program := "ytjhpckeoackblaadoor", sum := "ec3d01d27c362a5231fb01cdd9cc1152f8038ceccd6e363913afeb10b05fc51e", func := "gavotte/gavottelaw12.KindLeaves", spec := "kindLeaves", unfollowed := true, recurses := true, named := ["gavotte/ast.words"], loops := true, apart := false, laid := [("gavotte/ast.words", laid_gavotte_ast_words)], narrowed := true }
def KindLeavesUptoSaid : Prop := kindLeavesUptoRow.holds Tryd.pinned (OpenSpec.upto kindLeavesSpec)

/-- 'gavottelaw12.KindAll', WHERE WHAT IT READS IS OF BULK AT MOST 1048576: true; the input reads as it did. -/
def kindAllUptoRow : OpenClaim := { program := "ytjhpckeoackblaadoor", sum := "ec3d01d27c362a5231fb01cdd9cc1152f8038ceccd6e363913afeb10b05fc51e", func := "gavotte/gavottelaw12.KindAll", spec := "kindAll", unfollowed := true, recurses := true, named := ["gavotte/ast.words"], loops := true, apart := false, laid := [("gavotte/ast.words", laid_gavotte_ast_words)], narrowed := true }
def KindAllUptoSaid : Prop := kindAllUptoRow.holds Tryd.pinned (OpenSpec.upto kindAllSpec)

end Rows
end Go.Proofs.YtjhpckeoackblaaDoor
