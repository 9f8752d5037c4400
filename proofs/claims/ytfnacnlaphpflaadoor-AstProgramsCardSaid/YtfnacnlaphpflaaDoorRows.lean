/-
  NARROWER THAN 'FOR EVERY INPUT', by the rows' own cells (each row's printed sentence says how): AstWalks: loops, laid · AstNames: laid · AstNests: loops, laid · AstExprs: loops, laid · AstSame: loops, laid · AstPrograms: loops, laid · AstAll: loops, laid.
  DERIVED. THE GIVEN ROWS OF THIS SEAT. 7 by the template 'for every input the law returns true; each argument reads behind the call as it read before'; 0 by the template 'total and deterministic' (their statements: YtfnacnlaphpflaaDoorTotals.lean).
  GIVEN WITH THE SEED: the statements are not yours to turn. If you find one false, say at which input.
  Laid BY PROGRAM, IN A SANDBOX (cutbox-rows.mjs): the forced cells as the released guide's own fill.sh prints them over the translation 83a4f38dc142b1d5… (all of the seat's roots in one cut). By AI agents, Wed Nov 11 2026. No macro, syntax, notation, axiom, sorry.
-/
import Derived.Test.YtfnacnlaphpflaaDoorChecked
import GoSem.Claim
import GoSem.ClaimJoined
import GoSem.ClaimMapViews
import Derived.JoinedTies
import Derived.KernelRfl
namespace Go.Proofs.YtfnacnlaphpflaaDoor
/- THE CELL 'sum', in the pinned program and in every row, IS THE sha256 OF THE DUMP (.gsa) THAT YtfnacnlaphpflaaDoorProg.lean LOADS. Nothing in Lean hashes anything: it is a label: what it is worth is what the hold of that sum in a sandbox is worth. -/
noncomputable def Tryd.pinned : Pinned := { name := "ytfnacnlaphpflaadoor", sum := "83a4f38dc142b1d5840e85661ac393c2b97f159d0e7fcbd9c3a187a546560f0d", checked := Tryd.checked }
namespace Rows
def none {H : Type} : Left H := { results := [], args := [] }

/- WHAT THE LISTED PACKAGE-LEVEL VARIABLES READ AS WHEN THE CALL BEGINS. Each datum BY PROGRAM (the guide's laid-datum.mjs) off the statement by which the dump's own 'gosem.cut.vars' lays the variable. In a bare row this is a premise. The card (YtfnacnlaphpflaaDoorCards.lean) ties it to the program's text. -/
def laid_gavotte_ast_words {H : Type} : DataW H := .agg [.lit (.string [97, 116, 111, 109, 105, 99]), .lit (.string [99, 111, 117, 112, 108, 101, 100]), .lit (.string [114, 111, 111, 116]), .lit (.string [105, 110]), .lit (.string [111, 117, 116]), .lit (.string [118, 97, 114]), .lit (.string [116, 97]), .lit (.string [101, 109, 105, 116]), .lit (.string [105, 110, 116]), .lit (.string [98, 111, 111, 108]), .lit (.string [115, 121, 109]), .lit (.string [101, 120, 116]), .lit (.string [99, 111, 110]), .lit (.string [112, 97, 114, 116]), .lit (.string [108, 105, 110, 107]), .lit (.string [114, 117, 108, 101]), .lit (.string [97, 100, 100]), .lit (.string [100, 114, 111, 112]), .lit (.string [116, 105, 101]), .lit (.string [99, 117, 116]), .lit (.string [105, 102]), .lit (.string [116, 104, 101, 110]), .lit (.string [101, 108, 115, 101]), .lit (.string [97, 110, 100]), .lit (.string [111, 114]), .lit (.string [110, 111, 116]), .lit (.string [116, 114, 117, 101]), .lit (.string [102, 97, 108, 115, 101]), .lit (.string [99, 111, 117, 110, 116]), .lit (.string [104, 97, 115]), .lit (.string [115, 117, 109]), .lit (.string [108, 101, 97, 115, 116]), .lit (.string [101, 108, 97, 112, 115, 101, 100])]

/-- 'gavottelaw09.AstWalks': WHATEVER THE INPUT: true; the input reads as it did. -/
def astWalksSpec : ChangeSpec := { name := "astWalks", fn := fun _ => fun
  | [d1, d2] => { results := [.lit (.bool true)], args := [d1, d2] }
  | _ => none }
def astWalksRow : OpenClaim := { program := "ytfnacnlaphpflaadoor", sum := "83a4f38dc142b1d5840e85661ac393c2b97f159d0e7fcbd9c3a187a546560f0d", func := "gavotte/gavottelaw09.AstWalks", spec := "astWalks", unfollowed := true, recurses := true, named := ["gavotte/ast.words"], loops := true, apart := false, laid := [("gavotte/ast.words", laid_gavotte_ast_words)] }
def AstWalksSaid : Prop := astWalksRow.holds Tryd.pinned (OpenSpec.ofChange astWalksSpec)

/-- ITS FALSE NEIGHBOUR: 'it returns false'. Refute it at one input. -/
def astWalksWrong : ChangeSpec := { name := "astWalks", fn := fun _ => fun
  | [d1, d2] => { results := [.lit (.bool false)], args := [d1, d2] }
  | _ => none }
def AstWalksWrongFalsely : Prop := astWalksRow.holds Tryd.pinned (OpenSpec.ofChange astWalksWrong)

/-- 'gavottelaw09.AstNames': WHATEVER THE INPUT: true; the input reads as it did. -/
def astNamesSpec : ChangeSpec := { name := "astNames", fn := fun _ => fun
  | [d] => { results := [.lit (.bool true)], args := [d] }
  | _ => none }
def astNamesRow : OpenClaim := { program := "ytfnacnlaphpflaadoor", sum := "83a4f38dc142b1d5840e85661ac393c2b97f159d0e7fcbd9c3a187a546560f0d", func := "gavotte/gavottelaw09.AstNames", spec := "astNames", unfollowed := true, recurses := true, named := ["gavotte/ast.words"], apart := false, laid := [("gavotte/ast.words", laid_gavotte_ast_words)] }
def AstNamesSaid : Prop := astNamesRow.holds Tryd.pinned (OpenSpec.ofChange astNamesSpec)

/-- ITS FALSE NEIGHBOUR: 'it returns false'. Refute it at one input. -/
def astNamesWrong : ChangeSpec := { name := "astNames", fn := fun _ => fun
  | [d] => { results := [.lit (.bool false)], args := [d] }
  | _ => none }
def AstNamesWrongFalsely : Prop := astNamesRow.holds Tryd.pinned (OpenSpec.ofChange astNamesWrong)

/-- 'gavottelaw09.AstNests': WHATEVER THE INPUT: true; the input reads as it did. -/
def astNestsSpec : ChangeSpec := { name := "astNests", fn := fun _ => fun
  | [d] => { results := [.lit (.bool true)], args := [d] }
  | _ => none }
def astNestsRow : OpenClaim := { program := "ytfnacnlaphpflaadoor", sum := "83a4f38dc142b1d5840e85661ac393c2b97f159d0e7fcbd9c3a187a546560f0d", func := "gavotte/gavottelaw09.AstNests", spec := "astNests", unfollowed := true, recurses := true, named := ["gavotte/ast.words"], loops := true, apart := false, laid := [("gavotte/ast.words", laid_gavotte_ast_words)] }
def AstNestsSaid : Prop := astNestsRow.holds Tryd.pinned (OpenSpec.ofChange astNestsSpec)

/-- ITS FALSE NEIGHBOUR: 'it returns false'. Refute it at one input. -/
def astNestsWrong : ChangeSpec := { name := "astNests", fn := fun _ => fun
  | [d] => { results := [.lit (.bool false)], args := [d] }
  | _ => none }
def AstNestsWrongFalsely : Prop := astNestsRow.holds Tryd.pinned (OpenSpec.ofChange astNestsWrong)

/-- 'gavottelaw09.AstExprs': WHATEVER THE INPUT: true; the input reads as it did. -/
def astExprsSpec : ChangeSpec := { name := "astExprs", fn := fun _ => fun
  | [d1, d2] => { results := [.lit (.bool true)], args := [d1, d2] }
  | _ => none }
def astExprsRow : OpenClaim := { program := "ytfnacnlaphpflaadoor", sum := "83a4f38dc142b1d5840e85661ac393c2b97f159d0e7fcbd9c3a187a546560f0d", func := "gavotte/gavottelaw09.AstExprs", spec := "astExprs", unfollowed := true, recurses := true, named := ["gavotte/ast.words"], loops := true, apart := false, laid := [("gavotte/ast.words", laid_gavotte_ast_words)] }
def AstExprsSaid : Prop := astExprsRow.holds Tryd.pinned (OpenSpec.ofChange astExprsSpec)

/-- ITS FALSE NEIGHBOUR: 'it returns false'. Refute it at one input. -/
def astExprsWrong : ChangeSpec := { name := "astExprs", fn := fun _ => fun
  | [d1, d2] => { results := [.lit (.bool false)], args := [d1, d2] }
  | _ => none }
def AstExprsWrongFalsely : Prop := astExprsRow.holds Tryd.pinned (OpenSpec.ofChange astExprsWrong)

/-- 'gavottelaw09.AstSame': WHATEVER THE INPUT: true; the input reads as it did. -/
def astSameSpec : ChangeSpec := { name := "astSame", fn := fun _ => fun
  | [d1, d2] => { results := [.lit (.bool true)], args := [d1, d2] }
  | _ => none }
def astSameRow : OpenClaim := { program := "ytfnacnlaphpflaadoor", sum := "83a4f38dc142b1d5840e85661ac393c2b97f159d0e7fcbd9c3a187a546560f0d", func := "gavotte/gavottelaw09.AstSame", spec := "astSame", unfollowed := true, recurses := true, named := ["gavotte/ast.words"], loops := true, apart := false, laid := [("gavotte/ast.words", laid_gavotte_ast_words)] }
def AstSameSaid : Prop := astSameRow.holds Tryd.pinned (OpenSpec.ofChange astSameSpec)

/-- ITS FALSE NEIGHBOUR: 'it returns false'. Refute it at one input. -/
def astSameWrong : ChangeSpec := { name := "astSame", fn := fun _ => fun
  | [d1, d2] => { results := [.lit (.bool false)], args := [d1, d2] }
  | _ => none }
def AstSameWrongFalsely : Prop := astSameRow.holds Tryd.pinned (OpenSpec.ofChange astSameWrong)

/-- 'gavottelaw09.AstPrograms': WHATEVER THE INPUT: true; the input reads as it did. -/
def astProgramsSpec : ChangeSpec := { name := "astPrograms", fn := fun _ => fun
  | [d] => { results := [.lit (.bool true)], args := [d] }
  | _ => none }
def astProgramsRow : OpenClaim := { program := "ytfnacnlaphpflaadoor", sum := "83a4f38dc142b1d5840e85661ac393c2b97f159d0e7fcbd9c3a187a546560f0d", func := "gavotte/gavottelaw09.AstPrograms", spec := "astPrograms", unfollowed := true, recurses := true, named := ["gavotte/ast.words"], loops := true, apart := false, laid := [("gavotte/ast.words", laid_gavotte_ast_words)] }
def AstProgramsSaid : Prop := astProgramsRow.holds Tryd.pinned (OpenSpec.ofChange astProgramsSpec)

/-- ITS FALSE NEIGHBOUR: 'it returns false'. Refute it at one input. -/
def astProgramsWrong : ChangeSpec := { name := "astPrograms", fn := fun _ => fun
  | [d] => { results := [.lit (.bool false)], args := [d] }
  | _ => none }
def AstProgramsWrongFalsely : Prop := astProgramsRow.holds Tryd.pinned (OpenSpec.ofChange astProgramsWrong)

/-- 'gavottelaw09.AstAll': WHATEVER THE INPUT: true; the input reads as it did. -/
def astAllSpec : ChangeSpec := { name := "astAll", fn := fun _ => fun
  | [d1, d2] => { results := [.lit (.bool true)], args := [d1, d2] }
  | _ => none }
def astAllRow : OpenClaim := { program := "ytfnacnlaphpflaadoor", sum := "83a4f38dc142b1d5840e85661ac393c2b97f159d0e7fcbd9c3a187a546560f0d", func := "gavotte/gavottelaw09.AstAll", spec := "astAll", unfollowed := true, recurses := true, named := ["gavotte/ast.words"], loops := true, apart := false, laid := [("gavotte/ast.words", laid_gavotte_ast_words)] }
def AstAllSaid : Prop := astAllRow.holds Tryd.pinned (OpenSpec.ofChange astAllSpec)

/-- ITS FALSE NEIGHBOUR: 'it returns false'. Refute it at one input. -/
def astAllWrong : ChangeSpec := { name := "astAll", fn := fun _ => fun
  | [d1, d2] => { results := [.lit (.bool false)], args := [d1, d2] }
  | _ => none }
def AstAllWrongFalsely : Prop := astAllRow.holds Tryd.pinned (OpenSpec.ofChange astAllWrong)

/- THE SECOND FORM. 'bulk': how many values and letters a reading holds, each counted each time it is reached (what is shared counts as often as it is met; a slice's spare places count too). A statement '..UptoSaid' is the law's where the arguments, and the package variables that the reading takes, are together of bulk at most 1048576: NARROWER than '..Said'. Prove '..Said' where nothing that the law and all that it calls make is longer than what came in: it says more and counts as full. Else prove '..UptoSaid'. A law counts once. -/
mutual
def uptoBulk {H : Type} : DataW H → Nat
  | .lit (.string bytes) => bytes.length + 1
  | .lit _ => 1
  | .nil => 1
  | .ptr d => uptoBulk d + 1
  | .slice elems spare => uptoBulkAll elems + uptoBulkAll spare + 1
  | .agg parts => uptoBulkAll parts + 1
  | .iface _ d => uptoBulk d + 1
  | .map entries => uptoBulkEntries entries + 1
  | .held _ => 1
def uptoBulkAll {H : Type} : List (DataW H) → Nat
  | [] => 0
  | d :: r => uptoBulk d + uptoBulkAll r
def uptoBulkEntries {H : Type} : List (Lit × DataW H) → Nat
  | [] => 0
  | x :: r => uptoBulkEntry x + uptoBulkEntries r
def uptoBulkEntry {H : Type} : Lit × DataW H → Nat
  | (.string bytes, d) => bytes.length + uptoBulk d + 1
  | (_, d) => uptoBulk d + 1
 end
def uptoSmall : (H : Type) → List (DataW H) → Bool := fun _ ds => decide (uptoBulkAll ds ≤ 1048576)
def OpenSpec.upto (s : _root_.Go.ChangeSpec) : _root_.Go.OpenSpec := { _root_.Go.OpenSpec.ofChange s with cond := some uptoSmall }

/-- 'gavottelaw09.AstWalks', WHERE WHAT IT READS IS OF BULK AT MOST 1048576: true; the input reads as it did. -/
def astWalksUptoRow : OpenClaim := { program := "ytfnacnlaphpflaadoor", sum := "83a4f38dc142b1d5840e85661ac393c2b97f159d0e7fcbd9c3a187a546560f0d", func := "gavotte/gavottelaw09.AstWalks", spec := "astWalks", unfollowed := true, recurses := true, named := ["gavotte/ast.words"], loops := true, apart := false, laid := [("gavotte/ast.words", laid_gavotte_ast_words)], narrowed := true }
def AstWalksUptoSaid : Prop := astWalksUptoRow.holds Tryd.pinned (OpenSpec.upto astWalksSpec)

/-- 'gavottelaw09.AstNames', WHERE WHAT IT READS IS OF BULK AT MOST 1048576: true; the input reads as it did. -/
def astNamesUptoRow : OpenClaim := { program := "ytfnacnlaphpflaadoor", sum := "83a4f38dc142b1d5840e85661ac393c2b97f159d0e7fcbd9c3a187a546560f0d", func := "gavotte/gavottelaw09.AstNames", spec := "astNames", unfollowed := true, recurses := true, named := ["gavotte/ast.words"], apart := false, laid := [("gavotte/ast.words", laid_gavotte_ast_words)], narrowed := true }
def AstNamesUptoSaid : Prop := astNamesUptoRow.holds Tryd.pinned (OpenSpec.upto astNamesSpec)

/-- 'gavottelaw09.AstNests', WHERE WHAT IT READS IS OF BULK AT MOST 1048576: true; the input reads as it did. -/
def astNestsUptoRow : OpenClaim := { program := "ytfnacnlaphpflaadoor", sum := "83a4f38dc142b1d5840e85661ac393c2b97f159d0e7fcbd9c3a187a546560f0d", func := "gavotte/gavottelaw09.AstNests", spec := "astNests", unfollowed := true, recurses := true, named := ["gavotte/ast.words"], loops := true, apart := false, laid := [("gavotte/ast.words", laid_gavotte_ast_words)], narrowed := true }
def AstNestsUptoSaid : Prop := astNestsUptoRow.holds Tryd.pinned (OpenSpec.upto astNestsSpec)

/-- 'gavottelaw09.AstExprs', WHERE WHAT IT READS IS OF BULK AT MOST 1048576: true; the input reads as it did. -/
def astExprsUptoRow : OpenClaim := { program := "ytfnacnlaphpflaadoor", sum := "83a4f38dc142b1d5840e85661ac393c2b97f159d0e7fcbd9c3a187a546560f0d", func := "gavotte/gavottelaw09.AstExprs", spec := "astExprs", unfollowed := true, recurses := true, named := ["gavotte/ast.words"], loops := true, apart := false, laid := [("gavotte/ast.words", laid_gavotte_ast_words)], narrowed := true }
def AstExprsUptoSaid : Prop := astExprsUptoRow.holds Tryd.pinned (OpenSpec.upto astExprsSpec)

/-- 'gavottelaw09.AstSame', WHERE WHAT IT READS IS OF BULK AT MOST 1048576: true; the input reads as it did. -/
def astSameUptoRow : OpenClaim := { program := "ytfnacnlaphpflaadoor", sum := "83a4f38dc142b1d5840e85661ac393c2b97f159d0e7fcbd9c3a187a546560f0d", func := "gavotte/gavottelaw09.AstSame", spec := "astSame", unfollowed := true, recurses := true, named := ["gavotte/ast.words"], loops := true, apart := false, laid := [("gavotte/ast.words", laid_gavotte_ast_words)], narrowed := true }
def AstSameUptoSaid : Prop := astSameUptoRow.holds Tryd.pinned (OpenSpec.upto astSameSpec)

/-- 'gavottelaw09.AstPrograms', WHERE WHAT IT READS IS OF BULK AT MOST 1048576: true; the input reads as it did. -/
def astProgramsUptoRow : OpenClaim := { program := "ytfnacnlaphpflaadoor", sum := "83a4f38dc142b1d5840e85661ac393c2b97f159d0e7fcbd9c3a187a546560f0d", func := "gavotte/gavottelaw09.AstPrograms", spec := "astPrograms", unfollowed := true, recurses := true, named := ["gavotte/ast.words"], loops := true, apart := false, laid := [("gavotte/ast.words", laid_gavotte_ast_words)], narrowed := true }
def AstProgramsUptoSaid : Prop := astProgramsUptoRow.holds Tryd.pinned (OpenSpec.upto astProgramsSpec)

/-- 'gavottelaw09.AstAll', WHERE WHAT IT READS IS OF BULK AT MOST 1048576: true; the input reads as it did. -/
def astAllUptoRow : OpenClaim := { program := "ytfnacnlaphpflaadoor", sum := "83a4f38dc142b1d5840e85661ac393c2b97f159d0e7fcbd9c3a187a546560f0d", func := "gavotte/gavottelaw09.AstAll", spec := "astAll", unfollowed := true, recurses := true, named := ["gavotte/ast.words"], loops := true, apart := false, laid := [("gavotte/ast.words", laid_gavotte_ast_words)], narrowed := true }
def AstAllUptoSaid : Prop := astAllUptoRow.holds Tryd.pinned (OpenSpec.upto astAllSpec)

end Rows
end Go.Proofs.YtfnacnlaphpflaaDoor
