/-
  NARROWER THAN 'FOR EVERY INPUT', by the rows' own cells (each row's printed sentence says how): SpanAsks: laid · SpanMakes: laid · SpanMins: laid · SpanLeast: laid · SpanOrders: laid · SpanThirds: laid · SpanBack: laid · SpanSums: laid · SpanTexts: laid · SpanReads: laid.
  DERIVED. THE GIVEN ROWS OF THIS SEAT. 10 by the template 'for every input the law returns true; each argument reads behind the call as it read before'; 0 by the template 'total and deterministic' (their statements: YtgfmahfdkiblbaaDoorTotals.lean).
  GIVEN WITH THE SEED: the statements are not yours to turn. If you find one false, say at which input.
  Laid BY PROGRAM, IN A SANDBOX (cutbox-rows.mjs): the forced cells as the released guide's own fill.sh prints them over the translation dee97bbb784cf50e… (all of the seat's roots in one cut). By AI agents, Wed Nov 11 2026. No macro, syntax, notation, axiom, sorry.
-/
import Derived.Test.YtgfmahfdkiblbaaDoorChecked
import GoSem.Claim
import GoSem.ClaimJoined
import GoSem.ClaimMapViews
import Derived.JoinedTies
import Derived.KernelRfl
namespace Go.Proofs.YtgfmahfdkiblbaaDoor
/- THE CELL 'sum', in the pinned program and in every row, IS THE sha256 OF THE DUMP (.gsa) THAT YtgfmahfdkiblbaaDoorProg.lean LOADS. Nothing in Lean hashes anything: it is a label: what it is worth is what the hold of that sum in a sandbox is worth. -/
noncomputable def Tryd.pinned : Pinned := { name := "ytgfmahfdkiblbaadoor", sum := "dee97bbb784cf50ed5f38fad6af943654a123275bd2d8960d07ee98f02c5f17c", checked := Tryd.checked }
namespace Rows
def none {H : Type} : Left H := { results := [], args := [] }

/- WHAT THE LISTED PACKAGE-LEVEL VARIABLES READ AS WHEN THE CALL BEGINS. Each datum BY PROGRAM (the guide's laid-datum.mjs) off the statement by which the dump's own 'gosem.cut.vars' lays the variable. In a bare row this is a premise. The card (YtgfmahfdkiblbaaDoorCards.lean) ties it to the program's text. -/
def laid_math_bits_deBruijn32tab {H : Type} : DataW H := .agg [.lit (.int .u8 0), .lit (.int .u8 1), .lit (.int .u8 28), .lit (.int .u8 2), .lit (.int .u8 29), .lit (.int .u8 14), .lit (.int .u8 24), .lit (.int .u8 3), .lit (.int .u8 30), .lit (.int .u8 22), .lit (.int .u8 20), .lit (.int .u8 15), .lit (.int .u8 25), .lit (.int .u8 17), .lit (.int .u8 4), .lit (.int .u8 8), .lit (.int .u8 31), .lit (.int .u8 27), .lit (.int .u8 13), .lit (.int .u8 23), .lit (.int .u8 21), .lit (.int .u8 19), .lit (.int .u8 16), .lit (.int .u8 7), .lit (.int .u8 26), .lit (.int .u8 12), .lit (.int .u8 18), .lit (.int .u8 6), .lit (.int .u8 11), .lit (.int .u8 5), .lit (.int .u8 10), .lit (.int .u8 9)]
def laid_math_bits_deBruijn64tab {H : Type} : DataW H := .agg [.lit (.int .u8 0), .lit (.int .u8 1), .lit (.int .u8 56), .lit (.int .u8 2), .lit (.int .u8 57), .lit (.int .u8 49), .lit (.int .u8 28), .lit (.int .u8 3), .lit (.int .u8 61), .lit (.int .u8 58), .lit (.int .u8 42), .lit (.int .u8 50), .lit (.int .u8 38), .lit (.int .u8 29), .lit (.int .u8 17), .lit (.int .u8 4), .lit (.int .u8 62), .lit (.int .u8 47), .lit (.int .u8 59), .lit (.int .u8 36), .lit (.int .u8 45), .lit (.int .u8 43), .lit (.int .u8 51), .lit (.int .u8 22), .lit (.int .u8 53), .lit (.int .u8 39), .lit (.int .u8 33), .lit (.int .u8 30), .lit (.int .u8 24), .lit (.int .u8 18), .lit (.int .u8 12), .lit (.int .u8 5), .lit (.int .u8 63), .lit (.int .u8 55), .lit (.int .u8 48), .lit (.int .u8 27), .lit (.int .u8 60), .lit (.int .u8 41), .lit (.int .u8 37), .lit (.int .u8 16), .lit (.int .u8 46), .lit (.int .u8 35), .lit (.int .u8 44), .lit (.int .u8 21), .lit (.int .u8 52), .lit (.int .u8 32), .lit (.int .u8 23), .lit (.int .u8 11), .lit (.int .u8 54), .lit (.int .u8 26), .lit (.int .u8 40), .lit (.int .u8 15), .lit (.int .u8 34), .lit (.int .u8 20), .lit (.int .u8 31), .lit (.int .u8 10), .lit (.int .u8 25), .lit (.int .u8 14), .lit (.int .u8 19), .lit (.int .u8 9), .lit (.int .u8 13), .lit (.int .u8 8), .lit (.int .u8 7), .lit (.int .u8 6)]
def laid_internal_strconv_uint64pow10 {H : Type} : DataW H := .agg [.lit (.int .u64 1), .lit (.int .u64 10), .lit (.int .u64 100), .lit (.int .u64 1000), .lit (.int .u64 10000), .lit (.int .u64 100000), .lit (.int .u64 1000000), .lit (.int .u64 10000000), .lit (.int .u64 100000000), .lit (.int .u64 1000000000), .lit (.int .u64 10000000000), .lit (.int .u64 100000000000), .lit (.int .u64 1000000000000), .lit (.int .u64 10000000000000), .lit (.int .u64 100000000000000), .lit (.int .u64 1000000000000000), .lit (.int .u64 10000000000000000), .lit (.int .u64 100000000000000000), .lit (.int .u64 1000000000000000000), .lit (.int .u64 10000000000000000000)]
def laid_strconv_ErrRange {H : Type} : DataW H := .iface "*errors.errorString" (.ptr (.agg [.lit (.string [118, 97, 108, 117, 101, 32, 111, 117, 116, 32, 111, 102, 32, 114, 97, 110, 103, 101])]))
def laid_strconv_ErrSyntax {H : Type} : DataW H := .iface "*errors.errorString" (.ptr (.agg [.lit (.string [105, 110, 118, 97, 108, 105, 100, 32, 115, 121, 110, 116, 97, 120])]))

/-- 'gavottelaw01.SpanAsks': WHATEVER THE INPUT: true; the input reads as it did. -/
def spanAsksSpec : ChangeSpec := { name := "spanAsks", fn := fun _ => fun
  | [d1, d2] => { results := [.lit (.bool true)], args := [d1, d2] }
  | _ => none }
def spanAsksRow : OpenClaim := { program := "ytgfmahfdkiblbaadoor", sum := "dee97bbb784cf50ed5f38fad6af943654a123275bd2d8960d07ee98f02c5f17c", func := "gavotte/gavottelaw01.SpanAsks", spec := "spanAsks", named := ["internal/strconv.uint64pow10", "math/bits.deBruijn32tab", "math/bits.deBruijn64tab"], apart := false, laid := [("math/bits.deBruijn32tab", laid_math_bits_deBruijn32tab), ("math/bits.deBruijn64tab", laid_math_bits_deBruijn64tab), ("internal/strconv.uint64pow10", laid_internal_strconv_uint64pow10)] }
def SpanAsksSaid : Prop := spanAsksRow.holds Tryd.pinned (OpenSpec.ofChange spanAsksSpec)

/-- ITS FALSE NEIGHBOUR: 'it returns false'. Refute it at one input. -/
def spanAsksWrong : ChangeSpec := { name := "spanAsks", fn := fun _ => fun
  | [d1, d2] => { results := [.lit (.bool false)], args := [d1, d2] }
  | _ => none }
def SpanAsksWrongFalsely : Prop := spanAsksRow.holds Tryd.pinned (OpenSpec.ofChange spanAsksWrong)

/-- 'gavottelaw01.SpanMakes': WHATEVER THE INPUT: true; the input reads as it did. -/
def spanMakesSpec : ChangeSpec := { name := "spanMakes", fn := fun _ => fun
  | [d1, d2] => { results := [.lit (.bool true)], args := [d1, d2] }
  | _ => none }
def spanMakesRow : OpenClaim := { program := "ytgfmahfdkiblbaadoor", sum := "dee97bbb784cf50ed5f38fad6af943654a123275bd2d8960d07ee98f02c5f17c", func := "gavotte/gavottelaw01.SpanMakes", spec := "spanMakes", named := ["internal/strconv.uint64pow10", "math/bits.deBruijn32tab", "math/bits.deBruijn64tab"], apart := false, laid := [("math/bits.deBruijn32tab", laid_math_bits_deBruijn32tab), ("math/bits.deBruijn64tab", laid_math_bits_deBruijn64tab), ("internal/strconv.uint64pow10", laid_internal_strconv_uint64pow10)] }
def SpanMakesSaid : Prop := spanMakesRow.holds Tryd.pinned (OpenSpec.ofChange spanMakesSpec)

/-- ITS FALSE NEIGHBOUR: 'it returns false'. Refute it at one input. -/
def spanMakesWrong : ChangeSpec := { name := "spanMakes", fn := fun _ => fun
  | [d1, d2] => { results := [.lit (.bool false)], args := [d1, d2] }
  | _ => none }
def SpanMakesWrongFalsely : Prop := spanMakesRow.holds Tryd.pinned (OpenSpec.ofChange spanMakesWrong)

/-- 'gavottelaw01.SpanMins': WHATEVER THE INPUT: true; the input reads as it did. -/
def spanMinsSpec : ChangeSpec := { name := "spanMins", fn := fun _ => fun
  | [d] => { results := [.lit (.bool true)], args := [d] }
  | _ => none }
def spanMinsRow : OpenClaim := { program := "ytgfmahfdkiblbaadoor", sum := "dee97bbb784cf50ed5f38fad6af943654a123275bd2d8960d07ee98f02c5f17c", func := "gavotte/gavottelaw01.SpanMins", spec := "spanMins", named := ["internal/strconv.uint64pow10", "math/bits.deBruijn32tab", "math/bits.deBruijn64tab"], apart := false, laid := [("math/bits.deBruijn32tab", laid_math_bits_deBruijn32tab), ("math/bits.deBruijn64tab", laid_math_bits_deBruijn64tab), ("internal/strconv.uint64pow10", laid_internal_strconv_uint64pow10)] }
def SpanMinsSaid : Prop := spanMinsRow.holds Tryd.pinned (OpenSpec.ofChange spanMinsSpec)

/-- ITS FALSE NEIGHBOUR: 'it returns false'. Refute it at one input. -/
def spanMinsWrong : ChangeSpec := { name := "spanMins", fn := fun _ => fun
  | [d] => { results := [.lit (.bool false)], args := [d] }
  | _ => none }
def SpanMinsWrongFalsely : Prop := spanMinsRow.holds Tryd.pinned (OpenSpec.ofChange spanMinsWrong)

/-- 'gavottelaw01.SpanLeast': WHATEVER THE INPUT: true; the input reads as it did. -/
def spanLeastSpec : ChangeSpec := { name := "spanLeast", fn := fun _ => fun
  | [d] => { results := [.lit (.bool true)], args := [d] }
  | _ => none }
def spanLeastRow : OpenClaim := { program := "ytgfmahfdkiblbaadoor", sum := "dee97bbb784cf50ed5f38fad6af943654a123275bd2d8960d07ee98f02c5f17c", func := "gavotte/gavottelaw01.SpanLeast", spec := "spanLeast", named := ["internal/strconv.uint64pow10", "math/bits.deBruijn32tab", "math/bits.deBruijn64tab"], apart := false, laid := [("math/bits.deBruijn32tab", laid_math_bits_deBruijn32tab), ("math/bits.deBruijn64tab", laid_math_bits_deBruijn64tab), ("internal/strconv.uint64pow10", laid_internal_strconv_uint64pow10)] }
def SpanLeastSaid : Prop := spanLeastRow.holds Tryd.pinned (OpenSpec.ofChange spanLeastSpec)

/-- ITS FALSE NEIGHBOUR: 'it returns false'. Refute it at one input. -/
def spanLeastWrong : ChangeSpec := { name := "spanLeast", fn := fun _ => fun
  | [d] => { results := [.lit (.bool false)], args := [d] }
  | _ => none }
def SpanLeastWrongFalsely : Prop := spanLeastRow.holds Tryd.pinned (OpenSpec.ofChange spanLeastWrong)

/-- 'gavottelaw01.SpanOrders': WHATEVER THE INPUT: true; the input reads as it did. -/
def spanOrdersSpec : ChangeSpec := { name := "spanOrders", fn := fun _ => fun
  | [d1, d2, d3] => { results := [.lit (.bool true)], args := [d1, d2, d3] }
  | _ => none }
def spanOrdersRow : OpenClaim := { program := "ytgfmahfdkiblbaadoor", sum := "dee97bbb784cf50ed5f38fad6af943654a123275bd2d8960d07ee98f02c5f17c", func := "gavotte/gavottelaw01.SpanOrders", spec := "spanOrders", inPlace := ["math/bits.Sub64", "math/bits.Add64"], named := ["internal/strconv.uint64pow10", "math/bits.deBruijn32tab", "math/bits.deBruijn64tab", "math/bits.divideError", "math/bits.overflowError"], apart := false, laid := [("math/bits.deBruijn32tab", laid_math_bits_deBruijn32tab), ("math/bits.deBruijn64tab", laid_math_bits_deBruijn64tab), ("internal/strconv.uint64pow10", laid_internal_strconv_uint64pow10)] }
def SpanOrdersSaid : Prop := spanOrdersRow.holds Tryd.pinned (OpenSpec.ofChange spanOrdersSpec)

/-- ITS FALSE NEIGHBOUR: 'it returns false'. Refute it at one input. -/
def spanOrdersWrong : ChangeSpec := { name := "spanOrders", fn := fun _ => fun
  | [d1, d2, d3] => { results := [.lit (.bool false)], args := [d1, d2, d3] }
  | _ => none }
def SpanOrdersWrongFalsely : Prop := spanOrdersRow.holds Tryd.pinned (OpenSpec.ofChange spanOrdersWrong)

/-- 'gavottelaw01.SpanThirds': WHATEVER THE INPUT: true; the input reads as it did. -/
def spanThirdsSpec : ChangeSpec := { name := "spanThirds", fn := fun _ => fun
  | [d1, d2, d3] => { results := [.lit (.bool true)], args := [d1, d2, d3] }
  | _ => none }
def spanThirdsRow : OpenClaim := { program := "ytgfmahfdkiblbaadoor", sum := "dee97bbb784cf50ed5f38fad6af943654a123275bd2d8960d07ee98f02c5f17c", func := "gavotte/gavottelaw01.SpanThirds", spec := "spanThirds", inPlace := ["math/bits.Sub64", "math/bits.Add64"], named := ["math/bits.divideError", "math/bits.overflowError", "internal/strconv.uint64pow10", "math/bits.deBruijn32tab", "math/bits.deBruijn64tab"], apart := false, laid := [("math/bits.deBruijn32tab", laid_math_bits_deBruijn32tab), ("math/bits.deBruijn64tab", laid_math_bits_deBruijn64tab), ("internal/strconv.uint64pow10", laid_internal_strconv_uint64pow10)] }
def SpanThirdsSaid : Prop := spanThirdsRow.holds Tryd.pinned (OpenSpec.ofChange spanThirdsSpec)

/-- ITS FALSE NEIGHBOUR: 'it returns false'. Refute it at one input. -/
def spanThirdsWrong : ChangeSpec := { name := "spanThirds", fn := fun _ => fun
  | [d1, d2, d3] => { results := [.lit (.bool false)], args := [d1, d2, d3] }
  | _ => none }
def SpanThirdsWrongFalsely : Prop := spanThirdsRow.holds Tryd.pinned (OpenSpec.ofChange spanThirdsWrong)

/-- 'gavottelaw01.SpanBack': WHATEVER THE INPUT: true; the input reads as it did. -/
def spanBackSpec : ChangeSpec := { name := "spanBack", fn := fun _ => fun
  | [d1, d2] => { results := [.lit (.bool true)], args := [d1, d2] }
  | _ => none }
def spanBackRow : OpenClaim := { program := "ytgfmahfdkiblbaadoor", sum := "dee97bbb784cf50ed5f38fad6af943654a123275bd2d8960d07ee98f02c5f17c", func := "gavotte/gavottelaw01.SpanBack", spec := "spanBack", inPlace := ["math/bits.Sub64", "math/bits.Add64"], named := ["math/bits.divideError", "math/bits.overflowError", "internal/strconv.uint64pow10", "math/bits.deBruijn32tab", "math/bits.deBruijn64tab"], apart := false, laid := [("math/bits.deBruijn32tab", laid_math_bits_deBruijn32tab), ("math/bits.deBruijn64tab", laid_math_bits_deBruijn64tab), ("internal/strconv.uint64pow10", laid_internal_strconv_uint64pow10)] }
def SpanBackSaid : Prop := spanBackRow.holds Tryd.pinned (OpenSpec.ofChange spanBackSpec)

/-- ITS FALSE NEIGHBOUR: 'it returns false'. Refute it at one input. -/
def spanBackWrong : ChangeSpec := { name := "spanBack", fn := fun _ => fun
  | [d1, d2] => { results := [.lit (.bool false)], args := [d1, d2] }
  | _ => none }
def SpanBackWrongFalsely : Prop := spanBackRow.holds Tryd.pinned (OpenSpec.ofChange spanBackWrong)

/-- 'gavottelaw01.SpanSums': WHATEVER THE INPUT: true; the input reads as it did. -/
def spanSumsSpec : ChangeSpec := { name := "spanSums", fn := fun _ => fun
  | [d1, d2] => { results := [.lit (.bool true)], args := [d1, d2] }
  | _ => none }
def spanSumsRow : OpenClaim := { program := "ytgfmahfdkiblbaadoor", sum := "dee97bbb784cf50ed5f38fad6af943654a123275bd2d8960d07ee98f02c5f17c", func := "gavotte/gavottelaw01.SpanSums", spec := "spanSums", inPlace := ["math/bits.Sub64", "math/bits.Add64"], named := ["math/bits.divideError", "math/bits.overflowError", "internal/strconv.uint64pow10", "math/bits.deBruijn32tab", "math/bits.deBruijn64tab"], apart := false, laid := [("math/bits.deBruijn32tab", laid_math_bits_deBruijn32tab), ("math/bits.deBruijn64tab", laid_math_bits_deBruijn64tab), ("internal/strconv.uint64pow10", laid_internal_strconv_uint64pow10)] }
def SpanSumsSaid : Prop := spanSumsRow.holds Tryd.pinned (OpenSpec.ofChange spanSumsSpec)

/-- ITS FALSE NEIGHBOUR: 'it returns false'. Refute it at one input. -/
def spanSumsWrong : ChangeSpec := { name := "spanSums", fn := fun _ => fun
  | [d1, d2] => { results := [.lit (.bool false)], args := [d1, d2] }
  | _ => none }
def SpanSumsWrongFalsely : Prop := spanSumsRow.holds Tryd.pinned (OpenSpec.ofChange spanSumsWrong)

/-- 'gavottelaw01.SpanTexts': WHATEVER THE INPUT: true; the input reads as it did. -/
def spanTextsSpec : ChangeSpec := { name := "spanTexts", fn := fun _ => fun
  | [d] => { results := [.lit (.bool true)], args := [d] }
  | _ => none }
def spanTextsRow : OpenClaim := { program := "ytgfmahfdkiblbaadoor", sum := "dee97bbb784cf50ed5f38fad6af943654a123275bd2d8960d07ee98f02c5f17c", func := "gavotte/gavottelaw01.SpanTexts", spec := "spanTexts", inPlace := ["internal/bytealg.IndexByteString", "internal/bytealg.IndexString"], named := ["internal/strconv.uint64pow10", "math/bits.deBruijn32tab", "math/bits.deBruijn64tab", "internal/bytealg.MaxLen", "strconv.ErrSyntax", "strconv.ErrRange"], apart := false, laid := [("math/bits.deBruijn32tab", laid_math_bits_deBruijn32tab), ("math/bits.deBruijn64tab", laid_math_bits_deBruijn64tab), ("internal/strconv.uint64pow10", laid_internal_strconv_uint64pow10), ("strconv.ErrRange", laid_strconv_ErrRange), ("strconv.ErrSyntax", laid_strconv_ErrSyntax)] }
def SpanTextsSaid : Prop := spanTextsRow.holds Tryd.pinned (OpenSpec.ofChange spanTextsSpec)

/-- ITS FALSE NEIGHBOUR: 'it returns false'. Refute it at one input. -/
def spanTextsWrong : ChangeSpec := { name := "spanTexts", fn := fun _ => fun
  | [d] => { results := [.lit (.bool false)], args := [d] }
  | _ => none }
def SpanTextsWrongFalsely : Prop := spanTextsRow.holds Tryd.pinned (OpenSpec.ofChange spanTextsWrong)

/-- 'gavottelaw01.SpanReads': WHATEVER THE INPUT: true; the input reads as it did. -/
def spanReadsSpec : ChangeSpec := { name := "spanReads", fn := fun _ => fun
  | [d] => { results := [.lit (.bool true)], args := [d] }
  | _ => none }
def spanReadsRow : OpenClaim := { program := "ytgfmahfdkiblbaadoor", sum := "dee97bbb784cf50ed5f38fad6af943654a123275bd2d8960d07ee98f02c5f17c", func := "gavotte/gavottelaw01.SpanReads", spec := "spanReads", inPlace := ["internal/bytealg.IndexByteString", "internal/bytealg.IndexString"], named := ["internal/strconv.uint64pow10", "math/bits.deBruijn32tab", "math/bits.deBruijn64tab", "internal/bytealg.MaxLen", "strconv.ErrSyntax", "strconv.ErrRange"], apart := false, laid := [("math/bits.deBruijn32tab", laid_math_bits_deBruijn32tab), ("math/bits.deBruijn64tab", laid_math_bits_deBruijn64tab), ("internal/strconv.uint64pow10", laid_internal_strconv_uint64pow10), ("strconv.ErrRange", laid_strconv_ErrRange), ("strconv.ErrSyntax", laid_strconv_ErrSyntax)] }
def SpanReadsSaid : Prop := spanReadsRow.holds Tryd.pinned (OpenSpec.ofChange spanReadsSpec)

/-- ITS FALSE NEIGHBOUR: 'it returns false'. Refute it at one input. -/
def spanReadsWrong : ChangeSpec := { name := "spanReads", fn := fun _ => fun
  | [d] => { results := [.lit (.bool false)], args := [d] }
  | _ => none }
def SpanReadsWrongFalsely : Prop := spanReadsRow.holds Tryd.pinned (OpenSpec.ofChange spanReadsWrong)

/- THE SECOND FORM. 'bulk': how many values and letters a reading holds, each counted each time it is reached (what is shared counts as often as it is met; a slice's spare places count too). A statement '..UptoSaid' is the law's where the arguments, and the package variables that the reading takes, are together of bulk at most 1048576: NARROWER than '..Said'. Prove '..Said' where nothing that the law and all that it calls make is longer than what came in: it says more and counts as full. Else prove '..UptoSaid'. A law counts once. -/
mutual
def uptoBulk {H : Type} : DataW H → Nat
  | .lit (.string bytes) => bytes.length + 1
  | .lit _ => 1
  | .nil => 1
  | .ptr d => uptoBulk d + 1
  | .slice elems spare => uptoBulkAll elems + uptoBulkAll spare + 1
  | .agg parts => uptoBulkAll parts + 1
  | .iface _ d => uptoBulk d + 1
  | .map entries => uptoBulkEntries entries + 1
  | .held _ => 1
def uptoBulkAll {H : Type} : List (DataW H) → Nat
  | [] => 0
  | d :: r => uptoBulk d + uptoBulkAll r
def uptoBulkEntries {H : Type} : List (Lit × DataW H) → Nat
  | [] => 0
  | x :: r => uptoBulkEntry x + uptoBulkEntries r
def uptoBulkEntry {H : Type} : Lit × DataW H → Nat
  | (.string bytes, d) => bytes.length + uptoBulk d + 1
  | (_, d) => uptoBulk d + 1
 end
def uptoSmall : (H : Type) → List (DataW H) → Bool := fun _ ds => decide (uptoBulkAll ds ≤ 1048576)
def OpenSpec.upto (s : _root_.Go.ChangeSpec) : _root_.Go.OpenSpec := { _root_.Go.OpenSpec.ofChange s with cond := some uptoSmall }

/-- 'gavottelaw01.SpanAsks', WHERE WHAT IT READS IS OF BULK AT MOST 1048576: true; the input reads as it did. -/
def spanAsksUptoRow : OpenClaim := { program := "ytgfmahfdkiblbaadoor", sum := "dee97bbb784cf50ed5f38fad6af943654a123275bd2d8960d07ee98f02c5f17c", func := "gavotte/gavottelaw01.SpanAsks", spec := "spanAsks", named := ["internal/strconv.uint64pow10", "math/bits.deBruijn32tab", "math/bits.deBruijn64tab"], apart := false, laid := [("math/bits.deBruijn32tab", laid_math_bits_deBruijn32tab), ("math/bits.deBruijn64tab", laid_math_bits_deBruijn64tab), ("internal/strconv.uint64pow10", laid_internal_strconv_uint64pow10)], narrowed := true }
def SpanAsksUptoSaid : Prop := spanAsksUptoRow.holds Tryd.pinned (OpenSpec.upto spanAsksSpec)

/-- 'gavottelaw01.SpanMakes', WHERE WHAT IT READS IS OF BULK AT MOST 1048576: true; the input reads as it did. -/
def spanMakesUptoRow : OpenClaim := { program := "ytgfmahfdkiblbaadoor", sum := "dee97bbb784cf50ed5f38fad6af943654a123275bd2d8960d07ee98f02c5f17c", func := "gavotte/gavottelaw01.SpanMakes", spec := "spanMakes", named := ["internal/strconv.uint64pow10", "math/bits.deBruijn32tab", "math/bits.deBruijn64tab"], apart := false, laid := [("math/bits.deBruijn32tab", laid_math_bits_deBruijn32tab), ("math/bits.deBruijn64tab", laid_math_bits_deBruijn64tab), ("internal/strconv.uint64pow10", laid_internal_strconv_uint64pow10)], narrowed := true }
def SpanMakesUptoSaid : Prop := spanMakesUptoRow.holds Tryd.pinned (OpenSpec.upto spanMakesSpec)

/-- 'gavottelaw01.SpanMins', WHERE WHAT IT READS IS OF BULK AT MOST 1048576: true; the input reads as it did. -/
def spanMinsUptoRow : OpenClaim := { program := "ytgfmahfdkiblbaadoor", sum := "dee97bbb784cf50ed5f38fad6af943654a123275bd2d8960d07ee98f02c5f17c", func := "gavotte/gavottelaw01.SpanMins", spec := "spanMins", named := ["internal/strconv.uint64pow10", "math/bits.deBruijn32tab", "math/bits.deBruijn64tab"], apart := false, laid := [("math/bits.deBruijn32tab", laid_math_bits_deBruijn32tab), ("math/bits.deBruijn64tab", laid_math_bits_deBruijn64tab), ("internal/strconv.uint64pow10", laid_internal_strconv_uint64pow10)], narrowed := true }
def SpanMinsUptoSaid : Prop := spanMinsUptoRow.holds Tryd.pinned (OpenSpec.upto spanMinsSpec)

/-- 'gavottelaw01.SpanLeast', WHERE WHAT IT READS IS OF BULK AT MOST 1048576: true; the input reads as it did. -/
def spanLeastUptoRow : OpenClaim := { program := "ytgfmahfdkiblbaadoor", sum := "dee97bbb784cf50ed5f38fad6af943654a123275bd2d8960d07ee98f02c5f17c", func := "gavotte/gavottelaw01.SpanLeast", spec := "spanLeast", named := ["internal/strconv.uint64pow10", "math/bits.deBruijn32tab", "math/bits.deBruijn64tab"], apart := false, laid := [("math/bits.deBruijn32tab", laid_math_bits_deBruijn32tab), ("math/bits.deBruijn64tab", laid_math_bits_deBruijn64tab), ("internal/strconv.uint64pow10", laid_internal_strconv_uint64pow10)], narrowed := true }
def SpanLeastUptoSaid : Prop := spanLeastUptoRow.holds Tryd.pinned (OpenSpec.upto spanLeastSpec)

/-- 'gavottelaw01.SpanOrders', WHERE WHAT IT READS IS OF BULK AT MOST 1048576: true; the input reads as it did. -/
def spanOrdersUptoRow : OpenClaim := { program := "ytgfmahfdkiblbaadoor", sum := "dee97bbb784cf50ed5f38fad6af943654a123275bd2d8960d07ee98f02c5f17c", func := "gavotte/gavottelaw01.SpanOrders", spec := "spanOrders", inPlace := ["math/bits.Sub64", "math/bits.Add64"], named := ["internal/strconv.uint64pow10", "math/bits.deBruijn32tab", "math/bits.deBruijn64tab", "math/bits.divideError", "math/bits.overflowError"], apart := false, laid := [("math/bits.deBruijn32tab", laid_math_bits_deBruijn32tab), ("math/bits.deBruijn64tab", laid_math_bits_deBruijn64tab), ("internal/strconv.uint64pow10", laid_internal_strconv_uint64pow10)], narrowed := true }
def SpanOrdersUptoSaid : Prop := spanOrdersUptoRow.holds Tryd.pinned (OpenSpec.upto spanOrdersSpec)

/-- 'gavottelaw01.SpanThirds', WHERE WHAT IT READS IS OF BULK AT MOST 1048576: true; the input reads as it did. -/
def spanThirdsUptoRow : OpenClaim := { program := "ytgfmahfdkiblbaadoor", sum := "dee97bbb784cf50ed5f38fad6af943654a123275bd2d8960d07ee98f02c5f17c", func := "gavotte/gavottelaw01.SpanThirds", spec := "spanThirds", inPlace := ["math/bits.Sub64", "math/bits.Add64"], named := ["math/bits.divideError", "math/bits.overflowError", "internal/strconv.uint64pow10", "math/bits.deBruijn32tab", "math/bits.deBruijn64tab"], apart := false, laid := [("math/bits.deBruijn32tab", laid_math_bits_deBruijn32tab), ("math/bits.deBruijn64tab", laid_math_bits_deBruijn64tab), ("internal/strconv.uint64pow10", laid_internal_strconv_uint64pow10)], narrowed := true }
def SpanThirdsUptoSaid : Prop := spanThirdsUptoRow.holds Tryd.pinned (OpenSpec.upto spanThirdsSpec)

/-- 'gavottelaw01.SpanBack', WHERE WHAT IT READS IS OF BULK AT MOST 1048576: true; the input reads as it did. -/
def spanBackUptoRow : OpenClaim := { program := "ytgfmahfdkiblbaadoor", sum := "dee97bbb784cf50ed5f38fad6af943654a123275bd2d8960d07ee98f02c5f17c", func := "gavotte/gavottelaw01.SpanBack", spec := "spanBack", inPlace := ["math/bits.Sub64", "math/bits.Add64"], named := ["math/bits.divideError", "math/bits.overflowError", "internal/strconv.uint64pow10", "math/bits.deBruijn32tab", "math/bits.deBruijn64tab"], apart := false, laid := [("math/bits.deBruijn32tab", laid_math_bits_deBruijn32tab), ("math/bits.deBruijn64tab", laid_math_bits_deBruijn64tab), ("internal/strconv.uint64pow10", laid_internal_strconv_uint64pow10)], narrowed := true }
def SpanBackUptoSaid : Prop := spanBackUptoRow.holds Tryd.pinned (OpenSpec.upto spanBackSpec)

/-- 'gavottelaw01.SpanSums', WHERE WHAT IT READS IS OF BULK AT MOST 1048576: true; the input reads as it did. -/
def spanSumsUptoRow : OpenClaim := { program := "ytgfmahfdkiblbaadoor", sum := "dee97bbb784cf50ed5f38fad6af943654a123275bd2d8960d07ee98f02c5f17c", func := "gavotte/gavottelaw01.SpanSums", spec := "spanSums", inPlace := ["math/bits.Sub64", "math/bits.Add64"], named := ["math/bits.divideError", "math/bits.overflowError", "internal/strconv.uint64pow10", "math/bits.deBruijn32tab", "math/bits.deBruijn64tab"], apart := false, laid := [("math/bits.deBruijn32tab", laid_math_bits_deBruijn32tab), ("math/bits.deBruijn64tab", laid_math_bits_deBruijn64tab), ("internal/strconv.uint64pow10", laid_internal_strconv_uint64pow10)], narrowed := true }
def SpanSumsUptoSaid : Prop := spanSumsUptoRow.holds Tryd.pinned (OpenSpec.upto spanSumsSpec)

/-- 'gavottelaw01.SpanTexts', WHERE WHAT IT READS IS OF BULK AT MOST 1048576: true; the input reads as it did. -/
def spanTextsUptoRow : OpenClaim := { program := "ytgfmahfdkiblbaadoor", sum := "dee97bbb784cf50ed5f38fad6af943654a123275bd2d8960d07ee98f02c5f17c", func := "gavotte/gavottelaw01.SpanTexts", spec := "spanTexts", inPlace := ["internal/bytealg.IndexByteString", "internal/bytealg.IndexString"], named := ["internal/strconv.uint64pow10", "math/bits.deBruijn32tab", "math/bits.deBruijn64tab", "internal/bytealg.MaxLen", "strconv.ErrSyntax", "strconv.ErrRange"], apart := false, laid := [("math/bits.deBruijn32tab", laid_math_bits_deBruijn32tab), ("math/bits.deBruijn64tab", laid_math_bits_deBruijn64tab), ("internal/strconv.uint64pow10", laid_internal_strconv_uint64pow10), ("strconv.ErrRange", laid_strconv_ErrRange), ("strconv.ErrSyntax", laid_strconv_ErrSyntax)], narrowed := true }
def SpanTextsUptoSaid : Prop := spanTextsUptoRow.holds Tryd.pinned (OpenSpec.upto spanTextsSpec)

/-- 'gavottelaw01.SpanReads', WHERE WHAT IT READS IS OF BULK AT MOST 1048576: true; the input reads as it did. -/
def spanReadsUptoRow : OpenClaim := { program := "ytgfmahfdkiblbaadoor", sum := "dee97bbb784cf50ed5f38fad6af943654a123275bd2d8960d07ee98f02c5f17c", func := "gavotte/gavottelaw01.SpanReads", spec := "spanReads", inPlace := ["internal/bytealg.IndexByteString", "internal/bytealg.IndexString"], named := ["internal/strconv.uint64pow10", "math/bits.deBruijn32tab", "math/bits.deBruijn64tab", "internal/bytealg.MaxLen", "strconv.ErrSyntax", "strconv.ErrRange"], apart := false, laid := [("math/bits.deBruijn32tab", laid_math_bits_deBruijn32tab), ("math/bits.deBruijn64tab", laid_math_bits_deBruijn64tab), ("internal/strconv.uint64pow10", laid_internal_strconv_uint64pow10), ("strconv.ErrRange", laid_strconv_ErrRange), ("strconv.ErrSyntax", laid_strconv_ErrSyntax)], narrowed := true }
def SpanReadsUptoSaid : Prop := spanReadsUptoRow.holds Tryd.pinned (OpenSpec.upto spanReadsSpec)

end Rows
end Go.Proofs.YtgfmahfdkiblbaaDoor
