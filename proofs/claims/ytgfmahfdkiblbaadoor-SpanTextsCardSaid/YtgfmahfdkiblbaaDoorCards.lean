/-
  DERIVED. GIVEN WITH THE SEED: THE CARDS: each row of YtgfmahfdkiblbaaDoorRows.lean that lists a variable, with what it lists TIED to the program's text (the seventh form; the later family's looks); each row that meets fmt, with fmt's text TOLD by the authors' own Lean function (tested against real Go, not proved from fmt's source: count such statements apart). THE CARD IS WHAT COUNTS. Prove the row's statement (the work); the ties are given (YtgfmahfdkiblbaaDoorTie.lean); close each card by the builder's one call (the guide's Derived/Test/ToyasCard.lean, 'card_holds'). Laid BY PROGRAM, IN A SANDBOX (cutbox-door.mjs). By AI agents, Wed Nov 11 2026. No macro, syntax, notation, axiom, sorry.
-/
import Derived.Test.YtgfmahfdkiblbaaDoorRows
import GoSem.ClaimSeven
namespace Go.Proofs.YtgfmahfdkiblbaaDoor
namespace Rows

/-- THE TIED CARD OF 'gavottelaw01.SpanAsks'. -/
def spanAsksCard : Claim7 := { stood := { row := spanAsksRow, standIns := [], harness := (true, "e0082dbfd43f0eca2bb931920309f313d6c6fc2a7829bc25d9132c91c9c20de9"), looks := true }, kinds := [], alts := [], laidByText := true, laidKinds := [.data, .data, .data], laidTests := true, laidLooks := .later }
def SpanAsksCardSaid : Prop := Claim7.holds Tryd.pinned (.plain (OpenSpec.ofChange spanAsksSpec)) spanAsksCard

/-- THE TIED CARD OF 'gavottelaw01.SpanMakes'. -/
def spanMakesCard : Claim7 := { stood := { row := spanMakesRow, standIns := [], harness := (true, "e0082dbfd43f0eca2bb931920309f313d6c6fc2a7829bc25d9132c91c9c20de9"), looks := true }, kinds := [], alts := [], laidByText := true, laidKinds := [.data, .data, .data], laidTests := true, laidLooks := .later }
def SpanMakesCardSaid : Prop := Claim7.holds Tryd.pinned (.plain (OpenSpec.ofChange spanMakesSpec)) spanMakesCard

/-- THE TIED CARD OF 'gavottelaw01.SpanMins'. -/
def spanMinsCard : Claim7 := { stood := { row := spanMinsRow, standIns := [], harness := (true, "e0082dbfd43f0eca2bb931920309f313d6c6fc2a7829bc25d9132c91c9c20de9"), looks := true }, kinds := [], alts := [], laidByText := true, laidKinds := [.data, .data, .data], laidTests := true, laidLooks := .later }
def SpanMinsCardSaid : Prop := Claim7.holds Tryd.pinned (.plain (OpenSpec.ofChange spanMinsSpec)) spanMinsCard

/-- THE TIED CARD OF 'gavottelaw01.SpanLeast'. -/
def spanLeastCard : Claim7 := { stood := { row := spanLeastRow, standIns := [], harness := (true, "e0082dbfd43f0eca2bb931920309f313d6c6fc2a7829bc25d9132c91c9c20de9"), looks := true }, kinds := [], alts := [], laidByText := true, laidKinds := [.data, .data, .data], laidTests := true, laidLooks := .later }
def SpanLeastCardSaid : Prop := Claim7.holds Tryd.pinned (.plain (OpenSpec.ofChange spanLeastSpec)) spanLeastCard

/-- THE TIED CARD OF 'gavottelaw01.SpanOrders'. -/
def spanOrdersCard : Claim7 := { stood := { row := spanOrdersRow, standIns := [], harness := (true, "e0082dbfd43f0eca2bb931920309f313d6c6fc2a7829bc25d9132c91c9c20de9"), looks := true }, kinds := [], alts := [], laidByText := true, laidKinds := [.data, .data, .data], laidTests := true, laidLooks := .later }
def SpanOrdersCardSaid : Prop := Claim7.holds Tryd.pinned (.plain (OpenSpec.ofChange spanOrdersSpec)) spanOrdersCard

/-- THE TIED CARD OF 'gavottelaw01.SpanThirds'. -/
def spanThirdsCard : Claim7 := { stood := { row := spanThirdsRow, standIns := [], harness := (true, "e0082dbfd43f0eca2bb931920309f313d6c6fc2a7829bc25d9132c91c9c20de9"), looks := true }, kinds := [], alts := [], laidByText := true, laidKinds := [.data, .data, .data], laidTests := true, laidLooks := .later }
def SpanThirdsCardSaid : Prop := Claim7.holds Tryd.pinned (.plain (OpenSpec.ofChange spanThirdsSpec)) spanThirdsCard

/-- THE TIED CARD OF 'gavottelaw01.SpanBack'. -/
def spanBackCard : Claim7 := { stood := { row := spanBackRow, standIns := [], harness := (true, "e0082dbfd43f0eca2bb931920309f313d6c6fc2a7829bc25d9132c91c9c20de9"), looks := true }, kinds := [], alts := [], laidByText := true, laidKinds := [.data, .data, .data], laidTests := true, laidLooks := .later }
def SpanBackCardSaid : Prop := Claim7.holds Tryd.pinned (.plain (OpenSpec.ofChange spanBackSpec)) spanBackCard

/-- THE TIED CARD OF 'gavottelaw01.SpanSums'. -/
def spanSumsCard : Claim7 := { stood := { row := spanSumsRow, standIns := [], harness := (true, "e0082dbfd43f0eca2bb931920309f313d6c6fc2a7829bc25d9132c91c9c20de9"), looks := true }, kinds := [], alts := [], laidByText := true, laidKinds := [.data, .data, .data], laidTests := true, laidLooks := .later }
def SpanSumsCardSaid : Prop := Claim7.holds Tryd.pinned (.plain (OpenSpec.ofChange spanSumsSpec)) spanSumsCard

/-- THE TIED CARD OF 'gavottelaw01.SpanTexts'. -/
def spanTextsCard : Claim7 := { stood := { row := spanTextsRow, standIns := [], harness := (true, "e0082dbfd43f0eca2bb931920309f313d6c6fc2a7829bc25d9132c91c9c20de9"), looks := true }, kinds := [], alts := [], laidByText := true, laidKinds := [.data, .data, .data, .sentinel, .sentinel], laidTests := true, laidLooks := .later }
def SpanTextsCardSaid : Prop := Claim7.holds Tryd.pinned (.plain (OpenSpec.ofChange spanTextsSpec)) spanTextsCard

/-- THE TIED CARD OF 'gavottelaw01.SpanReads'. -/
def spanReadsCard : Claim7 := { stood := { row := spanReadsRow, standIns := [], harness := (true, "e0082dbfd43f0eca2bb931920309f313d6c6fc2a7829bc25d9132c91c9c20de9"), looks := true }, kinds := [], alts := [], laidByText := true, laidKinds := [.data, .data, .data, .sentinel, .sentinel], laidTests := true, laidLooks := .later }
def SpanReadsCardSaid : Prop := Claim7.holds Tryd.pinned (.plain (OpenSpec.ofChange spanReadsSpec)) spanReadsCard

/-- THE SECOND FORM's CARD OF 'gavottelaw01.SpanAsks'. -/
def spanAsksUptoCard : Claim7 := { stood := { row := spanAsksUptoRow, standIns := [], harness := (true, "e0082dbfd43f0eca2bb931920309f313d6c6fc2a7829bc25d9132c91c9c20de9"), looks := true }, kinds := [], alts := [], laidByText := true, laidKinds := [.data, .data, .data], laidTests := true, laidLooks := .later }
def SpanAsksUptoCardSaid : Prop := Claim7.holds Tryd.pinned (.plain (OpenSpec.upto spanAsksSpec)) spanAsksUptoCard

/-- THE SECOND FORM's CARD OF 'gavottelaw01.SpanMakes'. -/
def spanMakesUptoCard : Claim7 := { stood := { row := spanMakesUptoRow, standIns := [], harness := (true, "e0082dbfd43f0eca2bb931920309f313d6c6fc2a7829bc25d9132c91c9c20de9"), looks := true }, kinds := [], alts := [], laidByText := true, laidKinds := [.data, .data, .data], laidTests := true, laidLooks := .later }
def SpanMakesUptoCardSaid : Prop := Claim7.holds Tryd.pinned (.plain (OpenSpec.upto spanMakesSpec)) spanMakesUptoCard

/-- THE SECOND FORM's CARD OF 'gavottelaw01.SpanMins'. -/
def spanMinsUptoCard : Claim7 := { stood := { row := spanMinsUptoRow, standIns := [], harness := (true, "e0082dbfd43f0eca2bb931920309f313d6c6fc2a7829bc25d9132c91c9c20de9"), looks := true }, kinds := [], alts := [], laidByText := true, laidKinds := [.data, .data, .data], laidTests := true, laidLooks := .later }
def SpanMinsUptoCardSaid : Prop := Claim7.holds Tryd.pinned (.plain (OpenSpec.upto spanMinsSpec)) spanMinsUptoCard

/-- THE SECOND FORM's CARD OF 'gavottelaw01.SpanLeast'. -/
def spanLeastUptoCard : Claim7 := { stood := { row := spanLeastUptoRow, standIns := [], harness := (true, "e0082dbfd43f0eca2bb931920309f313d6c6fc2a7829bc25d9132c91c9c20de9"), looks := true }, kinds := [], alts := [], laidByText := true, laidKinds := [.data, .data, .data], laidTests := true, laidLooks := .later }
def SpanLeastUptoCardSaid : Prop := Claim7.holds Tryd.pinned (.plain (OpenSpec.upto spanLeastSpec)) spanLeastUptoCard

/-- THE SECOND FORM's CARD OF 'gavottelaw01.SpanOrders'. -/
def spanOrdersUptoCard : Claim7 := { stood := { row := spanOrdersUptoRow, standIns := [], harness := (true, "e0082dbfd43f0eca2bb931920309f313d6c6fc2a7829bc25d9132c91c9c20de9"), looks := true }, kinds := [], alts := [], laidByText := true, laidKinds := [.data, .data, .data], laidTests := true, laidLooks := .later }
def SpanOrdersUptoCardSaid : Prop := Claim7.holds Tryd.pinned (.plain (OpenSpec.upto spanOrdersSpec)) spanOrdersUptoCard

/-- THE SECOND FORM's CARD OF 'gavottelaw01.SpanThirds'. -/
def spanThirdsUptoCard : Claim7 := { stood := { row := spanThirdsUptoRow, standIns := [], harness := (true, "e0082dbfd43f0eca2bb931920309f313d6c6fc2a7829bc25d9132c91c9c20de9"), looks := true }, kinds := [], alts := [], laidByText := true, laidKinds := [.data, .data, .data], laidTests := true, laidLooks := .later }
def SpanThirdsUptoCardSaid : Prop := Claim7.holds Tryd.pinned (.plain (OpenSpec.upto spanThirdsSpec)) spanThirdsUptoCard

/-- THE SECOND FORM's CARD OF 'gavottelaw01.SpanBack'. -/
def spanBackUptoCard : Claim7 := { stood := { row := spanBackUptoRow, standIns := [], harness := (true, "e0082dbfd43f0eca2bb931920309f313d6c6fc2a7829bc25d9132c91c9c20de9"), looks := true }, kinds := [], alts := [], laidByText := true, laidKinds := [.data, .data, .data], laidTests := true, laidLooks := .later }
def SpanBackUptoCardSaid : Prop := Claim7.holds Tryd.pinned (.plain (OpenSpec.upto spanBackSpec)) spanBackUptoCard

/-- THE SECOND FORM's CARD OF 'gavottelaw01.SpanSums'. -/
def spanSumsUptoCard : Claim7 := { stood := { row := spanSumsUptoRow, standIns := [], harness := (true, "e0082dbfd43f0eca2bb931920309f313d6c6fc2a7829bc25d9132c91c9c20de9"), looks := true }, kinds := [], alts := [], laidByText := true, laidKinds := [.data, .data, .data], laidTests := true, laidLooks := .later }
def SpanSumsUptoCardSaid : Prop := Claim7.holds Tryd.pinned (.plain (OpenSpec.upto spanSumsSpec)) spanSumsUptoCard

/-- THE SECOND FORM's CARD OF 'gavottelaw01.SpanTexts'. -/
def spanTextsUptoCard : Claim7 := { stood := { row := spanTextsUptoRow, standIns := [], harness := (true, "e0082dbfd43f0eca2bb931920309f313d6c6fc2a7829bc25d9132c91c9c20de9"), looks := true }, kinds := [], alts := [], laidByText := true, laidKinds := [.data, .data, .data, .sentinel, .sentinel], laidTests := true, laidLooks := .later }
def SpanTextsUptoCardSaid : Prop := Claim7.holds Tryd.pinned (.plain (OpenSpec.upto spanTextsSpec)) spanTextsUptoCard

/-- THE SECOND FORM's CARD OF 'gavottelaw01.SpanReads'. -/
def spanReadsUptoCard : Claim7 := { stood := { row := spanReadsUptoRow, standIns := [], harness := (true, "e0082dbfd43f0eca2bb931920309f313d6c6fc2a7829bc25d9132c91c9c20de9"), looks := true }, kinds := [], alts := [], laidByText := true, laidKinds := [.data, .data, .data, .sentinel, .sentinel], laidTests := true, laidLooks := .later }
def SpanReadsUptoCardSaid : Prop := Claim7.holds Tryd.pinned (.plain (OpenSpec.upto spanReadsSpec)) spanReadsUptoCard
end Rows
end Go.Proofs.YtgfmahfdkiblbaaDoor
