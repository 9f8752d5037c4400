/-
  DERIVED. GIVEN WITH THE SEED: THE CARDS: each row of YtoefekgfklillaaDoorRows.lean that lists a variable, with what it lists TIED to the program's text (the seventh form; the later family's looks); each row that meets fmt, with fmt's text TOLD by the authors' own Lean function (tested against real Go, not proved from fmt's source: count such statements apart). THE CARD IS WHAT COUNTS. Prove the row's statement (the work); the ties are given (YtoefekgfklillaaDoorTie.lean); close each card by the builder's one call (the guide's Derived/Test/ToyasCard.lean, 'card_holds'). Laid BY PROGRAM, IN A SANDBOX (cutbox-door.mjs). By AI agents, Wed Nov 11 2026. No macro, syntax, notation, axiom, sorry.
-/
import Derived.Test.YtoefekgfklillaaDoorRows
import GoSem.ClaimSeven
namespace Go.Proofs.YtoefekgfklillaaDoor
namespace Rows

/-- THE TIED CARD OF 'gavottelaw06.StampOrders'. -/
def stampOrdersCard : Claim7 := { stood := { row := stampOrdersRow, standIns := [], harness := (true, "fdb59af6d90bbdb931922d5476840fc94c8290c797c4065ee35e953d8f9b81e8"), looks := false }, kinds := [], alts := [], laidByText := true, laidKinds := [.data, .data, .data], laidTests := true, laidLooks := .later }
def StampOrdersCardSaid : Prop := Claim7.holds Tryd.pinned (.plain (OpenSpec.ofChange stampOrdersSpec)) stampOrdersCard

/-- THE TIED CARD OF 'gavottelaw06.StampAsks'. -/
def stampAsksCard : Claim7 := { stood := { row := stampAsksRow, standIns := [], harness := (true, "fdb59af6d90bbdb931922d5476840fc94c8290c797c4065ee35e953d8f9b81e8"), looks := false }, kinds := [], alts := [], laidByText := true, laidKinds := [.data, .data, .data], laidTests := true, laidLooks := .later }
def StampAsksCardSaid : Prop := Claim7.holds Tryd.pinned (.plain (OpenSpec.ofChange stampAsksSpec)) stampAsksCard

/-- THE TIED CARD OF 'gavottelaw06.StampAfter'. -/
def stampAfterCard : Claim7 := { stood := { row := stampAfterRow, standIns := [], harness := (true, "fdb59af6d90bbdb931922d5476840fc94c8290c797c4065ee35e953d8f9b81e8"), looks := false }, kinds := [], alts := [], laidByText := true, laidKinds := [.data, .data, .data], laidTests := true, laidLooks := .later }
def StampAfterCardSaid : Prop := Claim7.holds Tryd.pinned (.plain (OpenSpec.ofChange stampAfterSpec)) stampAfterCard

/-- THE TIED CARD OF 'gavottelaw06.StampTexts'. -/
def stampTextsCard : Claim7 := { stood := { row := stampTextsRow, standIns := [], harness := (true, "fdb59af6d90bbdb931922d5476840fc94c8290c797c4065ee35e953d8f9b81e8"), looks := false }, kinds := [], alts := [], laidByText := true, laidKinds := [.data, .data, .data], laidTests := true, laidLooks := .later }
def StampTextsCardSaid : Prop := Claim7.holds Tryd.pinned (.plain (OpenSpec.ofChange stampTextsSpec)) stampTextsCard

/-- THE TIED CARD OF 'gavottelaw06.StampLeast'. -/
def stampLeastCard : Claim7 := { stood := { row := stampLeastRow, standIns := [], harness := (true, "fdb59af6d90bbdb931922d5476840fc94c8290c797c4065ee35e953d8f9b81e8"), looks := false }, kinds := [], alts := [], laidByText := true, laidKinds := [.data, .data, .data], laidTests := true, laidLooks := .later }
def StampLeastCardSaid : Prop := Claim7.holds Tryd.pinned (.plain (OpenSpec.ofChange stampLeastSpec)) stampLeastCard

/-- THE SECOND FORM's CARD OF 'gavottelaw06.StampOrders'. -/
def stampOrdersUptoCard : Claim7 := { stood := { row := stampOrdersUptoRow, standIns := [], harness := (true, "fdb59af6d90bbdb931922d5476840fc94c8290c797c4065ee35e953d8f9b81e8"), looks := false }, kinds := [], alts := [], laidByText := true, laidKinds := [.data, .data, .data], laidTests := true, laidLooks := .later }
def StampOrdersUptoCardSaid : Prop := Claim7.holds Tryd.pinned (.plain (OpenSpec.upto stampOrdersSpec)) stampOrdersUptoCard

/-- THE SECOND FORM's CARD OF 'gavottelaw06.StampAsks'. -/
def stampAsksUptoCard : Claim7 := { stood := { row := stampAsksUptoRow, standIns := [], harness := (true, "fdb59af6d90bbdb931922d5476840fc94c8290c797c4065ee35e953d8f9b81e8"), looks := false }, kinds := [], alts := [], laidByText := true, laidKinds := [.data, .data, .data], laidTests := true, laidLooks := .later }
def StampAsksUptoCardSaid : Prop := Claim7.holds Tryd.pinned (.plain (OpenSpec.upto stampAsksSpec)) stampAsksUptoCard

/-- THE SECOND FORM's CARD OF 'gavottelaw06.StampAfter'. -/
def stampAfterUptoCard : Claim7 := { stood := { row := stampAfterUptoRow, standIns := [], harness := (true, "fdb59af6d90bbdb931922d5476840fc94c8290c797c4065ee35e953d8f9b81e8"), looks := false }, kinds := [], alts := [], laidByText := true, laidKinds := [.data, .data, .data], laidTests := true, laidLooks := .later }
def StampAfterUptoCardSaid : Prop := Claim7.holds Tryd.pinned (.plain (OpenSpec.upto stampAfterSpec)) stampAfterUptoCard

/-- THE SECOND FORM's CARD OF 'gavottelaw06.StampTexts'. -/
def stampTextsUptoCard : Claim7 := { stood := { row := stampTextsUptoRow, standIns := [], harness := (true, "fdb59af6d90bbdb931922d5476840fc94c8290c797c4065ee35e953d8f9b81e8"), looks := false }, kinds := [], alts := [], laidByText := true, laidKinds := [.data, .data, .data], laidTests := true, laidLooks := .later }
def StampTextsUptoCardSaid : Prop := Claim7.holds Tryd.pinned (.plain (OpenSpec.upto stampTextsSpec)) stampTextsUptoCard

/-- THE SECOND FORM's CARD OF 'gavottelaw06.StampLeast'. -/
def stampLeastUptoCard : Claim7 := { stood := { row := stampLeastUptoRow, standIns := [], harness := (true, "fdb59af6d90bbdb931922d5476840fc94c8290c797c4065ee35e953d8f9b81e8"), looks := false }, kinds := [], alts := [], laidByText := true, laidKinds := [.data, .data, .data], laidTests := true, laidLooks := .later }
def StampLeastUptoCardSaid : Prop := Claim7.holds Tryd.pinned (.plain (OpenSpec.upto stampLeastSpec)) stampLeastUptoCard
end Rows
end Go.Proofs.YtoefekgfklillaaDoor
