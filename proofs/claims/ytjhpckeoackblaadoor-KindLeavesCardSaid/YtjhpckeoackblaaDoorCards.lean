/-
  DERIVED. GIVEN WITH THE SEED: THE CARDS: each row of YtjhpckeoackblaaDoorRows.lean that lists a variable, with what it lists TIED to the program's text (the seventh form; the later family's looks); each row that meets fmt, with fmt's text TOLD by the authors' own Lean function (tested against real Go, not proved from fmt's source: count such statements apart). THE CARD IS WHAT COUNTS. Prove the row's statement (the work); the ties are given (YtjhpckeoackblaaDoorTie.lean); close each card by the builder's one call (the guide's Derived/Test/ToyasCard.lean, 'card_holds'). Laid BY PROGRAM, IN A SANDBOX (cutbox-door.mjs). By AI agents, Wed Nov 11 2026. No macro, syntax, notation, axiom, sorry.
-/
import Derived.Test.YtjhpckeoackblaaDoorRows
import GoSem.ClaimSeven
namespace Go.Proofs.YtjhpckeoackblaaDoor
namespace Rows

/-- THE TIED CARD OF 'gavottelaw12.KindMore'. -/
def kindMoreCard : Claim7 := { stood := { row := kindMoreRow, standIns := [], harness := (true, "76bd96c490b4bb4026a533bfab9887332ccd05f7bbca0b4cb600e4e8bc3d6325"), looks := false }, kinds := [], alts := [], laidByText := true, laidKinds := [.data], laidTests := true, laidLooks := .later }
def KindMoreCardSaid : Prop := Claim7.holds Tryd.pinned (.plain (OpenSpec.ofChange kindMoreSpec)) kindMoreCard

/-- THE TIED CARD OF 'gavottelaw12.KindTypes'. -/
def kindTypesCard : Claim7 := { stood := { row := kindTypesRow, standIns := [], harness := (true, "76bd96c490b4bb4026a533bfab9887332ccd05f7bbca0b4cb600e4e8bc3d6325"), looks := false }, kinds := [], alts := [], laidByText := true, laidKinds := [.data], laidTests := true, laidLooks := .later }
def KindTypesCardSaid : Prop := Claim7.holds Tryd.pinned (.plain (OpenSpec.ofChange kindTypesSpec)) kindTypesCard

/-- THE TIED CARD OF 'gavottelaw12.KindLeaves'. -/
def kindLeavesCard : Claim7 := { stood := { row := kindLeavesRow, standIns := [], harness := (true, "76bd96c490b4bb4026a533bfab9887332ccd05f7bbca0b4cb600e4e8bc3d6325"), looks := false }, kinds := [], alts := [], laidByText := true, laidKinds := [.data], laidTests := true, laidLooks := .later }
def KindLeavesCardSaid : Prop := Claim7.holds Tryd.pinned (.plain (OpenSpec.ofChange kindLeavesSpec)) kindLeavesCard

/-- THE TIED CARD OF 'gavottelaw12.KindAll'. -/
def kindAllCard : Claim7 := { stood := { row := kindAllRow, standIns := [], harness := (true, "76bd96c490b4bb4026a533bfab9887332ccd05f7bbca0b4cb600e4e8bc3d6325"), looks := false }, kinds := [], alts := [], laidByText := true, laidKinds := [.data], laidTests := true, laidLooks := .later }
def KindAllCardSaid : Prop := Claim7.holds Tryd.pinned (.plain (OpenSpec.ofChange kindAllSpec)) kindAllCard

/-- THE SECOND FORM's CARD OF 'gavottelaw12.KindMore'. -/
def kindMoreUptoCard : Claim7 := { stood := { row := kindMoreUptoRow, standIns := [], harness := (true, "76bd96c490b4bb4026a533bfab9887332ccd05f7bbca0b4cb600e4e8bc3d6325"), looks := false }, kinds := [], alts := [], laidByText := true, laidKinds := [.data], laidTests := true, laidLooks := .later }
def KindMoreUptoCardSaid : Prop := Claim7.holds Tryd.pinned (.plain (OpenSpec.upto kindMoreSpec)) kindMoreUptoCard

/-- THE SECOND FORM's CARD OF 'gavottelaw12.KindTypes'. -/
def kindTypesUptoCard : Claim7 := { stood := { row := kindTypesUptoRow, standIns := [], harness := (true, "76bd96c490b4bb4026a533bfab9887332ccd05f7bbca0b4cb600e4e8bc3d6325"), looks := false }, kinds := [], alts := [], laidByText := true, laidKinds := [.data], laidTests := true, laidLooks := .later }
def KindTypesUptoCardSaid : Prop := Claim7.holds Tryd.pinned (.plain (OpenSpec.upto kindTypesSpec)) kindTypesUptoCard

/-- THE SECOND FORM's CARD OF 'gavottelaw12.KindLeaves'. -/
def kindLeavesUptoCard : Claim7 := { stood := { row := kindLeavesUptoRow, standIns := [], harness := (true, "76bd96c490b4bb4026a533bfab9887332ccd05f7bbca0b4cb600e4e8bc3d6325"), looks := false }, kinds := [], alts := [], laidByText := true, laidKinds := [.data], laidTests := true, laidLooks := .later }
def KindLeavesUptoCardSaid : Prop := Claim7.holds Tryd.pinned (.plain (OpenSpec.upto kindLeavesSpec)) kindLeavesUptoCard

/-- THE SECOND FORM's CARD OF 'gavottelaw12.KindAll'. -/
def kindAllUptoCard : Claim7 := { stood := { row := kindAllUptoRow, standIns := [], harness := (true, "76bd96c490b4bb4026a533bfab9887332ccd05f7bbca0b4cb600e4e8bc3d6325"), looks := false }, kinds := [], alts := [], laidByText := true, laidKinds := [.data], laidTests := true, laidLooks := .later }
def KindAllUptoCardSaid : Prop := Claim7.holds Tryd.pinned (.plain (OpenSpec.upto kindAllSpec)) kindAllUptoCard
end Rows
end Go.Proofs.YtjhpckeoackblaaDoor
