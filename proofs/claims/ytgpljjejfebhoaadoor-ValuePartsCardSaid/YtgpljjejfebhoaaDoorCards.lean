/-
  DERIVED. GIVEN WITH THE SEED: THE CARDS: each row of YtgpljjejfebhoaaDoorRows.lean that lists a variable, with what it lists TIED to the program's text (the seventh form; the later family's looks); each row that meets fmt, with fmt's text TOLD by the authors' own Lean function (tested against real Go, not proved from fmt's source: count such statements apart). THE CARD IS WHAT COUNTS. Prove the row's statement (the work); the ties are given (YtgpljjejfebhoaaDoorTie.lean); close each card by the builder's one call (the guide's Derived/Test/ToyasCard.lean, 'card_holds'). Laid BY PROGRAM, IN A SANDBOX (cutbox-door.mjs). By AI agents, Wed Nov 11 2026. No macro, syntax, notation, axiom, sorry.
-/
import Derived.Test.YtgpljjejfebhoaaDoorRows
import GoSem.ClaimSeven
namespace Go.Proofs.YtgpljjejfebhoaaDoor
namespace Rows

/-- THE TIED CARD OF 'gavottelaw02.ValueNames'. -/
def valueNamesCard : Claim7 := { stood := { row := valueNamesRow, standIns := [], harness := (true, "c261f324c0aea6cedfcceec41e8679341dc76fa21036c178f3da8a59c51290f8"), looks := false }, kinds := [], alts := [], laidByText := true, laidKinds := [.data, .data, .data], laidTests := true, laidLooks := .later }
def ValueNamesCardSaid : Prop := Claim7.holds Tryd.pinned (.plain (OpenSpec.ofChange valueNamesSpec)) valueNamesCard

/-- THE TIED CARD OF 'gavottelaw02.ValueTypes'. -/
def valueTypesCard : Claim7 := { stood := { row := valueTypesRow, standIns := [], harness := (true, "c261f324c0aea6cedfcceec41e8679341dc76fa21036c178f3da8a59c51290f8"), looks := false }, kinds := [], alts := [], laidByText := true, laidKinds := [.data, .data, .data], laidTests := true, laidLooks := .later }
def ValueTypesCardSaid : Prop := Claim7.holds Tryd.pinned (.plain (OpenSpec.ofChange valueTypesSpec)) valueTypesCard

/-- THE TIED CARD OF 'gavottelaw02.ValueRights'. -/
def valueRightsCard : Claim7 := { stood := { row := valueRightsRow, standIns := [], harness := (true, "c261f324c0aea6cedfcceec41e8679341dc76fa21036c178f3da8a59c51290f8"), looks := false }, kinds := [], alts := [], laidByText := true, laidKinds := [.data, .data, .data], laidTests := true, laidLooks := .later }
def ValueRightsCardSaid : Prop := Claim7.holds Tryd.pinned (.plain (OpenSpec.ofChange valueRightsSpec)) valueRightsCard

/-- THE TIED CARD OF 'gavottelaw02.ValueParts'. -/
def valuePartsCard : Claim7 := { stood := { row := valuePartsRow, standIns := [], harness := (true, "c261f324c0aea6cedfcceec41e8679341dc76fa21036c178f3da8a59c51290f8"), looks := false }, kinds := [], alts := [], laidByText := true, laidKinds := [.data, .data, .data], laidTests := true, laidLooks := .later }
def ValuePartsCardSaid : Prop := Claim7.holds Tryd.pinned (.plain (OpenSpec.ofChange valuePartsSpec)) valuePartsCard

/-- THE TIED CARD OF 'gavottelaw02.ValueOrders'. -/
def valueOrdersCard : Claim7 := { stood := { row := valueOrdersRow, standIns := [], harness := (true, "c261f324c0aea6cedfcceec41e8679341dc76fa21036c178f3da8a59c51290f8"), looks := false }, kinds := [], alts := [], laidByText := true, laidKinds := [.data, .data, .data], laidTests := true, laidLooks := .later }
def ValueOrdersCardSaid : Prop := Claim7.holds Tryd.pinned (.plain (OpenSpec.ofChange valueOrdersSpec)) valueOrdersCard

/-- THE TIED CARD OF 'gavottelaw02.ValueCmps'. -/
def valueCmpsCard : Claim7 := { stood := { row := valueCmpsRow, standIns := [], harness := (true, "c261f324c0aea6cedfcceec41e8679341dc76fa21036c178f3da8a59c51290f8"), looks := false }, kinds := [], alts := [], laidByText := true, laidKinds := [.data, .data, .data], laidTests := true, laidLooks := .later }
def ValueCmpsCardSaid : Prop := Claim7.holds Tryd.pinned (.plain (OpenSpec.ofChange valueCmpsSpec)) valueCmpsCard

/-- THE SECOND FORM's CARD OF 'gavottelaw02.ValueNames'. -/
def valueNamesUptoCard : Claim7 := { stood := { row := valueNamesUptoRow, standIns := [], harness := (true, "c261f324c0aea6cedfcceec41e8679341dc76fa21036c178f3da8a59c51290f8"), looks := false }, kinds := [], alts := [], laidByText := true, laidKinds := [.data, .data, .data], laidTests := true, laidLooks := .later }
def ValueNamesUptoCardSaid : Prop := Claim7.holds Tryd.pinned (.plain (OpenSpec.upto valueNamesSpec)) valueNamesUptoCard

/-- THE SECOND FORM's CARD OF 'gavottelaw02.ValueTypes'. -/
def valueTypesUptoCard : Claim7 := { stood := { row := valueTypesUptoRow, standIns := [], harness := (true, "c261f324c0aea6cedfcceec41e8679341dc76fa21036c178f3da8a59c51290f8"), looks := false }, kinds := [], alts := [], laidByText := true, laidKinds := [.data, .data, .data], laidTests := true, laidLooks := .later }
def ValueTypesUptoCardSaid : Prop := Claim7.holds Tryd.pinned (.plain (OpenSpec.upto valueTypesSpec)) valueTypesUptoCard

/-- THE SECOND FORM's CARD OF 'gavottelaw02.ValueRights'. -/
def valueRightsUptoCard : Claim7 := { stood := { row := valueRightsUptoRow, standIns := [], harness := (true, "c261f324c0aea6cedfcceec41e8679341dc76fa21036c178f3da8a59c51290f8"), looks := false }, kinds := [], alts := [], laidByText := true, laidKinds := [.data, .data, .data], laidTests := true, laidLooks := .later }
def ValueRightsUptoCardSaid : Prop := Claim7.holds Tryd.pinned (.plain (OpenSpec.upto valueRightsSpec)) valueRightsUptoCard

/-- THE SECOND FORM's CARD OF 'gavottelaw02.ValueParts'. -/
def valuePartsUptoCard : Claim7 := { stood := { row := valuePartsUptoRow, standIns := [], harness := (true, "c261f324c0aea6cedfcceec41e8679341dc76fa21036c178f3da8a59c51290f8"), looks := false }, kinds := [], alts := [], laidByText := true, laidKinds := [.data, .data, .data], laidTests := true, laidLooks := .later }
def ValuePartsUptoCardSaid : Prop := Claim7.holds Tryd.pinned (.plain (OpenSpec.upto valuePartsSpec)) valuePartsUptoCard

/-- THE SECOND FORM's CARD OF 'gavottelaw02.ValueOrders'. -/
def valueOrdersUptoCard : Claim7 := { stood := { row := valueOrdersUptoRow, standIns := [], harness := (true, "c261f324c0aea6cedfcceec41e8679341dc76fa21036c178f3da8a59c51290f8"), looks := false }, kinds := [], alts := [], laidByText := true, laidKinds := [.data, .data, .data], laidTests := true, laidLooks := .later }
def ValueOrdersUptoCardSaid : Prop := Claim7.holds Tryd.pinned (.plain (OpenSpec.upto valueOrdersSpec)) valueOrdersUptoCard

/-- THE SECOND FORM's CARD OF 'gavottelaw02.ValueCmps'. -/
def valueCmpsUptoCard : Claim7 := { stood := { row := valueCmpsUptoRow, standIns := [], harness := (true, "c261f324c0aea6cedfcceec41e8679341dc76fa21036c178f3da8a59c51290f8"), looks := false }, kinds := [], alts := [], laidByText := true, laidKinds := [.data, .data, .data], laidTests := true, laidLooks := .later }
def ValueCmpsUptoCardSaid : Prop := Claim7.holds Tryd.pinned (.plain (OpenSpec.upto valueCmpsSpec)) valueCmpsUptoCard
end Rows
end Go.Proofs.YtgpljjejfebhoaaDoor
