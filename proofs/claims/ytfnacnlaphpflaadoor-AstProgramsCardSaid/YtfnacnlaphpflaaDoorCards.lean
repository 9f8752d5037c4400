/-
  DERIVED. GIVEN WITH THE SEED: THE CARDS: each row of YtfnacnlaphpflaaDoorRows.lean that lists a variable, with what it lists TIED to the program's text (the seventh form; the later family's looks); each row that meets fmt, with fmt's text TOLD by the authors' own Lean function (tested against real Go, not proved from fmt's source: count such statements apart). THE CARD IS WHAT COUNTS. Prove the row's statement (the work); the ties are given (YtfnacnlaphpflaaDoorTie.lean); close each card by the builder's one call (the guide's Derived/Test/ToyasCard.lean, 'card_holds'). Laid BY PROGRAM, IN A SANDBOX (cutbox-door.mjs). By AI agents, Wed Nov 11 2026. No macro, syntax, notation, axiom, sorry.
-/
import Derived.Test.YtfnacnlaphpflaaDoorRows
import GoSem.ClaimSeven
namespace Go.Proofs.YtfnacnlaphpflaaDoor
namespace Rows

/-- THE TIED CARD OF 'gavottelaw09.AstWalks'. -/
def astWalksCard : Claim7 := { stood := { row := astWalksRow, standIns := [], harness := (true, "9c8efafc9d58b19ffc70a9d09af3fa2534371a64b891f9210ffb9bed5253d9c4"), looks := false }, kinds := [], alts := [], laidByText := true, laidKinds := [.data], laidTests := true, laidLooks := .later }
def AstWalksCardSaid : Prop := Claim7.holds Tryd.pinned (.plain (OpenSpec.ofChange astWalksSpec)) astWalksCard

/-- THE TIED CARD OF 'gavottelaw09.AstNames'. -/
def astNamesCard : Claim7 := { stood := { row := astNamesRow, standIns := [], harness := (true, "9c8efafc9d58b19ffc70a9d09af3fa2534371a64b891f9210ffb9bed5253d9c4"), looks := false }, kinds := [], alts := [], laidByText := true, laidKinds := [.data], laidTests := true, laidLooks := .later }
def AstNamesCardSaid : Prop := Claim7.holds Tryd.pinned (.plain (OpenSpec.ofChange astNamesSpec)) astNamesCard

/-- THE TIED CARD OF 'gavottelaw09.AstNests'. -/
def astNestsCard : Claim7 := { stood := { row := astNestsRow, standIns := [], harness := (true, "9c8efafc9d58b19ffc70a9d09af3fa2534371a64b891f9210ffb9bed5253d9c4"), looks := false }, kinds := [], alts := [], laidByText := true, laidKinds := [.data], laidTests := true, laidLooks := .later }
def AstNestsCardSaid : Prop := Claim7.holds Tryd.pinned (.plain (OpenSpec.ofChange astNestsSpec)) astNestsCard

/-- THE TIED CARD OF 'gavottelaw09.AstExprs'. -/
def astExprsCard : Claim7 := { stood := { row := astExprsRow, standIns := [], harness := (true, "9c8efafc9d58b19ffc70a9d09af3fa2534371a64b891f9210ffb9bed5253d9c4"), looks := false }, kinds := [], alts := [], laidByText := true, laidKinds := [.data], laidTests := true, laidLooks := .later }
def AstExprsCardSaid : Prop := Claim7.holds Tryd.pinned (.plain (OpenSpec.ofChange astExprsSpec)) astExprsCard

/-- THE TIED CARD OF 'gavottelaw09.AstSame'. -/
def astSameCard : Claim7 := { stood := { row := astSameRow, standIns := [], harness := (true, "9c8efafc9d58b19ffc70a9d09af3fa2534371a64b891f9210ffb9bed5253d9c4"), looks := false }, kinds := [], alts := [], laidByText := true, laidKinds := [.data], laidTests := true, laidLooks := .later }
def AstSameCardSaid : Prop := Claim7.holds Tryd.pinned (.plain (OpenSpec.ofChange astSameSpec)) astSameCard

/-- THE TIED CARD OF 'gavottelaw09.AstPrograms'. -/
def astProgramsCard : Claim7 := { stood := { row := astProgramsRow, standIns := [], harness := (true, "9c8efafc9d58b19ffc70a9d09af3fa2534371a64b891f9210ffb9bed5253d9c4"), looks := false }, kinds := [], alts := [], laidByText := true, laidKinds := [.data], laidTests := true, laidLooks := .later }
def AstProgramsCardSaid : Prop := Claim7.holds Tryd.pinned (.plain (OpenSpec.ofChange astProgramsSpec)) astProgramsCard

/-- THE TIED CARD OF 'gavottelaw09.AstAll'. -/
def astAllCard : Claim7 := { stood := { row := astAllRow, standIns := [], harness := (true, "9c8efafc9d58b19ffc70a9d09af3fa2534371a64b891f9210ffb9bed5253d9c4"), looks := false }, kinds := [], alts := [], laidByText := true, laidKinds := [.data], laidTests := true, laidLooks := .later }
def AstAllCardSaid : Prop := Claim7.holds Tryd.pinned (.plain (OpenSpec.ofChange astAllSpec)) astAllCard

/-- THE SECOND FORM's CARD OF 'gavottelaw09.AstWalks'. -/
def astWalksUptoCard : Claim7 := { stood := { row := astWalksUptoRow, standIns := [], harness := (true, "9c8efafc9d58b19ffc70a9d09af3fa2534371a64b891f9210ffb9bed5253d9c4"), looks := false }, kinds := [], alts := [], laidByText := true, laidKinds := [.data], laidTests := true, laidLooks := .later }
def AstWalksUptoCardSaid : Prop := Claim7.holds Tryd.pinned (.plain (OpenSpec.upto astWalksSpec)) astWalksUptoCard

/-- THE SECOND FORM's CARD OF 'gavottelaw09.AstNames'. -/
def astNamesUptoCard : Claim7 := { stood := { row := astNamesUptoRow, standIns := [], harness := (true, "9c8efafc9d58b19ffc70a9d09af3fa2534371a64b891f9210ffb9bed5253d9c4"), looks := false }, kinds := [], alts := [], laidByText := true, laidKinds := [.data], laidTests := true, laidLooks := .later }
def AstNamesUptoCardSaid : Prop := Claim7.holds Tryd.pinned (.plain (OpenSpec.upto astNamesSpec)) astNamesUptoCard

/-- THE SECOND FORM's CARD OF 'gavottelaw09.AstNests'. -/
def astNestsUptoCard : Claim7 := { stood := { row := astNestsUptoRow, standIns := [], harness := (true, "9c8efafc9d58b19ffc70a9d09af3fa2534371a64b891f9210ffb9bed5253d9c4"), looks := false }, kinds := [], alts := [], laidByText := true, laidKinds := [.data], laidTests := true, laidLooks := .later }
def AstNestsUptoCardSaid : Prop := Claim7.holds Tryd.pinned (.plain (OpenSpec.upto astNestsSpec)) astNestsUptoCard

/-- THE SECOND FORM's CARD OF 'gavottelaw09.AstExprs'. -/
def astExprsUptoCard : Claim7 := { stood := { row := astExprsUptoRow, standIns := [], harness := (true, "9c8efafc9d58b19ffc70a9d09af3fa2534371a64b891f9210ffb9bed5253d9c4"), looks := false }, kinds := [], alts := [], laidByText := true, laidKinds := [.data], laidTests := true, laidLooks := .later }
def AstExprsUptoCardSaid : Prop := Claim7.holds Tryd.pinned (.plain (OpenSpec.upto astExprsSpec)) astExprsUptoCard

/-- THE SECOND FORM's CARD OF 'gavottelaw09.AstSame'. -/
def astSameUptoCard : Claim7 := { stood := { row := astSameUptoRow, standIns := [], harness := (true, "9c8efafc9d58b19ffc70a9d09af3fa2534371a64b891f9210ffb9bed5253d9c4"), looks := false }, kinds := [], alts := [], laidByText := true, laidKinds := [.data], laidTests := true, laidLooks := .later }
def AstSameUptoCardSaid : Prop := Claim7.holds Tryd.pinned (.plain (OpenSpec.upto astSameSpec)) astSameUptoCard

/-- THE SECOND FORM's CARD OF 'gavottelaw09.AstPrograms'. -/
def astProgramsUptoCard : Claim7 := { stood := { row := astProgramsUptoRow, standIns := [], harness := (true, "9c8efafc9d58b19ffc70a9d09af3fa2534371a64b891f9210ffb9bed5253d9c4"), looks := false }, kinds := [], alts := [], laidByText := true, laidKinds := [.data], laidTests := true, laidLooks := .later }
def AstProgramsUptoCardSaid : Prop := Claim7.holds Tryd.pinned (.plain (OpenSpec.upto astProgramsSpec)) astProgramsUptoCard

/-- THE SECOND FORM's CARD OF 'gavottelaw09.AstAll'. -/
def astAllUptoCard : Claim7 := { stood := { row := astAllUptoRow, standIns := [], harness := (true, "9c8efafc9d58b19ffc70a9d09af3fa2534371a64b891f9210ffb9bed5253d9c4"), looks := false }, kinds := [], alts := [], laidByText := true, laidKinds := [.data], laidTests := true, laidLooks := .later }
def AstAllUptoCardSaid : Prop := Claim7.holds Tryd.pinned (.plain (OpenSpec.upto astAllSpec)) astAllUptoCard
end Rows
end Go.Proofs.YtfnacnlaphpflaaDoor
