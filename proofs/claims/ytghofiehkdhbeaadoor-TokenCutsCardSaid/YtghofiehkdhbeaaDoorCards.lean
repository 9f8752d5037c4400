/-
  DERIVED. GIVEN WITH THE SEED: THE CARDS: each row of YtghofiehkdhbeaaDoorRows.lean that lists a variable, with what it lists TIED to the program's text (the seventh form; the later family's looks); each row that meets fmt, with fmt's text TOLD by the authors' own Lean function (tested against real Go, not proved from fmt's source: count such statements apart). THE CARD IS WHAT COUNTS. Prove the row's statement (the work); the ties are given (YtghofiehkdhbeaaDoorTie.lean); close each card by the builder's one call (the guide's Derived/Test/ToyasCard.lean, 'card_holds'). Laid BY PROGRAM, IN A SANDBOX (cutbox-door.mjs). By AI agents, Wed Nov 11 2026. No macro, syntax, notation, axiom, sorry.
-/
import Derived.Test.YtghofiehkdhbeaaDoorRows
import GoSem.ClaimSeven
namespace Go.Proofs.YtghofiehkdhbeaaDoor
namespace Rows

/-- THE TIED CARD OF 'gavottelaw08.TokenAgain'. -/
def tokenAgainCard : Claim7 := { stood := { row := tokenAgainRow, standIns := [], harness := (true, "eb3699a34ff5513fc1be93871f2295a6a5c1f7d0268db3d305f04026bfec6e84"), looks := true }, kinds := [], alts := [], laidByText := true, laidKinds := [.data, .data, .data, .sentinel, .sentinel, .data], laidTests := true, laidLooks := .later }
def TokenAgainCardSaid : Prop := Claim7.holds Tryd.pinned (.plain (OpenSpec.ofChange tokenAgainSpec)) tokenAgainCard

/-- THE TIED CARD OF 'gavottelaw08.TokenScans'. -/
def tokenScansCard : Claim7 := { stood := { row := tokenScansRow, standIns := [], harness := (true, "eb3699a34ff5513fc1be93871f2295a6a5c1f7d0268db3d305f04026bfec6e84"), looks := true }, kinds := [], alts := [], laidByText := true, laidKinds := [.data, .data, .data, .sentinel, .sentinel, .data], laidTests := true, laidLooks := .later }
def TokenScansCardSaid : Prop := Claim7.holds Tryd.pinned (.plain (OpenSpec.ofChange tokenScansSpec)) tokenScansCard

/-- THE TIED CARD OF 'gavottelaw08.TokenAll'. -/
def tokenAllCard : Claim7 := { stood := { row := tokenAllRow, standIns := [], harness := (true, "eb3699a34ff5513fc1be93871f2295a6a5c1f7d0268db3d305f04026bfec6e84"), looks := true }, kinds := [], alts := [], laidByText := true, laidKinds := [.data, .data, .data, .sentinel, .sentinel, .data], laidTests := true, laidLooks := .later }
def TokenAllCardSaid : Prop := Claim7.holds Tryd.pinned (.plain (OpenSpec.ofChange tokenAllSpec)) tokenAllCard

/-- THE TIED CARD OF 'gavottelaw08.TokenCuts'. -/
def tokenCutsCard : Claim7 := { stood := { row := tokenCutsRow, standIns := [], harness := (true, "eb3699a34ff5513fc1be93871f2295a6a5c1f7d0268db3d305f04026bfec6e84"), looks := true }, kinds := [], alts := [], laidByText := true, laidKinds := [.data, .data, .data, .sentinel, .sentinel, .data], laidTests := true, laidLooks := .later }
def TokenCutsCardSaid : Prop := Claim7.holds Tryd.pinned (.plain (OpenSpec.ofChange tokenCutsSpec)) tokenCutsCard

/-- THE SECOND FORM's CARD OF 'gavottelaw08.TokenAgain'. -/
def tokenAgainUptoCard : Claim7 := { stood := { row := tokenAgainUptoRow, standIns := [], harness := (true, "eb3699a34ff5513fc1be93871f2295a6a5c1f7d0268db3d305f04026bfec6e84"), looks := true }, kinds := [], alts := [], laidByText := true, laidKinds := [.data, .data, .data, .sentinel, .sentinel, .data], laidTests := true, laidLooks := .later }
def TokenAgainUptoCardSaid : Prop := Claim7.holds Tryd.pinned (.plain (OpenSpec.upto tokenAgainSpec)) tokenAgainUptoCard

/-- THE SECOND FORM's CARD OF 'gavottelaw08.TokenScans'. -/
def tokenScansUptoCard : Claim7 := { stood := { row := tokenScansUptoRow, standIns := [], harness := (true, "eb3699a34ff5513fc1be93871f2295a6a5c1f7d0268db3d305f04026bfec6e84"), looks := true }, kinds := [], alts := [], laidByText := true, laidKinds := [.data, .data, .data, .sentinel, .sentinel, .data], laidTests := true, laidLooks := .later }
def TokenScansUptoCardSaid : Prop := Claim7.holds Tryd.pinned (.plain (OpenSpec.upto tokenScansSpec)) tokenScansUptoCard

/-- THE SECOND FORM's CARD OF 'gavottelaw08.TokenAll'. -/
def tokenAllUptoCard : Claim7 := { stood := { row := tokenAllUptoRow, standIns := [], harness := (true, "eb3699a34ff5513fc1be93871f2295a6a5c1f7d0268db3d305f04026bfec6e84"), looks := true }, kinds := [], alts := [], laidByText := true, laidKinds := [.data, .data, .data, .sentinel, .sentinel, .data], laidTests := true, laidLooks := .later }
def TokenAllUptoCardSaid : Prop := Claim7.holds Tryd.pinned (.plain (OpenSpec.upto tokenAllSpec)) tokenAllUptoCard

/-- THE SECOND FORM's CARD OF 'gavottelaw08.TokenCuts'. -/
def tokenCutsUptoCard : Claim7 := { stood := { row := tokenCutsUptoRow, standIns := [], harness := (true, "eb3699a34ff5513fc1be93871f2295a6a5c1f7d0268db3d305f04026bfec6e84"), looks := true }, kinds := [], alts := [], laidByText := true, laidKinds := [.data, .data, .data, .sentinel, .sentinel, .data], laidTests := true, laidLooks := .later }
def TokenCutsUptoCardSaid : Prop := Claim7.holds Tryd.pinned (.plain (OpenSpec.upto tokenCutsSpec)) tokenCutsUptoCard
end Rows
end Go.Proofs.YtghofiehkdhbeaaDoor
