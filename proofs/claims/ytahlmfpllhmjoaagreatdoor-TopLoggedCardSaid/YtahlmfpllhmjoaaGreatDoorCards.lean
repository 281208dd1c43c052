/-
  DERIVED. GIVEN WITH THE SEED: THE CARDS: each row of YtahlmfpllhmjoaaGreatDoorRows.lean that lists a variable, with what it lists TIED to the program's text (the seventh form; the later family's looks); each row that meets fmt, with fmt's text TOLD by the authors' own Lean function (tested against real Go, not proved from fmt's source: count such statements apart). THE CARD IS WHAT COUNTS. Prove the row's statement (the work); the ties are given (YtahlmfpllhmjoaaGreatDoorTie.lean); close each card by the builder's one call (the guide's Derived/Test/ToyasCard.lean, 'card_holds'). Laid BY PROGRAM, IN A SANDBOX (cutbox-door.mjs). By AI agents, Wed Nov 11 2026. No macro, syntax, notation, axiom, sorry.
-/
import Derived.Test.YtahlmfpllhmjoaaGreatDoorRows
import GoSem.ClaimSeven
namespace Go.Proofs.YtahlmfpllhmjoaaGreatDoor
namespace Rows

/-- THE TIED CARD OF 'baseboardtop.TopLogged'. -/
def topLoggedCard : Claim7 := { stood := { row := topLoggedRow, standIns := [], harness := (true, "55421d4de6f339a4696a7145ed6966bdfd7acf76dc66826c46d9ab237bc13f55"), looks := false }, kinds := [], alts := [], laidByText := true, laidKinds := [.widerDeep], laidTests := true, laidLooks := .later }
def TopLoggedCardSaid : Prop := Claim7.holds Tryz.pinned (.plain (OpenSpec.ofChange topLoggedSpec)) topLoggedCard

/-- THE TIED CARD OF 'baseboardtop.TopHealthy'. -/
def topHealthyCard : Claim7 := { stood := { row := topHealthyRow, standIns := [], harness := (true, "55421d4de6f339a4696a7145ed6966bdfd7acf76dc66826c46d9ab237bc13f55"), looks := false }, kinds := [], alts := [], laidByText := true, laidKinds := [.widerDeep], laidTests := true, laidLooks := .later }
def TopHealthyCardSaid : Prop := Claim7.holds Tryz.pinned (.plain (OpenSpec.ofChange topHealthySpec)) topHealthyCard

/-- THE TIED CARD OF 'baseboardtop.TopBeyond'. -/
def topBeyondCard : Claim7 := { stood := { row := topBeyondRow, standIns := [], harness := (true, "55421d4de6f339a4696a7145ed6966bdfd7acf76dc66826c46d9ab237bc13f55"), looks := false }, kinds := [], alts := [], laidByText := true, laidKinds := [.widerDeep], laidTests := true, laidLooks := .later }
def TopBeyondCardSaid : Prop := Claim7.holds Tryz.pinned (.plain (OpenSpec.ofChange topBeyondSpec)) topBeyondCard

/-- THE TIED CARD OF 'baseboardtop.TopProvisioned'. -/
def topProvisionedCard : Claim7 := { stood := { row := topProvisionedRow, standIns := [], harness := (true, "55421d4de6f339a4696a7145ed6966bdfd7acf76dc66826c46d9ab237bc13f55"), looks := false }, kinds := [], alts := [], laidByText := true, laidKinds := [.widerDeep], laidTests := true, laidLooks := .later }
def TopProvisionedCardSaid : Prop := Claim7.holds Tryz.pinned (.plain (OpenSpec.ofChange topProvisionedSpec)) topProvisionedCard

/-- THE TIED CARD OF 'baseboardtop.TopProgrammed'. -/
def topProgrammedCard : Claim7 := { stood := { row := topProgrammedRow, standIns := [], harness := (true, "55421d4de6f339a4696a7145ed6966bdfd7acf76dc66826c46d9ab237bc13f55"), looks := false }, kinds := [], alts := [], laidByText := true, laidKinds := [.widerDeep], laidTests := true, laidLooks := .later }
def TopProgrammedCardSaid : Prop := Claim7.holds Tryz.pinned (.plain (OpenSpec.ofChange topProgrammedSpec)) topProgrammedCard

/-- THE TIED CARD OF 'baseboardtop.TopCarried'. -/
def topCarriedCard : Claim7 := { stood := { row := topCarriedRow, standIns := [], harness := (true, "55421d4de6f339a4696a7145ed6966bdfd7acf76dc66826c46d9ab237bc13f55"), looks := false }, kinds := [], alts := [], laidByText := true, laidKinds := [.widerDeep], laidTests := true, laidLooks := .later }
def TopCarriedCardSaid : Prop := Claim7.holds Tryz.pinned (.plain (OpenSpec.ofChange topCarriedSpec)) topCarriedCard

/-- THE SECOND FORM's CARD OF 'baseboardtop.TopLogged'. -/
def topLoggedUptoCard : Claim7 := { stood := { row := topLoggedUptoRow, standIns := [], harness := (true, "55421d4de6f339a4696a7145ed6966bdfd7acf76dc66826c46d9ab237bc13f55"), looks := false }, kinds := [], alts := [], laidByText := true, laidKinds := [.widerDeep], laidTests := true, laidLooks := .later }
def TopLoggedUptoCardSaid : Prop := Claim7.holds Tryz.pinned (.plain (OpenSpec.upto topLoggedSpec)) topLoggedUptoCard

/-- THE SECOND FORM's CARD OF 'baseboardtop.TopHealthy'. -/
def topHealthyUptoCard : Claim7 := { stood := { row := topHealthyUptoRow, standIns := [], harness := (true, "55421d4de6f339a4696a7145ed6966bdfd7acf76dc66826c46d9ab237bc13f55"), looks := false }, kinds := [], alts := [], laidByText := true, laidKinds := [.widerDeep], laidTests := true, laidLooks := .later }
def TopHealthyUptoCardSaid : Prop := Claim7.holds Tryz.pinned (.plain (OpenSpec.upto topHealthySpec)) topHealthyUptoCard

/-- THE SECOND FORM's CARD OF 'baseboardtop.TopBeyond'. -/
def topBeyondUptoCard : Claim7 := { stood := { row := topBeyondUptoRow, standIns := [], harness := (true, "55421d4de6f339a4696a7145ed6966bdfd7acf76dc66826c46d9ab237bc13f55"), looks := false }, kinds := [], alts := [], laidByText := true, laidKinds := [.widerDeep], laidTests := true, laidLooks := .later }
def TopBeyondUptoCardSaid : Prop := Claim7.holds Tryz.pinned (.plain (OpenSpec.upto topBeyondSpec)) topBeyondUptoCard

/-- THE SECOND FORM's CARD OF 'baseboardtop.TopProvisioned'. -/
def topProvisionedUptoCard : Claim7 := { stood := { row := topProvisionedUptoRow, standIns := [], harness := (true, "55421d4de6f339a4696a7145ed6966bdfd7acf76dc66826c46d9ab237bc13f55"), looks := false }, kinds := [], alts := [], laidByText := true, laidKinds := [.widerDeep], laidTests := true, laidLooks := .later }
def TopProvisionedUptoCardSaid : Prop := Claim7.holds Tryz.pinned (.plain (OpenSpec.upto topProvisionedSpec)) topProvisionedUptoCard

/-- THE SECOND FORM's CARD OF 'baseboardtop.TopProgrammed'. -/
def topProgrammedUptoCard : Claim7 := { stood := { row := topProgrammedUptoRow, standIns := [], harness := (true, "55421d4de6f339a4696a7145ed6966bdfd7acf76dc66826c46d9ab237bc13f55"), looks := false }, kinds := [], alts := [], laidByText := true, laidKinds := [.widerDeep], laidTests := true, laidLooks := .later }
def TopProgrammedUptoCardSaid : Prop := Claim7.holds Tryz.pinned (.plain (OpenSpec.upto topProgrammedSpec)) topProgrammedUptoCard

/-- THE SECOND FORM's CARD OF 'baseboardtop.TopCarried'. -/
def topCarriedUptoCard : Claim7 := { stood := { row := topCarriedUptoRow, standIns := [], harness := (true, "55421d4de6f339a4696a7145ed6966bdfd7acf76dc66826c46d9ab237bc13f55"), looks := false }, kinds := [], alts := [], laidByText := true, laidKinds := [.widerDeep], laidTests := true, laidLooks := .later }
def TopCarriedUptoCardSaid : Prop := Claim7.holds Tryz.pinned (.plain (OpenSpec.upto topCarriedSpec)) topCarriedUptoCard
end Rows
end Go.Proofs.YtahlmfpllhmjoaaGreatDoor
