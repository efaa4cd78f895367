/-
  DERIVED. GIVEN WITH THE SEED: THE CARDS: each row of YtgbgneiciabidaaGreatDoorRows.lean that lists a variable, with what it lists TIED to the program's text (the seventh form; the later family's looks); each row that meets fmt, with fmt's text TOLD by the authors' own Lean function (tested against real Go, not proved from fmt's source: count such statements apart). THE CARD IS WHAT COUNTS. Prove the row's statement (the work); the ties are given (YtgbgneiciabidaaGreatDoorTie.lean); close each card by the builder's one call (the guide's Derived/Test/ToyasCard.lean, 'card_holds'). Laid BY PROGRAM, IN A SANDBOX (cutbox-door.mjs). By AI agents, Wed Nov 11 2026. No macro, syntax, notation, axiom, sorry.
-/
import Derived.Test.YtgbgneiciabidaaGreatDoorRows
import GoSem.ClaimSeven
namespace Go.Proofs.YtgbgneiciabidaaGreatDoor
namespace Rows

/-- THE TIED CARD OF 'portagelaw11.PagesOwn'. -/
def pagesOwnCard : Claim7 := { stood := { row := pagesOwnRow, standIns := [], harness := (true, "abad07f556790051749a71edb38658f1cb326e6666ccfe6ebe63b3aceb75931f"), looks := true }, kinds := [], alts := [], laidByText := true, laidKinds := [.data], laidTests := true, laidLooks := .later }
def PagesOwnCardSaid : Prop := Claim7.holds Tryz.pinned (.plain (OpenSpec.ofChange pagesOwnSpec)) pagesOwnCard

/-- THE TIED CARD OF 'portagelaw11.PagesLevels'. -/
def pagesLevelsCard : Claim7 := { stood := { row := pagesLevelsRow, standIns := [], harness := (true, "abad07f556790051749a71edb38658f1cb326e6666ccfe6ebe63b3aceb75931f"), looks := true }, kinds := [], alts := [], laidByText := true, laidKinds := [.data], laidTests := true, laidLooks := .later }
def PagesLevelsCardSaid : Prop := Claim7.holds Tryz.pinned (.plain (OpenSpec.ofChange pagesLevelsSpec)) pagesLevelsCard

/-- THE TIED CARD OF 'portagelaw11.PagesHolds'. -/
def pagesHoldsCard : Claim7 := { stood := { row := pagesHoldsRow, standIns := [], harness := (true, "abad07f556790051749a71edb38658f1cb326e6666ccfe6ebe63b3aceb75931f"), looks := true }, kinds := [], alts := [], laidByText := true, laidKinds := [.data], laidTests := true, laidLooks := .later }
def PagesHoldsCardSaid : Prop := Claim7.holds Tryz.pinned (.plain (OpenSpec.ofChange pagesHoldsSpec)) pagesHoldsCard

/-- THE TIED CARD OF 'portagelaw11.PagesBack'. -/
def pagesBackCard : Claim7 := { stood := { row := pagesBackRow, standIns := [], harness := (true, "abad07f556790051749a71edb38658f1cb326e6666ccfe6ebe63b3aceb75931f"), looks := true }, kinds := [], alts := [], laidByText := true, laidKinds := [.data], laidTests := true, laidLooks := .later }
def PagesBackCardSaid : Prop := Claim7.holds Tryz.pinned (.plain (OpenSpec.ofChange pagesBackSpec)) pagesBackCard

/-- THE TIED CARD OF 'portagelaw12.BtreeOrders'. -/
def btreeOrdersCard : Claim7 := { stood := { row := btreeOrdersRow, standIns := [], harness := (true, "abad07f556790051749a71edb38658f1cb326e6666ccfe6ebe63b3aceb75931f"), looks := true }, kinds := [], alts := [], laidByText := true, laidKinds := [.data], laidTests := true, laidLooks := .later }
def BtreeOrdersCardSaid : Prop := Claim7.holds Tryz.pinned (.plain (OpenSpec.ofChange btreeOrdersSpec)) btreeOrdersCard

/-- THE TIED CARD OF 'portagelaw12.BtreePages'. -/
def btreePagesCard : Claim7 := { stood := { row := btreePagesRow, standIns := [], harness := (true, "abad07f556790051749a71edb38658f1cb326e6666ccfe6ebe63b3aceb75931f"), looks := true }, kinds := [], alts := [], laidByText := true, laidKinds := [.data], laidTests := true, laidLooks := .later }
def BtreePagesCardSaid : Prop := Claim7.holds Tryz.pinned (.plain (OpenSpec.ofChange btreePagesSpec)) btreePagesCard

/-- THE TIED CARD OF 'portagelaw12.BtreeFinds'. -/
def btreeFindsCard : Claim7 := { stood := { row := btreeFindsRow, standIns := [], harness := (true, "abad07f556790051749a71edb38658f1cb326e6666ccfe6ebe63b3aceb75931f"), looks := true }, kinds := [], alts := [], laidByText := true, laidKinds := [.data], laidTests := true, laidLooks := .later }
def BtreeFindsCardSaid : Prop := Claim7.holds Tryz.pinned (.plain (OpenSpec.ofChange btreeFindsSpec)) btreeFindsCard

/-- THE TIED CARD OF 'portagelaw12.BtreePlays'. -/
def btreePlaysCard : Claim7 := { stood := { row := btreePlaysRow, standIns := [], harness := (true, "abad07f556790051749a71edb38658f1cb326e6666ccfe6ebe63b3aceb75931f"), looks := true }, kinds := [], alts := [], laidByText := true, laidKinds := [.data], laidTests := true, laidLooks := .later }
def BtreePlaysCardSaid : Prop := Claim7.holds Tryz.pinned (.plain (OpenSpec.ofChange btreePlaysSpec)) btreePlaysCard

/-- THE TIED CARD OF 'portagelaw12.BtreeFull'. -/
def btreeFullCard : Claim7 := { stood := { row := btreeFullRow, standIns := [], harness := (true, "abad07f556790051749a71edb38658f1cb326e6666ccfe6ebe63b3aceb75931f"), looks := true }, kinds := [], alts := [], laidByText := true, laidKinds := [.data], laidTests := true, laidLooks := .later }
def BtreeFullCardSaid : Prop := Claim7.holds Tryz.pinned (.plain (OpenSpec.ofChange btreeFullSpec)) btreeFullCard

/-- THE TIED CARD OF 'portagelaw13.CatalogEmpties'. -/
def catalogEmptiesCard : Claim7 := { stood := { row := catalogEmptiesRow, standIns := [], harness := (true, "abad07f556790051749a71edb38658f1cb326e6666ccfe6ebe63b3aceb75931f"), looks := true }, kinds := [], alts := [], laidByText := true, laidKinds := [.data], laidTests := true, laidLooks := .later }
def CatalogEmptiesCardSaid : Prop := Claim7.holds Tryz.pinned (.plain (OpenSpec.ofChange catalogEmptiesSpec)) catalogEmptiesCard

/-- THE TIED CARD OF 'portagelaw12.BtreeSwaps'. -/
def btreeSwapsCard : Claim7 := { stood := { row := btreeSwapsRow, standIns := [], harness := (true, "abad07f556790051749a71edb38658f1cb326e6666ccfe6ebe63b3aceb75931f"), looks := true }, kinds := [], alts := [], laidByText := true, laidKinds := [.data], laidTests := true, laidLooks := .later }
def BtreeSwapsCardSaid : Prop := Claim7.holds Tryz.pinned (.plain (OpenSpec.ofChange btreeSwapsSpec)) btreeSwapsCard

/-- THE TIED CARD OF 'portagelaw13.CatalogSaves'. -/
def catalogSavesCard : Claim7 := { stood := { row := catalogSavesRow, standIns := [], harness := (true, "abad07f556790051749a71edb38658f1cb326e6666ccfe6ebe63b3aceb75931f"), looks := true }, kinds := [], alts := [], laidByText := true, laidKinds := [.data], laidTests := true, laidLooks := .later }
def CatalogSavesCardSaid : Prop := Claim7.holds Tryz.pinned (.plain (OpenSpec.ofChange catalogSavesSpec)) catalogSavesCard

/-- THE SECOND FORM's CARD OF 'portagelaw11.PagesOwn'. -/
def pagesOwnUptoCard : Claim7 := { stood := { row := pagesOwnUptoRow, standIns := [], harness := (true, "abad07f556790051749a71edb38658f1cb326e6666ccfe6ebe63b3aceb75931f"), looks := true }, kinds := [], alts := [], laidByText := true, laidKinds := [.data], laidTests := true, laidLooks := .later }
def PagesOwnUptoCardSaid : Prop := Claim7.holds Tryz.pinned (.plain (OpenSpec.upto pagesOwnSpec)) pagesOwnUptoCard

/-- THE SECOND FORM's CARD OF 'portagelaw11.PagesLevels'. -/
def pagesLevelsUptoCard : Claim7 := { stood := { row := pagesLevelsUptoRow, standIns := [], harness := (true, "abad07f556790051749a71edb38658f1cb326e6666ccfe6ebe63b3aceb75931f"), looks := true }, kinds := [], alts := [], laidByText := true, laidKinds := [.data], laidTests := true, laidLooks := .later }
def PagesLevelsUptoCardSaid : Prop := Claim7.holds Tryz.pinned (.plain (OpenSpec.upto pagesLevelsSpec)) pagesLevelsUptoCard

/-- THE SECOND FORM's CARD OF 'portagelaw11.PagesHolds'. -/
def pagesHoldsUptoCard : Claim7 := { stood := { row := pagesHoldsUptoRow, standIns := [], harness := (true, "abad07f556790051749a71edb38658f1cb326e6666ccfe6ebe63b3aceb75931f"), looks := true }, kinds := [], alts := [], laidByText := true, laidKinds := [.data], laidTests := true, laidLooks := .later }
def PagesHoldsUptoCardSaid : Prop := Claim7.holds Tryz.pinned (.plain (OpenSpec.upto pagesHoldsSpec)) pagesHoldsUptoCard

/-- THE SECOND FORM's CARD OF 'portagelaw11.PagesBack'. -/
def pagesBackUptoCard : Claim7 := { stood := { row := pagesBackUptoRow, standIns := [], harness := (true, "abad07f556790051749a71edb38658f1cb326e6666ccfe6ebe63b3aceb75931f"), looks := true }, kinds := [], alts := [], laidByText := true, laidKinds := [.data], laidTests := true, laidLooks := .later }
def PagesBackUptoCardSaid : Prop := Claim7.holds Tryz.pinned (.plain (OpenSpec.upto pagesBackSpec)) pagesBackUptoCard

/-- THE SECOND FORM's CARD OF 'portagelaw12.BtreeOrders'. -/
def btreeOrdersUptoCard : Claim7 := { stood := { row := btreeOrdersUptoRow, standIns := [], harness := (true, "abad07f556790051749a71edb38658f1cb326e6666ccfe6ebe63b3aceb75931f"), looks := true }, kinds := [], alts := [], laidByText := true, laidKinds := [.data], laidTests := true, laidLooks := .later }
def BtreeOrdersUptoCardSaid : Prop := Claim7.holds Tryz.pinned (.plain (OpenSpec.upto btreeOrdersSpec)) btreeOrdersUptoCard

/-- THE SECOND FORM's CARD OF 'portagelaw12.BtreePages'. -/
def btreePagesUptoCard : Claim7 := { stood := { row := btreePagesUptoRow, standIns := [], harness := (true, "abad07f556790051749a71edb38658f1cb326e6666ccfe6ebe63b3aceb75931f"), looks := true }, kinds := [], alts := [], laidByText := true, laidKinds := [.data], laidTests := true, laidLooks := .later }
def BtreePagesUptoCardSaid : Prop := Claim7.holds Tryz.pinned (.plain (OpenSpec.upto btreePagesSpec)) btreePagesUptoCard

/-- THE SECOND FORM's CARD OF 'portagelaw12.BtreeFinds'. -/
def btreeFindsUptoCard : Claim7 := { stood := { row := btreeFindsUptoRow, standIns := [], harness := (true, "abad07f556790051749a71edb38658f1cb326e6666ccfe6ebe63b3aceb75931f"), looks := true }, kinds := [], alts := [], laidByText := true, laidKinds := [.data], laidTests := true, laidLooks := .later }
def BtreeFindsUptoCardSaid : Prop := Claim7.holds Tryz.pinned (.plain (OpenSpec.upto btreeFindsSpec)) btreeFindsUptoCard

/-- THE SECOND FORM's CARD OF 'portagelaw12.BtreePlays'. -/
def btreePlaysUptoCard : Claim7 := { stood := { row := btreePlaysUptoRow, standIns := [], harness := (true, "abad07f556790051749a71edb38658f1cb326e6666ccfe6ebe63b3aceb75931f"), looks := true }, kinds := [], alts := [], laidByText := true, laidKinds := [.data], laidTests := true, laidLooks := .later }
def BtreePlaysUptoCardSaid : Prop := Claim7.holds Tryz.pinned (.plain (OpenSpec.upto btreePlaysSpec)) btreePlaysUptoCard

/-- THE SECOND FORM's CARD OF 'portagelaw12.BtreeFull'. -/
def btreeFullUptoCard : Claim7 := { stood := { row := btreeFullUptoRow, standIns := [], harness := (true, "abad07f556790051749a71edb38658f1cb326e6666ccfe6ebe63b3aceb75931f"), looks := true }, kinds := [], alts := [], laidByText := true, laidKinds := [.data], laidTests := true, laidLooks := .later }
def BtreeFullUptoCardSaid : Prop := Claim7.holds Tryz.pinned (.plain (OpenSpec.upto btreeFullSpec)) btreeFullUptoCard

/-- THE SECOND FORM's CARD OF 'portagelaw13.CatalogEmpties'. -/
def catalogEmptiesUptoCard : Claim7 := { stood := { row := catalogEmptiesUptoRow, standIns := [], harness := (true, "abad07f556790051749a71edb38658f1cb326e6666ccfe6ebe63b3aceb75931f"), looks := true }, kinds := [], alts := [], laidByText := true, laidKinds := [.data], laidTests := true, laidLooks := .later }
def CatalogEmptiesUptoCardSaid : Prop := Claim7.holds Tryz.pinned (.plain (OpenSpec.upto catalogEmptiesSpec)) catalogEmptiesUptoCard

/-- THE SECOND FORM's CARD OF 'portagelaw12.BtreeSwaps'. -/
def btreeSwapsUptoCard : Claim7 := { stood := { row := btreeSwapsUptoRow, standIns := [], harness := (true, "abad07f556790051749a71edb38658f1cb326e6666ccfe6ebe63b3aceb75931f"), looks := true }, kinds := [], alts := [], laidByText := true, laidKinds := [.data], laidTests := true, laidLooks := .later }
def BtreeSwapsUptoCardSaid : Prop := Claim7.holds Tryz.pinned (.plain (OpenSpec.upto btreeSwapsSpec)) btreeSwapsUptoCard

/-- THE SECOND FORM's CARD OF 'portagelaw13.CatalogSaves'. -/
def catalogSavesUptoCard : Claim7 := { stood := { row := catalogSavesUptoRow, standIns := [], harness := (true, "abad07f556790051749a71edb38658f1cb326e6666ccfe6ebe63b3aceb75931f"), looks := true }, kinds := [], alts := [], laidByText := true, laidKinds := [.data], laidTests := true, laidLooks := .later }
def CatalogSavesUptoCardSaid : Prop := Claim7.holds Tryz.pinned (.plain (OpenSpec.upto catalogSavesSpec)) catalogSavesUptoCard
end Rows
end Go.Proofs.YtgbgneiciabidaaGreatDoor
