/-
  DERIVED. GIVEN WITH THE SEED: THE CARDS: each row of YtbmjmamodnapiaaGreatDoorRows.lean that lists a variable, with what it lists TIED to the program's text (the seventh form; the later family's looks); each row that meets fmt, with fmt's text TOLD by the authors' own Lean function (tested against real Go, not proved from fmt's source: count such statements apart). THE CARD IS WHAT COUNTS. Prove the row's statement (the work); the ties are given (YtbmjmamodnapiaaGreatDoorTie.lean); close each card by the builder's one call (the guide's Derived/Test/ToyasCard.lean, 'card_holds'). Laid BY PROGRAM, IN A SANDBOX (cutbox-door.mjs). By AI agents, Wed Nov 11 2026. No macro, syntax, notation, axiom, sorry.
-/
import Derived.Test.YtbmjmamodnapiaaGreatDoorRows
import GoSem.ClaimSeven
namespace Go.Proofs.YtbmjmamodnapiaaGreatDoor
namespace Rows

/-- THE TIED CARD OF 'carillonlaw19.BusFilters'. -/
def busFiltersCard : Claim7 := { stood := { row := busFiltersRow, standIns := [], harness := (true, "162ca0962a31c8e798551d6224cd38b066c4349663bafa29bae1df66a11253bc"), looks := false }, kinds := [], alts := [], laidByText := true, laidKinds := [.data], laidTests := true, laidLooks := .later }
def BusFiltersCardSaid : Prop := Claim7.holds Tryz.pinned (.plain (OpenSpec.ofChange busFiltersSpec)) busFiltersCard

/-- THE TIED CARD OF 'carillonlaw19.BusPacks'. -/
def busPacksCard : Claim7 := { stood := { row := busPacksRow, standIns := [], harness := (true, "162ca0962a31c8e798551d6224cd38b066c4349663bafa29bae1df66a11253bc"), looks := false }, kinds := [], alts := [], laidByText := true, laidKinds := [.data], laidTests := true, laidLooks := .later }
def BusPacksCardSaid : Prop := Claim7.holds Tryz.pinned (.plain (OpenSpec.ofChange busPacksSpec)) busPacksCard

/-- THE TIED CARD OF 'carillonlaw19.BusPlaces'. -/
def busPlacesCard : Claim7 := { stood := { row := busPlacesRow, standIns := [], harness := (true, "162ca0962a31c8e798551d6224cd38b066c4349663bafa29bae1df66a11253bc"), looks := false }, kinds := [], alts := [], laidByText := true, laidKinds := [.data], laidTests := true, laidLooks := .later }
def BusPlacesCardSaid : Prop := Claim7.holds Tryz.pinned (.plain (OpenSpec.ofChange busPlacesSpec)) busPlacesCard

/-- THE TIED CARD OF 'carillonlaw19.BusNil'. -/
def busNilCard : Claim7 := { stood := { row := busNilRow, standIns := [], harness := (true, "162ca0962a31c8e798551d6224cd38b066c4349663bafa29bae1df66a11253bc"), looks := false }, kinds := [], alts := [], laidByText := true, laidKinds := [.data], laidTests := true, laidLooks := .later }
def BusNilCardSaid : Prop := Claim7.holds Tryz.pinned (.plain (OpenSpec.ofChange busNilSpec)) busNilCard

/-- THE SECOND FORM's CARD OF 'carillonlaw19.BusFilters'. -/
def busFiltersUptoCard : Claim7 := { stood := { row := busFiltersUptoRow, standIns := [], harness := (true, "162ca0962a31c8e798551d6224cd38b066c4349663bafa29bae1df66a11253bc"), looks := false }, kinds := [], alts := [], laidByText := true, laidKinds := [.data], laidTests := true, laidLooks := .later }
def BusFiltersUptoCardSaid : Prop := Claim7.holds Tryz.pinned (.plain (OpenSpec.upto busFiltersSpec)) busFiltersUptoCard

/-- THE SECOND FORM's CARD OF 'carillonlaw19.BusPacks'. -/
def busPacksUptoCard : Claim7 := { stood := { row := busPacksUptoRow, standIns := [], harness := (true, "162ca0962a31c8e798551d6224cd38b066c4349663bafa29bae1df66a11253bc"), looks := false }, kinds := [], alts := [], laidByText := true, laidKinds := [.data], laidTests := true, laidLooks := .later }
def BusPacksUptoCardSaid : Prop := Claim7.holds Tryz.pinned (.plain (OpenSpec.upto busPacksSpec)) busPacksUptoCard

/-- THE SECOND FORM's CARD OF 'carillonlaw19.BusPlaces'. -/
def busPlacesUptoCard : Claim7 := { stood := { row := busPlacesUptoRow, standIns := [], harness := (true, "162ca0962a31c8e798551d6224cd38b066c4349663bafa29bae1df66a11253bc"), looks := false }, kinds := [], alts := [], laidByText := true, laidKinds := [.data], laidTests := true, laidLooks := .later }
def BusPlacesUptoCardSaid : Prop := Claim7.holds Tryz.pinned (.plain (OpenSpec.upto busPlacesSpec)) busPlacesUptoCard

/-- THE SECOND FORM's CARD OF 'carillonlaw19.BusNil'. -/
def busNilUptoCard : Claim7 := { stood := { row := busNilUptoRow, standIns := [], harness := (true, "162ca0962a31c8e798551d6224cd38b066c4349663bafa29bae1df66a11253bc"), looks := false }, kinds := [], alts := [], laidByText := true, laidKinds := [.data], laidTests := true, laidLooks := .later }
def BusNilUptoCardSaid : Prop := Claim7.holds Tryz.pinned (.plain (OpenSpec.upto busNilSpec)) busNilUptoCard
end Rows
end Go.Proofs.YtbmjmamodnapiaaGreatDoor
