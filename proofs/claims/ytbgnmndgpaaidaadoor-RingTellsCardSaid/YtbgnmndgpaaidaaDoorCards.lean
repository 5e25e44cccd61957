/-
  DERIVED. GIVEN WITH THE SEED: THE CARDS: each row of YtbgnmndgpaaidaaDoorRows.lean that lists a variable, with what it lists TIED to the program's text (the seventh form; the later family's looks); each row that meets fmt, with fmt's text TOLD by the authors' own Lean function (tested against real Go, not proved from fmt's source: count such statements apart). THE CARD IS WHAT COUNTS. Prove the row's statement (the work); the ties are given (YtbgnmndgpaaidaaDoorTie.lean); close each card by the builder's one call (the guide's Derived/Test/ToyasCard.lean, 'card_holds'). Laid BY PROGRAM, IN A SANDBOX (cutbox-door.mjs). By AI agents, Wed Nov 11 2026. No macro, syntax, notation, axiom, sorry.
-/
import Derived.Test.YtbgnmndgpaaidaaDoorRows
import GoSem.ClaimSeven
namespace Go.Proofs.YtbgnmndgpaaidaaDoor
namespace Rows

/-- THE TIED CARD OF 'tattlelaw13.RingSpots'. -/
def ringSpotsCard : Claim7 := { stood := { row := ringSpotsRow, standIns := [], harness := (true, "b1e637c9ae4ee4b8a4fe07a640c9eb26162e6d288276160c3f727b064ba17df9"), looks := false }, kinds := [], alts := [], laidByText := true, laidKinds := [.data, .data, .data], laidTests := true, laidLooks := .later }
def RingSpotsCardSaid : Prop := Claim7.holds Tryd.pinned (.plain (OpenSpec.ofChange ringSpotsSpec)) ringSpotsCard

/-- THE TIED CARD OF 'tattlelaw13.RingPlaces'. -/
def ringPlacesCard : Claim7 := { stood := { row := ringPlacesRow, standIns := [], harness := (true, "b1e637c9ae4ee4b8a4fe07a640c9eb26162e6d288276160c3f727b064ba17df9"), looks := false }, kinds := [], alts := [], laidByText := true, laidKinds := [.data, .data, .data], laidTests := true, laidLooks := .later }
def RingPlacesCardSaid : Prop := Claim7.holds Tryd.pinned (.plain (OpenSpec.ofChange ringPlacesSpec)) ringPlacesCard

/-- THE TIED CARD OF 'tattlelaw13.RingTells'. -/
def ringTellsCard : Claim7 := { stood := { row := ringTellsRow, standIns := [], harness := (true, "b1e637c9ae4ee4b8a4fe07a640c9eb26162e6d288276160c3f727b064ba17df9"), looks := false }, kinds := [], alts := [], laidByText := true, laidKinds := [.data, .data, .data], laidTests := true, laidLooks := .later }
def RingTellsCardSaid : Prop := Claim7.holds Tryd.pinned (.plain (OpenSpec.ofChange ringTellsSpec)) ringTellsCard

/-- THE TIED CARD OF 'tattlelaw13.RingMore'. -/
def ringMoreCard : Claim7 := { stood := { row := ringMoreRow, standIns := [], harness := (true, "b1e637c9ae4ee4b8a4fe07a640c9eb26162e6d288276160c3f727b064ba17df9"), looks := false }, kinds := [], alts := [], laidByText := true, laidKinds := [.data, .data, .data], laidTests := true, laidLooks := .later }
def RingMoreCardSaid : Prop := Claim7.holds Tryd.pinned (.plain (OpenSpec.ofChange ringMoreSpec)) ringMoreCard

/-- THE TIED CARD OF 'tattlelaw13.RingWalks'. -/
def ringWalksCard : Claim7 := { stood := { row := ringWalksRow, standIns := [], harness := (true, "b1e637c9ae4ee4b8a4fe07a640c9eb26162e6d288276160c3f727b064ba17df9"), looks := false }, kinds := [], alts := [], laidByText := true, laidKinds := [.data, .data, .data], laidTests := true, laidLooks := .later }
def RingWalksCardSaid : Prop := Claim7.holds Tryd.pinned (.plain (OpenSpec.ofChange ringWalksSpec)) ringWalksCard

/-- THE TIED CARD OF 'tattlelaw13.RingOne'. -/
def ringOneCard : Claim7 := { stood := { row := ringOneRow, standIns := [], harness := (true, "b1e637c9ae4ee4b8a4fe07a640c9eb26162e6d288276160c3f727b064ba17df9"), looks := false }, kinds := [], alts := [], laidByText := true, laidKinds := [.data, .data, .data], laidTests := true, laidLooks := .later }
def RingOneCardSaid : Prop := Claim7.holds Tryd.pinned (.plain (OpenSpec.ofChange ringOneSpec)) ringOneCard

/-- THE SECOND FORM's CARD OF 'tattlelaw13.RingSpots'. -/
def ringSpotsUptoCard : Claim7 := { stood := { row := ringSpotsUptoRow, standIns := [], harness := (true, "b1e637c9ae4ee4b8a4fe07a640c9eb26162e6d288276160c3f727b064ba17df9"), looks := false }, kinds := [], alts := [], laidByText := true, laidKinds := [.data, .data, .data], laidTests := true, laidLooks := .later }
def RingSpotsUptoCardSaid : Prop := Claim7.holds Tryd.pinned (.plain (OpenSpec.upto ringSpotsSpec)) ringSpotsUptoCard

/-- THE SECOND FORM's CARD OF 'tattlelaw13.RingPlaces'. -/
def ringPlacesUptoCard : Claim7 := { stood := { row := ringPlacesUptoRow, standIns := [], harness := (true, "b1e637c9ae4ee4b8a4fe07a640c9eb26162e6d288276160c3f727b064ba17df9"), looks := false }, kinds := [], alts := [], laidByText := true, laidKinds := [.data, .data, .data], laidTests := true, laidLooks := .later }
def RingPlacesUptoCardSaid : Prop := Claim7.holds Tryd.pinned (.plain (OpenSpec.upto ringPlacesSpec)) ringPlacesUptoCard

/-- THE SECOND FORM's CARD OF 'tattlelaw13.RingTells'. -/
def ringTellsUptoCard : Claim7 := { stood := { row := ringTellsUptoRow, standIns := [], harness := (true, "b1e637c9ae4ee4b8a4fe07a640c9eb26162e6d288276160c3f727b064ba17df9"), looks := false }, kinds := [], alts := [], laidByText := true, laidKinds := [.data, .data, .data], laidTests := true, laidLooks := .later }
def RingTellsUptoCardSaid : Prop := Claim7.holds Tryd.pinned (.plain (OpenSpec.upto ringTellsSpec)) ringTellsUptoCard

/-- THE SECOND FORM's CARD OF 'tattlelaw13.RingMore'. -/
def ringMoreUptoCard : Claim7 := { stood := { row := ringMoreUptoRow, standIns := [], harness := (true, "b1e637c9ae4ee4b8a4fe07a640c9eb26162e6d288276160c3f727b064ba17df9"), looks := false }, kinds := [], alts := [], laidByText := true, laidKinds := [.data, .data, .data], laidTests := true, laidLooks := .later }
def RingMoreUptoCardSaid : Prop := Claim7.holds Tryd.pinned (.plain (OpenSpec.upto ringMoreSpec)) ringMoreUptoCard

/-- THE SECOND FORM's CARD OF 'tattlelaw13.RingWalks'. -/
def ringWalksUptoCard : Claim7 := { stood := { row := ringWalksUptoRow, standIns := [], harness := (true, "b1e637c9ae4ee4b8a4fe07a640c9eb26162e6d288276160c3f727b064ba17df9"), looks := false }, kinds := [], alts := [], laidByText := true, laidKinds := [.data, .data, .data], laidTests := true, laidLooks := .later }
def RingWalksUptoCardSaid : Prop := Claim7.holds Tryd.pinned (.plain (OpenSpec.upto ringWalksSpec)) ringWalksUptoCard

/-- THE SECOND FORM's CARD OF 'tattlelaw13.RingOne'. -/
def ringOneUptoCard : Claim7 := { stood := { row := ringOneUptoRow, standIns := [], harness := (true, "b1e637c9ae4ee4b8a4fe07a640c9eb26162e6d288276160c3f727b064ba17df9"), looks := false }, kinds := [], alts := [], laidByText := true, laidKinds := [.data, .data, .data], laidTests := true, laidLooks := .later }
def RingOneUptoCardSaid : Prop := Claim7.holds Tryd.pinned (.plain (OpenSpec.upto ringOneSpec)) ringOneUptoCard
end Rows
end Go.Proofs.YtbgnmndgpaaidaaDoor
