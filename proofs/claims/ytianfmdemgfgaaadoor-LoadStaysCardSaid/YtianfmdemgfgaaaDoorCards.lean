/-
  DERIVED. GIVEN WITH THE SEED: THE CARDS: each row of YtianfmdemgfgaaaDoorRows.lean that lists a variable, with what it lists TIED to the program's text (the seventh form; the later family's looks); each row that meets fmt, with fmt's text TOLD by the authors' own Lean function (tested against real Go, not proved from fmt's source: count such statements apart). THE CARD IS WHAT COUNTS. Prove the row's statement (the work); the ties are given (YtianfmdemgfgaaaDoorTie.lean); close each card by the builder's one call (the guide's Derived/Test/ToyasCard.lean, 'card_holds'). Laid BY PROGRAM, IN A SANDBOX (cutbox-door.mjs). By AI agents, Wed Nov 11 2026. No macro, syntax, notation, axiom, sorry.
-/
import Derived.Test.YtianfmdemgfgaaaDoorRows
import GoSem.ClaimSeven
namespace Go.Proofs.YtianfmdemgfgaaaDoor
namespace Rows

/-- THE TIED CARD OF 'tattlelaw14.LoadFirst'. -/
def loadFirstCard : Claim7 := { stood := { row := loadFirstRow, standIns := [], harness := (true, "ba939a3c4c72552d133f4dca3a8dbb4fc69d8e7ac3ce867b6fd3ecc2f25d00ba"), looks := false }, kinds := [], alts := [], laidByText := true, laidKinds := [.data, .data, .data], laidTests := true, laidLooks := .later }
def LoadFirstCardSaid : Prop := Claim7.holds Tryd.pinned (.plain (OpenSpec.ofChange loadFirstSpec)) loadFirstCard

/-- THE TIED CARD OF 'tattlelaw14.LoadOne'. -/
def loadOneCard : Claim7 := { stood := { row := loadOneRow, standIns := [], harness := (true, "ba939a3c4c72552d133f4dca3a8dbb4fc69d8e7ac3ce867b6fd3ecc2f25d00ba"), looks := false }, kinds := [], alts := [], laidByText := true, laidKinds := [.data, .data, .data], laidTests := true, laidLooks := .later }
def LoadOneCardSaid : Prop := Claim7.holds Tryd.pinned (.plain (OpenSpec.ofChange loadOneSpec)) loadOneCard

/-- THE TIED CARD OF 'tattlelaw14.LoadAhead'. -/
def loadAheadCard : Claim7 := { stood := { row := loadAheadRow, standIns := [], harness := (true, "ba939a3c4c72552d133f4dca3a8dbb4fc69d8e7ac3ce867b6fd3ecc2f25d00ba"), looks := false }, kinds := [], alts := [], laidByText := true, laidKinds := [.data, .data, .data], laidTests := true, laidLooks := .later }
def LoadAheadCardSaid : Prop := Claim7.holds Tryd.pinned (.plain (OpenSpec.ofChange loadAheadSpec)) loadAheadCard

/-- THE TIED CARD OF 'tattlelaw14.LoadMost'. -/
def loadMostCard : Claim7 := { stood := { row := loadMostRow, standIns := [], harness := (true, "ba939a3c4c72552d133f4dca3a8dbb4fc69d8e7ac3ce867b6fd3ecc2f25d00ba"), looks := false }, kinds := [], alts := [], laidByText := true, laidKinds := [.data, .data, .data], laidTests := true, laidLooks := .later }
def LoadMostCardSaid : Prop := Claim7.holds Tryd.pinned (.plain (OpenSpec.ofChange loadMostSpec)) loadMostCard

/-- THE TIED CARD OF 'tattlelaw14.LoadTells'. -/
def loadTellsCard : Claim7 := { stood := { row := loadTellsRow, standIns := [], harness := (true, "ba939a3c4c72552d133f4dca3a8dbb4fc69d8e7ac3ce867b6fd3ecc2f25d00ba"), looks := false }, kinds := [], alts := [], laidByText := true, laidKinds := [.data, .data, .data], laidTests := true, laidLooks := .later }
def LoadTellsCardSaid : Prop := Claim7.holds Tryd.pinned (.plain (OpenSpec.ofChange loadTellsSpec)) loadTellsCard

/-- THE TIED CARD OF 'tattlelaw14.LoadBounds'. -/
def loadBoundsCard : Claim7 := { stood := { row := loadBoundsRow, standIns := [], harness := (true, "ba939a3c4c72552d133f4dca3a8dbb4fc69d8e7ac3ce867b6fd3ecc2f25d00ba"), looks := false }, kinds := [], alts := [], laidByText := true, laidKinds := [.data, .data, .data], laidTests := true, laidLooks := .later }
def LoadBoundsCardSaid : Prop := Claim7.holds Tryd.pinned (.plain (OpenSpec.ofChange loadBoundsSpec)) loadBoundsCard

/-- THE TIED CARD OF 'tattlelaw14.LoadStays'. -/
def loadStaysCard : Claim7 := { stood := { row := loadStaysRow, standIns := [], harness := (true, "ba939a3c4c72552d133f4dca3a8dbb4fc69d8e7ac3ce867b6fd3ecc2f25d00ba"), looks := false }, kinds := [], alts := [], laidByText := true, laidKinds := [.data, .data, .data], laidTests := true, laidLooks := .later }
def LoadStaysCardSaid : Prop := Claim7.holds Tryd.pinned (.plain (OpenSpec.ofChange loadStaysSpec)) loadStaysCard

/-- THE SECOND FORM's CARD OF 'tattlelaw14.LoadFirst'. -/
def loadFirstUptoCard : Claim7 := { stood := { row := loadFirstUptoRow, standIns := [], harness := (true, "ba939a3c4c72552d133f4dca3a8dbb4fc69d8e7ac3ce867b6fd3ecc2f25d00ba"), looks := false }, kinds := [], alts := [], laidByText := true, laidKinds := [.data, .data, .data], laidTests := true, laidLooks := .later }
def LoadFirstUptoCardSaid : Prop := Claim7.holds Tryd.pinned (.plain (OpenSpec.upto loadFirstSpec)) loadFirstUptoCard

/-- THE SECOND FORM's CARD OF 'tattlelaw14.LoadOne'. -/
def loadOneUptoCard : Claim7 := { stood := { row := loadOneUptoRow, standIns := [], harness := (true, "ba939a3c4c72552d133f4dca3a8dbb4fc69d8e7ac3ce867b6fd3ecc2f25d00ba"), looks := false }, kinds := [], alts := [], laidByText := true, laidKinds := [.data, .data, .data], laidTests := true, laidLooks := .later }
def LoadOneUptoCardSaid : Prop := Claim7.holds Tryd.pinned (.plain (OpenSpec.upto loadOneSpec)) loadOneUptoCard

/-- THE SECOND FORM's CARD OF 'tattlelaw14.LoadAhead'. -/
def loadAheadUptoCard : Claim7 := { stood := { row := loadAheadUptoRow, standIns := [], harness := (true, "ba939a3c4c72552d133f4dca3a8dbb4fc69d8e7ac3ce867b6fd3ecc2f25d00ba"), looks := false }, kinds := [], alts := [], laidByText := true, laidKinds := [.data, .data, .data], laidTests := true, laidLooks := .later }
def LoadAheadUptoCardSaid : Prop := Claim7.holds Tryd.pinned (.plain (OpenSpec.upto loadAheadSpec)) loadAheadUptoCard

/-- THE SECOND FORM's CARD OF 'tattlelaw14.LoadMost'. -/
def loadMostUptoCard : Claim7 := { stood := { row := loadMostUptoRow, standIns := [], harness := (true, "ba939a3c4c72552d133f4dca3a8dbb4fc69d8e7ac3ce867b6fd3ecc2f25d00ba"), looks := false }, kinds := [], alts := [], laidByText := true, laidKinds := [.data, .data, .data], laidTests := true, laidLooks := .later }
def LoadMostUptoCardSaid : Prop := Claim7.holds Tryd.pinned (.plain (OpenSpec.upto loadMostSpec)) loadMostUptoCard

/-- THE SECOND FORM's CARD OF 'tattlelaw14.LoadTells'. -/
def loadTellsUptoCard : Claim7 := { stood := { row := loadTellsUptoRow, standIns := [], harness := (true, "ba939a3c4c72552d133f4dca3a8dbb4fc69d8e7ac3ce867b6fd3ecc2f25d00ba"), looks := false }, kinds := [], alts := [], laidByText := true, laidKinds := [.data, .data, .data], laidTests := true, laidLooks := .later }
def LoadTellsUptoCardSaid : Prop := Claim7.holds Tryd.pinned (.plain (OpenSpec.upto loadTellsSpec)) loadTellsUptoCard

/-- THE SECOND FORM's CARD OF 'tattlelaw14.LoadBounds'. -/
def loadBoundsUptoCard : Claim7 := { stood := { row := loadBoundsUptoRow, standIns := [], harness := (true, "ba939a3c4c72552d133f4dca3a8dbb4fc69d8e7ac3ce867b6fd3ecc2f25d00ba"), looks := false }, kinds := [], alts := [], laidByText := true, laidKinds := [.data, .data, .data], laidTests := true, laidLooks := .later }
def LoadBoundsUptoCardSaid : Prop := Claim7.holds Tryd.pinned (.plain (OpenSpec.upto loadBoundsSpec)) loadBoundsUptoCard

/-- THE SECOND FORM's CARD OF 'tattlelaw14.LoadStays'. -/
def loadStaysUptoCard : Claim7 := { stood := { row := loadStaysUptoRow, standIns := [], harness := (true, "ba939a3c4c72552d133f4dca3a8dbb4fc69d8e7ac3ce867b6fd3ecc2f25d00ba"), looks := false }, kinds := [], alts := [], laidByText := true, laidKinds := [.data, .data, .data], laidTests := true, laidLooks := .later }
def LoadStaysUptoCardSaid : Prop := Claim7.holds Tryd.pinned (.plain (OpenSpec.upto loadStaysSpec)) loadStaysUptoCard
end Rows
end Go.Proofs.YtianfmdemgfgaaaDoor
