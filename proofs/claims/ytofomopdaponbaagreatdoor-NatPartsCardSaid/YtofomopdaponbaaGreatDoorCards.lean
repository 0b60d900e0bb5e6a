/-
  DERIVED. GIVEN WITH THE SEED: THE CARDS: each row of YtofomopdaponbaaGreatDoorRows.lean that lists a variable, with what it lists TIED to the program's text (the seventh form; the later family's looks); each row that meets fmt, with fmt's text TOLD by the authors' own Lean function (tested against real Go, not proved from fmt's source: count such statements apart). THE CARD IS WHAT COUNTS. Prove the row's statement (the work); the ties are given (YtofomopdaponbaaGreatDoorTie.lean); close each card by the builder's one call (the guide's Derived/Test/ToyasCard.lean, 'card_holds'). Laid BY PROGRAM, IN A SANDBOX (cutbox-door.mjs). By AI agents, Wed Nov 11 2026. No macro, syntax, notation, axiom, sorry.
-/
import Derived.Test.YtofomopdaponbaaGreatDoorRows
import GoSem.ClaimSeven
namespace Go.Proofs.YtofomopdaponbaaGreatDoor
namespace Rows

/-- THE TIED CARD OF 'mosaiclaw30.NatPlays'. -/
def natPlaysCard : Claim7 := { stood := { row := natPlaysRow, standIns := [], harness := (true, "760ab75c8659ab26f512168ec4328829b691770916a14e6a24efa3899abbd1af"), looks := false }, kinds := [], alts := [], laidByText := true, laidKinds := [.data], laidTests := true, laidLooks := .later }
def NatPlaysCardSaid : Prop := Claim7.holds Tryz.pinned (.plain (OpenSpec.ofChange natPlaysSpec)) natPlaysCard

/-- THE TIED CARD OF 'mosaiclaw30.NatShares'. -/
def natSharesCard : Claim7 := { stood := { row := natSharesRow, standIns := [], harness := (true, "760ab75c8659ab26f512168ec4328829b691770916a14e6a24efa3899abbd1af"), looks := false }, kinds := [], alts := [], laidByText := true, laidKinds := [.data], laidTests := true, laidLooks := .later }
def NatSharesCardSaid : Prop := Claim7.holds Tryz.pinned (.plain (OpenSpec.ofChange natSharesSpec)) natSharesCard

/-- THE TIED CARD OF 'mosaiclaw30.NatRight'. -/
def natRightCard : Claim7 := { stood := { row := natRightRow, standIns := [], harness := (true, "760ab75c8659ab26f512168ec4328829b691770916a14e6a24efa3899abbd1af"), looks := false }, kinds := [], alts := [], laidByText := true, laidKinds := [.data], laidTests := true, laidLooks := .later }
def NatRightCardSaid : Prop := Claim7.holds Tryz.pinned (.plain (OpenSpec.ofChange natRightSpec)) natRightCard

/-- THE TIED CARD OF 'mosaiclaw30.NatMemory'. -/
def natMemoryCard : Claim7 := { stood := { row := natMemoryRow, standIns := [], harness := (true, "760ab75c8659ab26f512168ec4328829b691770916a14e6a24efa3899abbd1af"), looks := false }, kinds := [], alts := [], laidByText := true, laidKinds := [.data], laidTests := true, laidLooks := .later }
def NatMemoryCardSaid : Prop := Claim7.holds Tryz.pinned (.plain (OpenSpec.ofChange natMemorySpec)) natMemoryCard

/-- THE TIED CARD OF 'mosaiclaw30.NatBack'. -/
def natBackCard : Claim7 := { stood := { row := natBackRow, standIns := [], harness := (true, "760ab75c8659ab26f512168ec4328829b691770916a14e6a24efa3899abbd1af"), looks := false }, kinds := [], alts := [], laidByText := true, laidKinds := [.data], laidTests := true, laidLooks := .later }
def NatBackCardSaid : Prop := Claim7.holds Tryz.pinned (.plain (OpenSpec.ofChange natBackSpec)) natBackCard

/-- THE TIED CARD OF 'mosaiclaw30.NatParts'. -/
def natPartsCard : Claim7 := { stood := { row := natPartsRow, standIns := [], harness := (true, "760ab75c8659ab26f512168ec4328829b691770916a14e6a24efa3899abbd1af"), looks := false }, kinds := [], alts := [], laidByText := true, laidKinds := [.data], laidTests := true, laidLooks := .later }
def NatPartsCardSaid : Prop := Claim7.holds Tryz.pinned (.plain (OpenSpec.ofChange natPartsSpec)) natPartsCard

/-- THE TIED CARD OF 'mosaiclaw30.NatErrors'. -/
def natErrorsCard : Claim7 := { stood := { row := natErrorsRow, standIns := [], harness := (true, "760ab75c8659ab26f512168ec4328829b691770916a14e6a24efa3899abbd1af"), looks := false }, kinds := [], alts := [], laidByText := true, laidKinds := [.data, .data], laidTests := true, laidLooks := .later }
def NatErrorsCardSaid : Prop := Claim7.holds Tryz.pinned (.plain (OpenSpec.ofChange natErrorsSpec)) natErrorsCard

/-- THE SECOND FORM's CARD OF 'mosaiclaw30.NatPlays'. -/
def natPlaysUptoCard : Claim7 := { stood := { row := natPlaysUptoRow, standIns := [], harness := (true, "760ab75c8659ab26f512168ec4328829b691770916a14e6a24efa3899abbd1af"), looks := false }, kinds := [], alts := [], laidByText := true, laidKinds := [.data], laidTests := true, laidLooks := .later }
def NatPlaysUptoCardSaid : Prop := Claim7.holds Tryz.pinned (.plain (OpenSpec.upto natPlaysSpec)) natPlaysUptoCard

/-- THE SECOND FORM's CARD OF 'mosaiclaw30.NatShares'. -/
def natSharesUptoCard : Claim7 := { stood := { row := natSharesUptoRow, standIns := [], harness := (true, "760ab75c8659ab26f512168ec4328829b691770916a14e6a24efa3899abbd1af"), looks := false }, kinds := [], alts := [], laidByText := true, laidKinds := [.data], laidTests := true, laidLooks := .later }
def NatSharesUptoCardSaid : Prop := Claim7.holds Tryz.pinned (.plain (OpenSpec.upto natSharesSpec)) natSharesUptoCard

/-- THE SECOND FORM's CARD OF 'mosaiclaw30.NatRight'. -/
def natRightUptoCard : Claim7 := { stood := { row := natRightUptoRow, standIns := [], harness := (true, "760ab75c8659ab26f512168ec4328829b691770916a14e6a24efa3899abbd1af"), looks := false }, kinds := [], alts := [], laidByText := true, laidKinds := [.data], laidTests := true, laidLooks := .later }
def NatRightUptoCardSaid : Prop := Claim7.holds Tryz.pinned (.plain (OpenSpec.upto natRightSpec)) natRightUptoCard

/-- THE SECOND FORM's CARD OF 'mosaiclaw30.NatMemory'. -/
def natMemoryUptoCard : Claim7 := { stood := { row := natMemoryUptoRow, standIns := [], harness := (true, "760ab75c8659ab26f512168ec4328829b691770916a14e6a24efa3899abbd1af"), looks := false }, kinds := [], alts := [], laidByText := true, laidKinds := [.data], laidTests := true, laidLooks := .later }
def NatMemoryUptoCardSaid : Prop := Claim7.holds Tryz.pinned (.plain (OpenSpec.upto natMemorySpec)) natMemoryUptoCard

/-- THE SECOND FORM's CARD OF 'mosaiclaw30.NatBack'. -/
def natBackUptoCard : Claim7 := { stood := { row := natBackUptoRow, standIns := [], harness := (true, "760ab75c8659ab26f512168ec4328829b691770916a14e6a24efa3899abbd1af"), looks := false }, kinds := [], alts := [], laidByText := true, laidKinds := [.data], laidTests := true, laidLooks := .later }
def NatBackUptoCardSaid : Prop := Claim7.holds Tryz.pinned (.plain (OpenSpec.upto natBackSpec)) natBackUptoCard

/-- THE SECOND FORM's CARD OF 'mosaiclaw30.NatParts'. -/
def natPartsUptoCard : Claim7 := { stood := { row := natPartsUptoRow, standIns := [], harness := (true, "760ab75c8659ab26f512168ec4328829b691770916a14e6a24efa3899abbd1af"), looks := false }, kinds := [], alts := [], laidByText := true, laidKinds := [.data], laidTests := true, laidLooks := .later }
def NatPartsUptoCardSaid : Prop := Claim7.holds Tryz.pinned (.plain (OpenSpec.upto natPartsSpec)) natPartsUptoCard

/-- THE SECOND FORM's CARD OF 'mosaiclaw30.NatErrors'. -/
def natErrorsUptoCard : Claim7 := { stood := { row := natErrorsUptoRow, standIns := [], harness := (true, "760ab75c8659ab26f512168ec4328829b691770916a14e6a24efa3899abbd1af"), looks := false }, kinds := [], alts := [], laidByText := true, laidKinds := [.data, .data], laidTests := true, laidLooks := .later }
def NatErrorsUptoCardSaid : Prop := Claim7.holds Tryz.pinned (.plain (OpenSpec.upto natErrorsSpec)) natErrorsUptoCard
end Rows
end Go.Proofs.YtofomopdaponbaaGreatDoor
