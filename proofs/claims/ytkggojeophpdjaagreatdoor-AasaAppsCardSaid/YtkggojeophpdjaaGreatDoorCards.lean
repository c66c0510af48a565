/-
  DERIVED. GIVEN WITH THE SEED: THE CARDS: each row of YtkggojeophpdjaaGreatDoorRows.lean that lists a variable, with what it lists TIED to the program's text (the seventh form; the later family's looks); each row that meets fmt, with fmt's text TOLD by the authors' own Lean function (tested against real Go, not proved from fmt's source: count such statements apart). THE CARD IS WHAT COUNTS. Prove the row's statement (the work); the ties are given (YtkggojeophpdjaaGreatDoorTie.lean); close each card by the builder's one call (the guide's Derived/Test/ToyasCard.lean, 'card_holds'). Laid BY PROGRAM, IN A SANDBOX (cutbox-door.mjs). By AI agents, Wed Nov 11 2026. No macro, syntax, notation, axiom, sorry.
-/
import Derived.Test.YtkggojeophpdjaaGreatDoorRows
import GoSem.ClaimSeven
namespace Go.Proofs.YtkggojeophpdjaaGreatDoor
namespace Rows

/-- THE TIED CARD OF 'waybilllaw20.AasaOrder'. -/
def aasaOrderCard : Claim7 := { stood := { row := aasaOrderRow, standIns := [], harness := (true, "2815fad54ca5a712e06bb0d025c2537b45320fed63e761d563a366d77b9e9d24"), looks := true }, kinds := [], alts := [], laidByText := true, laidKinds := [.data, .data, .widerDeep, .pinned], laidTests := true, laidLooks := .later }
def AasaOrderCardSaid : Prop := Claim7.holds Tryz.pinned (.plain (OpenSpec.ofChange aasaOrderSpec)) aasaOrderCard

/-- THE TIED CARD OF 'waybilllaw20.AasaApps'. -/
def aasaAppsCard : Claim7 := { stood := { row := aasaAppsRow, standIns := [], harness := (true, "2815fad54ca5a712e06bb0d025c2537b45320fed63e761d563a366d77b9e9d24"), looks := true }, kinds := [], alts := [], laidByText := true, laidKinds := [.data, .data, .widerDeep, .pinned], laidTests := true, laidLooks := .later }
def AasaAppsCardSaid : Prop := Claim7.holds Tryz.pinned (.plain (OpenSpec.ofChange aasaAppsSpec)) aasaAppsCard

/-- THE TIED CARD OF 'waybilllaw20.AasaLegacy'. -/
def aasaLegacyCard : Claim7 := { stood := { row := aasaLegacyRow, standIns := [], harness := (true, "2815fad54ca5a712e06bb0d025c2537b45320fed63e761d563a366d77b9e9d24"), looks := true }, kinds := [], alts := [], laidByText := true, laidKinds := [.data, .handle, .data, .widerDeep, .pinned], laidTests := true, laidLooks := .later }
def AasaLegacyCardSaid : Prop := Claim7.holds Tryz.pinned (.plain (OpenSpec.ofChange aasaLegacySpec)) aasaLegacyCard

/-- THE TIED CARD OF 'waybilllaw20.AasaBack'. -/
def aasaBackCard : Claim7 := { stood := { row := aasaBackRow, standIns := [], harness := (true, "2815fad54ca5a712e06bb0d025c2537b45320fed63e761d563a366d77b9e9d24"), looks := true }, kinds := [], alts := [], laidByText := true, laidKinds := [.data, .data, .widerDeep, .pinned], laidTests := true, laidLooks := .later }
def AasaBackCardSaid : Prop := Claim7.holds Tryz.pinned (.plain (OpenSpec.ofChange aasaBackSpec)) aasaBackCard

/-- THE TIED CARD OF 'waybilllaw20.AasaWrites'. -/
def aasaWritesCard : Claim7 := { stood := { row := aasaWritesRow, standIns := [], harness := (true, "2815fad54ca5a712e06bb0d025c2537b45320fed63e761d563a366d77b9e9d24"), looks := true }, kinds := [], alts := [], laidByText := true, laidKinds := [.data, .handle, .data, .widerDeep, .pinned], laidTests := true, laidLooks := .later }
def AasaWritesCardSaid : Prop := Claim7.holds Tryz.pinned (.plain (OpenSpec.ofChange aasaWritesSpec)) aasaWritesCard

/-- THE SECOND FORM's CARD OF 'waybilllaw20.AasaOrder'. -/
def aasaOrderUptoCard : Claim7 := { stood := { row := aasaOrderUptoRow, standIns := [], harness := (true, "2815fad54ca5a712e06bb0d025c2537b45320fed63e761d563a366d77b9e9d24"), looks := true }, kinds := [], alts := [], laidByText := true, laidKinds := [.data, .data, .widerDeep, .pinned], laidTests := true, laidLooks := .later }
def AasaOrderUptoCardSaid : Prop := Claim7.holds Tryz.pinned (.plain (OpenSpec.upto aasaOrderSpec)) aasaOrderUptoCard

/-- THE SECOND FORM's CARD OF 'waybilllaw20.AasaApps'. -/
def aasaAppsUptoCard : Claim7 := { stood := { row := aasaAppsUptoRow, standIns := [], harness := (true, "2815fad54ca5a712e06bb0d025c2537b45320fed63e761d563a366d77b9e9d24"), looks := true }, kinds := [], alts := [], laidByText := true, laidKinds := [.data, .data, .widerDeep, .pinned], laidTests := true, laidLooks := .later }
def AasaAppsUptoCardSaid : Prop := Claim7.holds Tryz.pinned (.plain (OpenSpec.upto aasaAppsSpec)) aasaAppsUptoCard

/-- THE SECOND FORM's CARD OF 'waybilllaw20.AasaLegacy'. -/
def aasaLegacyUptoCard : Claim7 := { stood := { row := aasaLegacyUptoRow, standIns := [], harness := (true, "2815fad54ca5a712e06bb0d025c2537b45320fed63e761d563a366d77b9e9d24"), looks := true }, kinds := [], alts := [], laidByText := true, laidKinds := [.data, .handle, .data, .widerDeep, .pinned], laidTests := true, laidLooks := .later }
def AasaLegacyUptoCardSaid : Prop := Claim7.holds Tryz.pinned (.plain (OpenSpec.upto aasaLegacySpec)) aasaLegacyUptoCard

/-- THE SECOND FORM's CARD OF 'waybilllaw20.AasaBack'. -/
def aasaBackUptoCard : Claim7 := { stood := { row := aasaBackUptoRow, standIns := [], harness := (true, "2815fad54ca5a712e06bb0d025c2537b45320fed63e761d563a366d77b9e9d24"), looks := true }, kinds := [], alts := [], laidByText := true, laidKinds := [.data, .data, .widerDeep, .pinned], laidTests := true, laidLooks := .later }
def AasaBackUptoCardSaid : Prop := Claim7.holds Tryz.pinned (.plain (OpenSpec.upto aasaBackSpec)) aasaBackUptoCard

/-- THE SECOND FORM's CARD OF 'waybilllaw20.AasaWrites'. -/
def aasaWritesUptoCard : Claim7 := { stood := { row := aasaWritesUptoRow, standIns := [], harness := (true, "2815fad54ca5a712e06bb0d025c2537b45320fed63e761d563a366d77b9e9d24"), looks := true }, kinds := [], alts := [], laidByText := true, laidKinds := [.data, .handle, .data, .widerDeep, .pinned], laidTests := true, laidLooks := .later }
def AasaWritesUptoCardSaid : Prop := Claim7.holds Tryz.pinned (.plain (OpenSpec.upto aasaWritesSpec)) aasaWritesUptoCard
end Rows
end Go.Proofs.YtkggojeophpdjaaGreatDoor
