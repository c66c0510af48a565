/-
  DERIVED. GIVEN WITH THE SEED: THE CARDS: each row of YtahbpehdjbmndaaGreatDoorRows.lean that lists a variable, with what it lists TIED to the program's text (the seventh form; the later family's looks); each row that meets fmt, with fmt's text TOLD by the authors' own Lean function (tested against real Go, not proved from fmt's source: count such statements apart). THE CARD IS WHAT COUNTS. Prove the row's statement (the work); the ties are given (YtahbpehdjbmndaaGreatDoorTie.lean); close each card by the builder's one call (the guide's Derived/Test/ToyasCard.lean, 'card_holds'). Laid BY PROGRAM, IN A SANDBOX (cutbox-door.mjs). By AI agents, Wed Nov 11 2026. No macro, syntax, notation, axiom, sorry.
-/
import Derived.Test.YtahbpehdjbmndaaGreatDoorRows
import GoSem.ClaimSeven
namespace Go.Proofs.YtahbpehdjbmndaaGreatDoor
namespace Rows

/-- THE TIED CARD OF 'waybilllaw14.UrlReads'. -/
def urlReadsCard : Claim7 := { stood := { row := urlReadsRow, standIns := [], harness := (true, "896fbafae1e1ffe8ce25a78a166a1b4298c1145fcf5f2ccfcdb0a39748b06265"), looks := true }, kinds := [], alts := [], laidByText := true, laidKinds := [.data, .handle, .data, .pinned], laidTests := true, laidLooks := .later }
def UrlReadsCardSaid : Prop := Claim7.holds Tryz.pinned (.plain (OpenSpec.ofChange urlReadsSpec)) urlReadsCard

/-- THE TIED CARD OF 'waybilllaw14.UrlJoins'. -/
def urlJoinsCard : Claim7 := { stood := { row := urlJoinsRow, standIns := [], harness := (true, "896fbafae1e1ffe8ce25a78a166a1b4298c1145fcf5f2ccfcdb0a39748b06265"), looks := true }, kinds := [], alts := [], laidByText := true, laidKinds := [.data, .handle, .data, .pinned], laidTests := true, laidLooks := .later }
def UrlJoinsCardSaid : Prop := Claim7.holds Tryz.pinned (.plain (OpenSpec.ofChange urlJoinsSpec)) urlJoinsCard

/-- THE TIED CARD OF 'waybilllaw24.FilterMatches'. -/
def filterMatchesCard : Claim7 := { stood := { row := filterMatchesRow, standIns := [], harness := (true, "896fbafae1e1ffe8ce25a78a166a1b4298c1145fcf5f2ccfcdb0a39748b06265"), looks := true }, kinds := [], alts := [], laidByText := true, laidKinds := [.data, .handle, .data, .pinned], laidTests := true, laidLooks := .later }
def FilterMatchesCardSaid : Prop := Claim7.holds Tryz.pinned (.plain (OpenSpec.ofChange filterMatchesSpec)) filterMatchesCard

/-- THE TIED CARD OF 'waybilllaw24.FilterWider'. -/
def filterWiderCard : Claim7 := { stood := { row := filterWiderRow, standIns := [], harness := (true, "896fbafae1e1ffe8ce25a78a166a1b4298c1145fcf5f2ccfcdb0a39748b06265"), looks := true }, kinds := [], alts := [], laidByText := true, laidKinds := [.data, .handle, .data, .pinned], laidTests := true, laidLooks := .later }
def FilterWiderCardSaid : Prop := Claim7.holds Tryz.pinned (.plain (OpenSpec.ofChange filterWiderSpec)) filterWiderCard

/-- THE TIED CARD OF 'waybilllaw24.FilterExact'. -/
def filterExactCard : Claim7 := { stood := { row := filterExactRow, standIns := [], harness := (true, "896fbafae1e1ffe8ce25a78a166a1b4298c1145fcf5f2ccfcdb0a39748b06265"), looks := true }, kinds := [], alts := [], laidByText := true, laidKinds := [.data, .handle, .data, .pinned], laidTests := true, laidLooks := .later }
def FilterExactCardSaid : Prop := Claim7.holds Tryz.pinned (.plain (OpenSpec.ofChange filterExactSpec)) filterExactCard

/-- THE TIED CARD OF 'waybilllaw24.FilterClaims'. -/
def filterClaimsCard : Claim7 := { stood := { row := filterClaimsRow, standIns := [], harness := (true, "896fbafae1e1ffe8ce25a78a166a1b4298c1145fcf5f2ccfcdb0a39748b06265"), looks := true }, kinds := [], alts := [], laidByText := true, laidKinds := [.data, .handle, .data, .pinned], laidTests := true, laidLooks := .later }
def FilterClaimsCardSaid : Prop := Claim7.holds Tryz.pinned (.plain (OpenSpec.ofChange filterClaimsSpec)) filterClaimsCard

/-- THE TIED CARD OF 'waybilllaw24.FilterChecks'. -/
def filterChecksCard : Claim7 := { stood := { row := filterChecksRow, standIns := [], harness := (true, "896fbafae1e1ffe8ce25a78a166a1b4298c1145fcf5f2ccfcdb0a39748b06265"), looks := true }, kinds := [], alts := [], laidByText := true, laidKinds := [.data, .handle, .data, .pinned], laidTests := true, laidLooks := .later }
def FilterChecksCardSaid : Prop := Claim7.holds Tryz.pinned (.plain (OpenSpec.ofChange filterChecksSpec)) filterChecksCard

/-- THE TIED CARD OF 'waybilllaw25.AppsKeep'. -/
def appsKeepCard : Claim7 := { stood := { row := appsKeepRow, standIns := [], harness := (true, "896fbafae1e1ffe8ce25a78a166a1b4298c1145fcf5f2ccfcdb0a39748b06265"), looks := true }, kinds := [], alts := [], laidByText := true, laidKinds := [.data, .handle, .data, .pinned], laidTests := true, laidLooks := .later }
def AppsKeepCardSaid : Prop := Claim7.holds Tryz.pinned (.plain (OpenSpec.ofChange appsKeepSpec)) appsKeepCard

/-- THE TIED CARD OF 'waybilllaw25.AppsOrder'. -/
def appsOrderCard : Claim7 := { stood := { row := appsOrderRow, standIns := [], harness := (true, "896fbafae1e1ffe8ce25a78a166a1b4298c1145fcf5f2ccfcdb0a39748b06265"), looks := true }, kinds := [], alts := [], laidByText := true, laidKinds := [.data, .handle, .data, .pinned], laidTests := true, laidLooks := .later }
def AppsOrderCardSaid : Prop := Claim7.holds Tryz.pinned (.plain (OpenSpec.ofChange appsOrderSpec)) appsOrderCard

/-- THE TIED CARD OF 'waybilllaw25.AppsChecks'. -/
def appsChecksCard : Claim7 := { stood := { row := appsChecksRow, standIns := [], harness := (true, "896fbafae1e1ffe8ce25a78a166a1b4298c1145fcf5f2ccfcdb0a39748b06265"), looks := true }, kinds := [], alts := [], laidByText := true, laidKinds := [.data, .handle, .data, .pinned], laidTests := true, laidLooks := .later }
def AppsChecksCardSaid : Prop := Claim7.holds Tryz.pinned (.plain (OpenSpec.ofChange appsChecksSpec)) appsChecksCard

/-- THE SECOND FORM's CARD OF 'waybilllaw14.UrlReads'. -/
def urlReadsUptoCard : Claim7 := { stood := { row := urlReadsUptoRow, standIns := [], harness := (true, "896fbafae1e1ffe8ce25a78a166a1b4298c1145fcf5f2ccfcdb0a39748b06265"), looks := true }, kinds := [], alts := [], laidByText := true, laidKinds := [.data, .handle, .data, .pinned], laidTests := true, laidLooks := .later }
def UrlReadsUptoCardSaid : Prop := Claim7.holds Tryz.pinned (.plain (OpenSpec.upto urlReadsSpec)) urlReadsUptoCard

/-- THE SECOND FORM's CARD OF 'waybilllaw14.UrlJoins'. -/
def urlJoinsUptoCard : Claim7 := { stood := { row := urlJoinsUptoRow, standIns := [], harness := (true, "896fbafae1e1ffe8ce25a78a166a1b4298c1145fcf5f2ccfcdb0a39748b06265"), looks := true }, kinds := [], alts := [], laidByText := true, laidKinds := [.data, .handle, .data, .pinned], laidTests := true, laidLooks := .later }
def UrlJoinsUptoCardSaid : Prop := Claim7.holds Tryz.pinned (.plain (OpenSpec.upto urlJoinsSpec)) urlJoinsUptoCard

/-- THE SECOND FORM's CARD OF 'waybilllaw24.FilterMatches'. -/
def filterMatchesUptoCard : Claim7 := { stood := { row := filterMatchesUptoRow, standIns := [], harness := (true, "896fbafae1e1ffe8ce25a78a166a1b4298c1145fcf5f2ccfcdb0a39748b06265"), looks := true }, kinds := [], alts := [], laidByText := true, laidKinds := [.data, .handle, .data, .pinned], laidTests := true, laidLooks := .later }
def FilterMatchesUptoCardSaid : Prop := Claim7.holds Tryz.pinned (.plain (OpenSpec.upto filterMatchesSpec)) filterMatchesUptoCard

/-- THE SECOND FORM's CARD OF 'waybilllaw24.FilterWider'. -/
def filterWiderUptoCard : Claim7 := { stood := { row := filterWiderUptoRow, standIns := [], harness := (true, "896fbafae1e1ffe8ce25a78a166a1b4298c1145fcf5f2ccfcdb0a39748b06265"), looks := true }, kinds := [], alts := [], laidByText := true, laidKinds := [.data, .handle, .data, .pinned], laidTests := true, laidLooks := .later }
def FilterWiderUptoCardSaid : Prop := Claim7.holds Tryz.pinned (.plain (OpenSpec.upto filterWiderSpec)) filterWiderUptoCard

/-- THE SECOND FORM's CARD OF 'waybilllaw24.FilterExact'. -/
def filterExactUptoCard : Claim7 := { stood := { row := filterExactUptoRow, standIns := [], harness := (true, "896fbafae1e1ffe8ce25a78a166a1b4298c1145fcf5f2ccfcdb0a39748b06265"), looks := true }, kinds := [], alts := [], laidByText := true, laidKinds := [.data, .handle, .data, .pinned], laidTests := true, laidLooks := .later }
def FilterExactUptoCardSaid : Prop := Claim7.holds Tryz.pinned (.plain (OpenSpec.upto filterExactSpec)) filterExactUptoCard

/-- THE SECOND FORM's CARD OF 'waybilllaw24.FilterClaims'. -/
def filterClaimsUptoCard : Claim7 := { stood := { row := filterClaimsUptoRow, standIns := [], harness := (true, "896fbafae1e1ffe8ce25a78a166a1b4298c1145fcf5f2ccfcdb0a39748b06265"), looks := true }, kinds := [], alts := [], laidByText := true, laidKinds := [.data, .handle, .data, .pinned], laidTests := true, laidLooks := .later }
def FilterClaimsUptoCardSaid : Prop := Claim7.holds Tryz.pinned (.plain (OpenSpec.upto filterClaimsSpec)) filterClaimsUptoCard

/-- THE SECOND FORM's CARD OF 'waybilllaw24.FilterChecks'. -/
def filterChecksUptoCard : Claim7 := { stood := { row := filterChecksUptoRow, standIns := [], harness := (true, "896fbafae1e1ffe8ce25a78a166a1b4298c1145fcf5f2ccfcdb0a39748b06265"), looks := true }, kinds := [], alts := [], laidByText := true, laidKinds := [.data, .handle, .data, .pinned], laidTests := true, laidLooks := .later }
def FilterChecksUptoCardSaid : Prop := Claim7.holds Tryz.pinned (.plain (OpenSpec.upto filterChecksSpec)) filterChecksUptoCard

/-- THE SECOND FORM's CARD OF 'waybilllaw25.AppsKeep'. -/
def appsKeepUptoCard : Claim7 := { stood := { row := appsKeepUptoRow, standIns := [], harness := (true, "896fbafae1e1ffe8ce25a78a166a1b4298c1145fcf5f2ccfcdb0a39748b06265"), looks := true }, kinds := [], alts := [], laidByText := true, laidKinds := [.data, .handle, .data, .pinned], laidTests := true, laidLooks := .later }
def AppsKeepUptoCardSaid : Prop := Claim7.holds Tryz.pinned (.plain (OpenSpec.upto appsKeepSpec)) appsKeepUptoCard

/-- THE SECOND FORM's CARD OF 'waybilllaw25.AppsOrder'. -/
def appsOrderUptoCard : Claim7 := { stood := { row := appsOrderUptoRow, standIns := [], harness := (true, "896fbafae1e1ffe8ce25a78a166a1b4298c1145fcf5f2ccfcdb0a39748b06265"), looks := true }, kinds := [], alts := [], laidByText := true, laidKinds := [.data, .handle, .data, .pinned], laidTests := true, laidLooks := .later }
def AppsOrderUptoCardSaid : Prop := Claim7.holds Tryz.pinned (.plain (OpenSpec.upto appsOrderSpec)) appsOrderUptoCard

/-- THE SECOND FORM's CARD OF 'waybilllaw25.AppsChecks'. -/
def appsChecksUptoCard : Claim7 := { stood := { row := appsChecksUptoRow, standIns := [], harness := (true, "896fbafae1e1ffe8ce25a78a166a1b4298c1145fcf5f2ccfcdb0a39748b06265"), looks := true }, kinds := [], alts := [], laidByText := true, laidKinds := [.data, .handle, .data, .pinned], laidTests := true, laidLooks := .later }
def AppsChecksUptoCardSaid : Prop := Claim7.holds Tryz.pinned (.plain (OpenSpec.upto appsChecksSpec)) appsChecksUptoCard
end Rows
end Go.Proofs.YtahbpehdjbmndaaGreatDoor
