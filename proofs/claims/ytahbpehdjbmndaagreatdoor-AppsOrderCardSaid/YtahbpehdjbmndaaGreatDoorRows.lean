/-
  NARROWER THAN 'FOR EVERY INPUT', by the rows' own cells (each row's printed sentence says how): UrlReads: laid · UrlJoins: laid · FilterMatches: laid · FilterWider: laid · FilterExact: laid · FilterClaims: laid · FilterChecks: laid · AppsKeep: laid · AppsOrder: laid · AppsChecks: laid.
  DERIVED. THE GIVEN ROWS OF THIS SEAT. 10 by the template 'for every input the law returns true; each argument reads behind the call as it read before'; 0 by the template 'total and deterministic' (their statements: YtahbpehdjbmndaaGreatDoorTotals.lean).
  GIVEN WITH THE SEED: the statements are not yours to turn. If you find one false, say at which input.
  Laid BY PROGRAM, IN A SANDBOX (cutbox-rows.mjs): the forced cells as the released guide's own fill.sh prints them over the translation 3eefa7c80886741f… (all of the seat's roots in one cut). By AI agents, Wed Nov 11 2026. No macro, syntax, notation, axiom, sorry.
-/
import Derived.Test.YtahbpehdjbmndaaGreatDoorChecked
import GoSem.PinnedTables
import GoSem.Claim
import GoSem.ClaimJoined
import GoSem.ClaimMapViews
import Derived.JoinedTies
import Derived.KernelRfl
namespace Go.Proofs.YtahbpehdjbmndaaGreatDoor
/- THE CELL 'sum', in the pinned program and in every row, IS THE sha256 OF THE DUMP (.gsa) THAT YtahbpehdjbmndaaGreatDoorProg.lean LOADS. Nothing in Lean hashes anything: it is a label: what it is worth is what the hold of that sum in a sandbox is worth. -/
noncomputable def Tryz.pinned : Pinned := { name := "ytahbpehdjbmndaagreatdoor", sum := "3eefa7c80886741ff73d36f3a798cf5033de487e46a13ba4957569c75e7058c0", checked := Tryz.checked }
namespace Rows
def none {H : Type} : Left H := { results := [], args := [] }

/- WHAT THE LISTED PACKAGE-LEVEL VARIABLES READ AS WHEN THE CALL BEGINS. Each datum BY PROGRAM (the guide's laid-datum.mjs) off the statement by which the dump's own 'gosem.cut.vars' lays the variable. In a bare row this is a premise. The card (YtahbpehdjbmndaaGreatDoorCards.lean) ties it to the program's text. -/
def laid_unicode_utf8_acceptRanges {H : Type} : DataW H := .agg [.agg [.lit (.int .u8 128), .lit (.int .u8 191)], .agg [.lit (.int .u8 160), .lit (.int .u8 191)], .agg [.lit (.int .u8 128), .lit (.int .u8 159)], .agg [.lit (.int .u8 144), .lit (.int .u8 191)], .agg [.lit (.int .u8 128), .lit (.int .u8 143)], .agg [.lit (.int .u8 0), .lit (.int .u8 0)], .agg [.lit (.int .u8 0), .lit (.int .u8 0)], .agg [.lit (.int .u8 0), .lit (.int .u8 0)], .agg [.lit (.int .u8 0), .lit (.int .u8 0)], .agg [.lit (.int .u8 0), .lit (.int .u8 0)], .agg [.lit (.int .u8 0), .lit (.int .u8 0)], .agg [.lit (.int .u8 0), .lit (.int .u8 0)], .agg [.lit (.int .u8 0), .lit (.int .u8 0)], .agg [.lit (.int .u8 0), .lit (.int .u8 0)], .agg [.lit (.int .u8 0), .lit (.int .u8 0)], .agg [.lit (.int .u8 0), .lit (.int .u8 0)]]
def laid_errors_errorType {H : Type} : DataW H := .iface "internal/reflectlite.rtype" (.agg [.ptr (.lit (.string [101, 114, 114, 111, 114]))])
def laid_waybill_label_allowed {H : Type} : DataW H := .agg [.agg [.lit (.int .i64 223), .lit (.int .i64 246)], .agg [.lit (.int .i64 248), .lit (.int .i64 8191)], .agg [.lit (.int .i64 11264), .lit (.int .i64 12287)], .agg [.lit (.int .i64 12293), .lit (.int .i64 55295)], .agg [.lit (.int .i64 63744), .lit (.int .i64 64975)], .agg [.lit (.int .i64 65008), .lit (.int .i64 65023)], .agg [.lit (.int .i64 65536), .lit (.int .i64 262143)]]
/-- One of Go's own tables, pinned by name: the form's constant. -/
def laid_unicode_utf8_first : DataW Unit := Go.Pinned.utf8First

/-- 'waybilllaw14.UrlReads': WHATEVER THE INPUT: true; the input reads as it did. -/
def urlReadsSpec : ChangeSpec := { name := "urlReads", fn := fun _ => fun
  | [d] => { results := [.lit (.bool true)], args := [d] }
  | _ => none }
def urlReadsRow : OpenClaim := { program := "ytahbpehdjbmndaagreatdoor", sum := "3eefa7c80886741ff73d36f3a798cf5033de487e46a13ba4957569c75e7058c0", func := "waybill/waybilllaw14.UrlReads", spec := "urlReads", inPlace := ["internal/bytealg.IndexByteString", "internal/bytealg.IndexString", "internal/reflectlite.ValueOf", "(internal/reflectlite.Value).Type", "(internal/reflectlite.Value).IsNil", "internal/reflectlite.TypeOf", "(internal/reflectlite.Value).Elem", "(internal/reflectlite.Value).Set", "internal/bytealg.CountString", "math/bits.Add64", "internal/abi.NoEscape", "internal/bytealg.MakeNoZero", "slices.overlaps[int]"], unfollowed := true, recurses := true, named := ["unicode/utf8.first", "unicode/utf8.acceptRanges", "internal/bytealg.MaxLen", "errors.errorType", "waybill/label.allowed"], apart := false, laid := [("unicode/utf8.acceptRanges", laid_unicode_utf8_acceptRanges), ("errors.errorType", laid_errors_errorType), ("waybill/label.allowed", laid_waybill_label_allowed), ("unicode/utf8.first", laid_unicode_utf8_first)] }
def UrlReadsSaid : Prop := urlReadsRow.holds Tryz.pinned (OpenSpec.ofChange urlReadsSpec)

/-- ITS FALSE NEIGHBOUR: 'it returns false'. Refute it at one input. -/
def urlReadsWrong : ChangeSpec := { name := "urlReads", fn := fun _ => fun
  | [d] => { results := [.lit (.bool false)], args := [d] }
  | _ => none }
def UrlReadsWrongFalsely : Prop := urlReadsRow.holds Tryz.pinned (OpenSpec.ofChange urlReadsWrong)

/-- 'waybilllaw14.UrlJoins': WHATEVER THE INPUT: true; the input reads as it did. -/
def urlJoinsSpec : ChangeSpec := { name := "urlJoins", fn := fun _ => fun
  | [d1, d2] => { results := [.lit (.bool true)], args := [d1, d2] }
  | _ => none }
def urlJoinsRow : OpenClaim := { program := "ytahbpehdjbmndaagreatdoor", sum := "3eefa7c80886741ff73d36f3a798cf5033de487e46a13ba4957569c75e7058c0", func := "waybill/waybilllaw14.UrlJoins", spec := "urlJoins", inPlace := ["internal/bytealg.IndexByteString", "internal/bytealg.IndexString", "internal/reflectlite.ValueOf", "(internal/reflectlite.Value).Type", "(internal/reflectlite.Value).IsNil", "internal/reflectlite.TypeOf", "(internal/reflectlite.Value).Elem", "(internal/reflectlite.Value).Set", "internal/bytealg.CountString", "math/bits.Add64", "internal/abi.NoEscape", "internal/bytealg.MakeNoZero", "slices.overlaps[int]"], unfollowed := true, recurses := true, named := ["unicode/utf8.first", "unicode/utf8.acceptRanges", "internal/bytealg.MaxLen", "errors.errorType", "waybill/label.allowed"], apart := false, laid := [("unicode/utf8.acceptRanges", laid_unicode_utf8_acceptRanges), ("errors.errorType", laid_errors_errorType), ("waybill/label.allowed", laid_waybill_label_allowed), ("unicode/utf8.first", laid_unicode_utf8_first)] }
def UrlJoinsSaid : Prop := urlJoinsRow.holds Tryz.pinned (OpenSpec.ofChange urlJoinsSpec)

/-- ITS FALSE NEIGHBOUR: 'it returns false'. Refute it at one input. -/
def urlJoinsWrong : ChangeSpec := { name := "urlJoins", fn := fun _ => fun
  | [d1, d2] => { results := [.lit (.bool false)], args := [d1, d2] }
  | _ => none }
def UrlJoinsWrongFalsely : Prop := urlJoinsRow.holds Tryz.pinned (OpenSpec.ofChange urlJoinsWrong)

/-- 'waybilllaw24.FilterMatches': WHATEVER THE INPUT: true; the input reads as it did. -/
def filterMatchesSpec : ChangeSpec := { name := "filterMatches", fn := fun _ => fun
  | [d1, d2] => { results := [.lit (.bool true)], args := [d1, d2] }
  | _ => none }
def filterMatchesRow : OpenClaim := { program := "ytahbpehdjbmndaagreatdoor", sum := "3eefa7c80886741ff73d36f3a798cf5033de487e46a13ba4957569c75e7058c0", func := "waybill/waybilllaw24.FilterMatches", spec := "filterMatches", inPlace := ["internal/bytealg.IndexByteString", "internal/bytealg.IndexString", "internal/bytealg.CountString", "math/bits.Add64", "internal/reflectlite.ValueOf", "(internal/reflectlite.Value).Type", "(internal/reflectlite.Value).IsNil", "internal/reflectlite.TypeOf", "(internal/reflectlite.Value).Elem", "(internal/reflectlite.Value).Set", "internal/abi.NoEscape", "internal/bytealg.MakeNoZero", "slices.overlaps[int]"], unfollowed := true, recurses := true, named := ["internal/bytealg.MaxLen", "unicode/utf8.first", "unicode/utf8.acceptRanges", "errors.errorType", "waybill/label.allowed"], apart := false, laid := [("unicode/utf8.acceptRanges", laid_unicode_utf8_acceptRanges), ("errors.errorType", laid_errors_errorType), ("waybill/label.allowed", laid_waybill_label_allowed), ("unicode/utf8.first", laid_unicode_utf8_first)] }
def FilterMatchesSaid : Prop := filterMatchesRow.holds Tryz.pinned (OpenSpec.ofChange filterMatchesSpec)

/-- ITS FALSE NEIGHBOUR: 'it returns false'. Refute it at one input. -/
def filterMatchesWrong : ChangeSpec := { name := "filterMatches", fn := fun _ => fun
  | [d1, d2] => { results := [.lit (.bool false)], args := [d1, d2] }
  | _ => none }
def FilterMatchesWrongFalsely : Prop := filterMatchesRow.holds Tryz.pinned (OpenSpec.ofChange filterMatchesWrong)

/-- 'waybilllaw24.FilterWider': WHATEVER THE INPUT: true; the input reads as it did. -/
def filterWiderSpec : ChangeSpec := { name := "filterWider", fn := fun _ => fun
  | [d1, d2, d3, d4, d5] => { results := [.lit (.bool true)], args := [d1, d2, d3, d4, d5] }
  | _ => none }
def filterWiderRow : OpenClaim := { program := "ytahbpehdjbmndaagreatdoor", sum := "3eefa7c80886741ff73d36f3a798cf5033de487e46a13ba4957569c75e7058c0", func := "waybill/waybilllaw24.FilterWider", spec := "filterWider", inPlace := ["internal/bytealg.IndexByteString", "internal/bytealg.IndexString", "internal/bytealg.CountString", "math/bits.Add64", "internal/reflectlite.ValueOf", "(internal/reflectlite.Value).Type", "(internal/reflectlite.Value).IsNil", "internal/reflectlite.TypeOf", "(internal/reflectlite.Value).Elem", "(internal/reflectlite.Value).Set", "internal/abi.NoEscape", "internal/bytealg.MakeNoZero", "slices.overlaps[int]"], unfollowed := true, recurses := true, named := ["internal/bytealg.MaxLen", "unicode/utf8.first", "unicode/utf8.acceptRanges", "errors.errorType", "waybill/label.allowed"], apart := false, laid := [("unicode/utf8.acceptRanges", laid_unicode_utf8_acceptRanges), ("errors.errorType", laid_errors_errorType), ("waybill/label.allowed", laid_waybill_label_allowed), ("unicode/utf8.first", laid_unicode_utf8_first)] }
def FilterWiderSaid : Prop := filterWiderRow.holds Tryz.pinned (OpenSpec.ofChange filterWiderSpec)

/-- ITS FALSE NEIGHBOUR: 'it returns false'. Refute it at one input. -/
def filterWiderWrong : ChangeSpec := { name := "filterWider", fn := fun _ => fun
  | [d1, d2, d3, d4, d5] => { results := [.lit (.bool false)], args := [d1, d2, d3, d4, d5] }
  | _ => none }
def FilterWiderWrongFalsely : Prop := filterWiderRow.holds Tryz.pinned (OpenSpec.ofChange filterWiderWrong)

/-- 'waybilllaw24.FilterExact': WHATEVER THE INPUT: true; the input reads as it did. -/
def filterExactSpec : ChangeSpec := { name := "filterExact", fn := fun _ => fun
  | [d1, d2, d3, d4] => { results := [.lit (.bool true)], args := [d1, d2, d3, d4] }
  | _ => none }
def filterExactRow : OpenClaim := { program := "ytahbpehdjbmndaagreatdoor", sum := "3eefa7c80886741ff73d36f3a798cf5033de487e46a13ba4957569c75e7058c0", func := "waybill/waybilllaw24.FilterExact", spec := "filterExact", inPlace := ["internal/bytealg.IndexByteString", "internal/bytealg.IndexString", "internal/bytealg.CountString", "math/bits.Add64", "internal/reflectlite.ValueOf", "(internal/reflectlite.Value).Type", "(internal/reflectlite.Value).IsNil", "internal/reflectlite.TypeOf", "(internal/reflectlite.Value).Elem", "(internal/reflectlite.Value).Set", "internal/abi.NoEscape", "internal/bytealg.MakeNoZero", "slices.overlaps[int]"], unfollowed := true, recurses := true, named := ["internal/bytealg.MaxLen", "unicode/utf8.first", "unicode/utf8.acceptRanges", "errors.errorType", "waybill/label.allowed"], apart := false, laid := [("unicode/utf8.acceptRanges", laid_unicode_utf8_acceptRanges), ("errors.errorType", laid_errors_errorType), ("waybill/label.allowed", laid_waybill_label_allowed), ("unicode/utf8.first", laid_unicode_utf8_first)] }
def FilterExactSaid : Prop := filterExactRow.holds Tryz.pinned (OpenSpec.ofChange filterExactSpec)

/-- ITS FALSE NEIGHBOUR: 'it returns false'. Refute it at one input. -/
def filterExactWrong : ChangeSpec := { name := "filterExact", fn := fun _ => fun
  | [d1, d2, d3, d4] => { results := [.lit (.bool false)], args := [d1, d2, d3, d4] }
  | _ => none }
def FilterExactWrongFalsely : Prop := filterExactRow.holds Tryz.pinned (OpenSpec.ofChange filterExactWrong)

/-- 'waybilllaw24.FilterClaims': WHATEVER THE INPUT: true; the input reads as it did. -/
def filterClaimsSpec : ChangeSpec := { name := "filterClaims", fn := fun _ => fun
  | [d1, d2] => { results := [.lit (.bool true)], args := [d1, d2] }
  | _ => none }
def filterClaimsRow : OpenClaim := { program := "ytahbpehdjbmndaagreatdoor", sum := "3eefa7c80886741ff73d36f3a798cf5033de487e46a13ba4957569c75e7058c0", func := "waybill/waybilllaw24.FilterClaims", spec := "filterClaims", inPlace := ["internal/bytealg.IndexByteString", "internal/bytealg.IndexString", "internal/bytealg.CountString", "math/bits.Add64", "internal/reflectlite.ValueOf", "(internal/reflectlite.Value).Type", "(internal/reflectlite.Value).IsNil", "internal/reflectlite.TypeOf", "(internal/reflectlite.Value).Elem", "(internal/reflectlite.Value).Set", "internal/abi.NoEscape", "internal/bytealg.MakeNoZero", "slices.overlaps[int]"], unfollowed := true, recurses := true, named := ["internal/bytealg.MaxLen", "unicode/utf8.first", "unicode/utf8.acceptRanges", "errors.errorType", "waybill/label.allowed"], apart := false, laid := [("unicode/utf8.acceptRanges", laid_unicode_utf8_acceptRanges), ("errors.errorType", laid_errors_errorType), ("waybill/label.allowed", laid_waybill_label_allowed), ("unicode/utf8.first", laid_unicode_utf8_first)] }
def FilterClaimsSaid : Prop := filterClaimsRow.holds Tryz.pinned (OpenSpec.ofChange filterClaimsSpec)

/-- ITS FALSE NEIGHBOUR: 'it returns false'. Refute it at one input. -/
def filterClaimsWrong : ChangeSpec := { name := "filterClaims", fn := fun _ => fun
  | [d1, d2] => { results := [.lit (.bool false)], args := [d1, d2] }
  | _ => none }
def FilterClaimsWrongFalsely : Prop := filterClaimsRow.holds Tryz.pinned (OpenSpec.ofChange filterClaimsWrong)

/-- 'waybilllaw24.FilterChecks': WHATEVER THE INPUT: true; the input reads as it did. -/
def filterChecksSpec : ChangeSpec := { name := "filterChecks", fn := fun _ => fun
  | [d] => { results := [.lit (.bool true)], args := [d] }
  | _ => none }
def filterChecksRow : OpenClaim := { program := "ytahbpehdjbmndaagreatdoor", sum := "3eefa7c80886741ff73d36f3a798cf5033de487e46a13ba4957569c75e7058c0", func := "waybill/waybilllaw24.FilterChecks", spec := "filterChecks", inPlace := ["internal/bytealg.IndexByteString", "internal/bytealg.IndexString", "internal/bytealg.CountString", "math/bits.Add64", "internal/reflectlite.ValueOf", "(internal/reflectlite.Value).Type", "(internal/reflectlite.Value).IsNil", "internal/reflectlite.TypeOf", "(internal/reflectlite.Value).Elem", "(internal/reflectlite.Value).Set", "internal/abi.NoEscape", "internal/bytealg.MakeNoZero", "slices.overlaps[int]"], unfollowed := true, recurses := true, named := ["internal/bytealg.MaxLen", "unicode/utf8.first", "unicode/utf8.acceptRanges", "errors.errorType", "waybill/label.allowed"], apart := false, laid := [("unicode/utf8.acceptRanges", laid_unicode_utf8_acceptRanges), ("errors.errorType", laid_errors_errorType), ("waybill/label.allowed", laid_waybill_label_allowed), ("unicode/utf8.first", laid_unicode_utf8_first)] }
def FilterChecksSaid : Prop := filterChecksRow.holds Tryz.pinned (OpenSpec.ofChange filterChecksSpec)

/-- ITS FALSE NEIGHBOUR: 'it returns false'. Refute it at one input. -/
def filterChecksWrong : ChangeSpec := { name := "filterChecks", fn := fun _ => fun
  | [d] => { results := [.lit (.bool false)], args := [d] }
  | _ => none }
def FilterChecksWrongFalsely : Prop := filterChecksRow.holds Tryz.pinned (OpenSpec.ofChange filterChecksWrong)

/-- 'waybilllaw25.AppsKeep': WHATEVER THE INPUT: true; the input reads as it did. -/
def appsKeepSpec : ChangeSpec := { name := "appsKeep", fn := fun _ => fun
  | [d] => { results := [.lit (.bool true)], args := [d] }
  | _ => none }
def appsKeepRow : OpenClaim := { program := "ytahbpehdjbmndaagreatdoor", sum := "3eefa7c80886741ff73d36f3a798cf5033de487e46a13ba4957569c75e7058c0", func := "waybill/waybilllaw25.AppsKeep", spec := "appsKeep", inPlace := ["internal/bytealg.IndexByteString", "internal/bytealg.IndexString", "internal/bytealg.CountString", "math/bits.Add64", "internal/reflectlite.ValueOf", "(internal/reflectlite.Value).Type", "(internal/reflectlite.Value).IsNil", "internal/reflectlite.TypeOf", "(internal/reflectlite.Value).Elem", "(internal/reflectlite.Value).Set", "internal/abi.NoEscape", "internal/bytealg.MakeNoZero", "slices.overlaps[int]"], unfollowed := true, recurses := true, named := ["unicode/utf8.first", "unicode/utf8.acceptRanges", "internal/bytealg.MaxLen", "errors.errorType", "waybill/label.allowed"], apart := false, laid := [("unicode/utf8.acceptRanges", laid_unicode_utf8_acceptRanges), ("errors.errorType", laid_errors_errorType), ("waybill/label.allowed", laid_waybill_label_allowed), ("unicode/utf8.first", laid_unicode_utf8_first)] }
def AppsKeepSaid : Prop := appsKeepRow.holds Tryz.pinned (OpenSpec.ofChange appsKeepSpec)

/-- ITS FALSE NEIGHBOUR: 'it returns false'. Refute it at one input. -/
def appsKeepWrong : ChangeSpec := { name := "appsKeep", fn := fun _ => fun
  | [d] => { results := [.lit (.bool false)], args := [d] }
  | _ => none }
def AppsKeepWrongFalsely : Prop := appsKeepRow.holds Tryz.pinned (OpenSpec.ofChange appsKeepWrong)

/-- 'waybilllaw25.AppsOrder': WHATEVER THE INPUT: true; the input reads as it did. -/
def appsOrderSpec : ChangeSpec := { name := "appsOrder", fn := fun _ => fun
  | [d1, d2] => { results := [.lit (.bool true)], args := [d1, d2] }
  | _ => none }
def appsOrderRow : OpenClaim := { program := "ytahbpehdjbmndaagreatdoor", sum := "3eefa7c80886741ff73d36f3a798cf5033de487e46a13ba4957569c75e7058c0", func := "waybill/waybilllaw25.AppsOrder", spec := "appsOrder", inPlace := ["internal/bytealg.IndexByteString", "internal/bytealg.IndexString", "internal/bytealg.CountString", "math/bits.Add64", "internal/reflectlite.ValueOf", "(internal/reflectlite.Value).Type", "(internal/reflectlite.Value).IsNil", "internal/reflectlite.TypeOf", "(internal/reflectlite.Value).Elem", "(internal/reflectlite.Value).Set", "internal/abi.NoEscape", "internal/bytealg.MakeNoZero", "slices.overlaps[int]"], unfollowed := true, recurses := true, named := ["unicode/utf8.first", "unicode/utf8.acceptRanges", "internal/bytealg.MaxLen", "errors.errorType", "waybill/label.allowed"], apart := false, laid := [("unicode/utf8.acceptRanges", laid_unicode_utf8_acceptRanges), ("errors.errorType", laid_errors_errorType), ("waybill/label.allowed", laid_waybill_label_allowed), ("unicode/utf8.first", laid_unicode_utf8_first)] }
def AppsOrderSaid : Prop := appsOrderRow.holds Tryz.pinned (OpenSpec.ofChange appsOrderSpec)

/-- ITS FALSE NEIGHBOUR: 'it returns false'. Refute it at one input. -/
def appsOrderWrong : ChangeSpec := { name := "appsOrder", fn := fun _ => fun
  | [d1, d2] => { results := [.lit (.bool false)], args := [d1, d2] }
  | _ => none }
def AppsOrderWrongFalsely : Prop := appsOrderRow.holds Tryz.pinned (OpenSpec.ofChange appsOrderWrong)

/-- 'waybilllaw25.AppsChecks': WHATEVER THE INPUT: true; the input reads as it did. -/
def appsChecksSpec : ChangeSpec := { name := "appsChecks", fn := fun _ => fun
  | [d] => { results := [.lit (.bool true)], args := [d] }
  | _ => none }
def appsChecksRow : OpenClaim := { program := "ytahbpehdjbmndaagreatdoor", sum := "3eefa7c80886741ff73d36f3a798cf5033de487e46a13ba4957569c75e7058c0", func := "waybill/waybilllaw25.AppsChecks", spec := "appsChecks", inPlace := ["internal/bytealg.IndexByteString", "internal/bytealg.IndexString", "internal/bytealg.CountString", "math/bits.Add64", "internal/reflectlite.ValueOf", "(internal/reflectlite.Value).Type", "(internal/reflectlite.Value).IsNil", "internal/reflectlite.TypeOf", "(internal/reflectlite.Value).Elem", "(internal/reflectlite.Value).Set", "internal/abi.NoEscape", "internal/bytealg.MakeNoZero", "slices.overlaps[int]"], unfollowed := true, recurses := true, named := ["unicode/utf8.first", "unicode/utf8.acceptRanges", "internal/bytealg.MaxLen", "errors.errorType", "waybill/label.allowed"], apart := false, laid := [("unicode/utf8.acceptRanges", laid_unicode_utf8_acceptRanges), ("errors.errorType", laid_errors_errorType), ("waybill/label.allowed", laid_waybill_label_allowed), ("unicode/utf8.first", laid_unicode_utf8_first)] }
def AppsChecksSaid : Prop := appsChecksRow.holds Tryz.pinned (OpenSpec.ofChange appsChecksSpec)

/-- ITS FALSE NEIGHBOUR: 'it returns false'. Refute it at one input. -/
def appsChecksWrong : ChangeSpec := { name := "appsChecks", fn := fun _ => fun
  | [d] => { results := [.lit (.bool false)], args := [d] }
  | _ => none }
def AppsChecksWrongFalsely : Prop := appsChecksRow.holds Tryz.pinned (OpenSpec.ofChange appsChecksWrong)

/- THE SECOND FORM. 'bulk': how many values and letters a reading holds, each counted each time it is reached (what is shared counts as often as it is met; a slice's spare places count too). A statement '..UptoSaid' is the law's where the arguments, and the package variables that the reading takes, are together of bulk at most 1048576: NARROWER than '..Said'. Prove '..Said' where nothing that the law and all that it calls make is longer than what came in: it says more and counts as full. Else prove '..UptoSaid'. A law counts once. -/
mutual
def uptoBulk {H : Type} : DataW H → Nat
  | .lit (.string bytes) => bytes.length + 1
  | .lit _ => 1
  | .nil => 1
  | .ptr d => uptoBulk d + 1
  | .slice elems spare => uptoBulkAll elems + uptoBulkAll spare + 1
  | .agg parts => uptoBulkAll parts + 1
  | .iface _ d => uptoBulk d + 1
  | .map entries => uptoBulkEntries entries + 1
  | .held _ => 1
def uptoBulkAll {H : Type} : List (DataW H) → Nat
  | [] => 0
  | d :: r => uptoBulk d + uptoBulkAll r
def uptoBulkEntries {H : Type} : List (Lit × DataW H) → Nat
  | [] => 0
  | x :: r => uptoBulkEntry x + uptoBulkEntries r
def uptoBulkEntry {H : Type} : Lit × DataW H → Nat
  | (.string bytes, d) => bytes.length + uptoBulk d + 1
  | (_, d) => uptoBulk d + 1
 end
def uptoSmall : (H : Type) → List (DataW H) → Bool := fun _ ds => decide (uptoBulkAll ds ≤ 1048576)
def OpenSpec.upto (s : _root_.Go.ChangeSpec) : _root_.Go.OpenSpec := { _root_.Go.OpenSpec.ofChange s with cond := some uptoSmall }

/-- 'waybilllaw14.UrlReads', WHERE WHAT IT READS IS OF BULK AT MOST 1048576: true; the input reads as it did. -/
def urlReadsUptoRow : OpenClaim := { program := "ytahbpehdjbmndaagreatdoor", sum := "3eefa7c80886741ff73d36f3a798cf5033de487e46a13ba4957569c75e7058c0", func := "waybill/waybilllaw14.UrlReads", spec := "urlReads", inPlace := ["internal/bytealg.IndexByteString", "internal/bytealg.IndexString", "internal/reflectlite.ValueOf", "(internal/reflectlite.Value).Type", "(internal/reflectlite.Value).IsNil", "internal/reflectlite.TypeOf", "(internal/reflectlite.Value).Elem", "(internal/reflectlite.Value).Set", "internal/bytealg.CountString", "math/bits.Add64", "internal/abi.NoEscape", "internal/bytealg.MakeNoZero", "slices.overlaps[int]"], unfollowed := true, recurses := true, named := ["unicode/utf8.first", "unicode/utf8.acceptRanges", "internal/bytealg.MaxLen", "errors.errorType", "waybill/label.allowed"], apart := false, laid := [("unicode/utf8.acceptRanges", laid_unicode_utf8_acceptRanges), ("errors.errorType", laid_errors_errorType), ("waybill/label.allowed", laid_waybill_label_allowed), ("unicode/utf8.first", laid_unicode_utf8_first)], narrowed := true }
def UrlReadsUptoSaid : Prop := urlReadsUptoRow.holds Tryz.pinned (OpenSpec.upto urlReadsSpec)

/-- 'waybilllaw14.UrlJoins', WHERE WHAT IT READS IS OF BULK AT MOST 1048576: true; the input reads as it did. -/
def urlJoinsUptoRow : OpenClaim := { program := "ytahbpehdjbmndaagreatdoor", sum := "3eefa7c80886741ff73d36f3a798cf5033de487e46a13ba4957569c75e7058c0", func := "waybill/waybilllaw14.UrlJoins", spec := "urlJoins", inPlace := ["internal/bytealg.IndexByteString", "internal/bytealg.IndexString", "internal/reflectlite.ValueOf", "(internal/reflectlite.Value).Type", "(internal/reflectlite.Value).IsNil", "internal/reflectlite.TypeOf", "(internal/reflectlite.Value).Elem", "(internal/reflectlite.Value).Set", "internal/bytealg.CountString", "math/bits.Add64", "internal/abi.NoEscape", "internal/bytealg.MakeNoZero", "slices.overlaps[int]"], unfollowed := true, recurses := true, named := ["unicode/utf8.first", "unicode/utf8.acceptRanges", "internal/bytealg.MaxLen", "errors.errorType", "waybill/label.allowed"], apart := false, laid := [("unicode/utf8.acceptRanges", laid_unicode_utf8_acceptRanges), ("errors.errorType", laid_errors_errorType), ("waybill/label.allowed", laid_waybill_label_allowed), ("unicode/utf8.first", laid_unicode_utf8_first)], narrowed := true }
def UrlJoinsUptoSaid : Prop := urlJoinsUptoRow.holds Tryz.pinned (OpenSpec.upto urlJoinsSpec)

/-- 'waybilllaw24.FilterMatches', WHERE WHAT IT READS IS OF BULK AT MOST 1048576: true; the input reads as it did. -/
def filterMatchesUptoRow : OpenClaim := { program := "ytahbpehdjbmndaagreatdoor", sum := "3eefa7c80886741ff73d36f3a798cf5033de487e46a13ba4957569c75e7058c0", func := "waybill/waybilllaw24.FilterMatches", spec := "filterMatches", inPlace := ["internal/bytealg.IndexByteString", "internal/bytealg.IndexString", "internal/bytealg.CountString", "math/bits.Add64", "internal/reflectlite.ValueOf", "(internal/reflectlite.Value).Type", "(internal/reflectlite.Value).IsNil", "internal/reflectlite.TypeOf", "(internal/reflectlite.Value).Elem", "(internal/reflectlite.Value).Set", "internal/abi.NoEscape", "internal/bytealg.MakeNoZero", "slices.overlaps[int]"], unfollowed := true, recurses := true, named := ["internal/bytealg.MaxLen", "unicode/utf8.first", "unicode/utf8.acceptRanges", "errors.errorType", "waybill/label.allowed"], apart := false, laid := [("unicode/utf8.acceptRanges", laid_unicode_utf8_acceptRanges), ("errors.errorType", laid_errors_errorType), ("waybill/label.allowed", laid_waybill_label_allowed), ("unicode/utf8.first", laid_unicode_utf8_first)], narrowed := true }
def FilterMatchesUptoSaid : Prop := filterMatchesUptoRow.holds Tryz.pinned (OpenSpec.upto filterMatchesSpec)

/-- 'waybilllaw24.FilterWider', WHERE WHAT IT READS IS OF BULK AT MOST 1048576: true; the input reads as it did. -/
def filterWiderUptoRow : OpenClaim := { program := "ytahbpehdjbmndaagreatdoor", sum := "3eefa7c80886741ff73d36f3a798cf5033de487e46a13ba4957569c75e7058c0", func := "waybill/waybilllaw24.FilterWider", spec := "filterWider", inPlace := ["internal/bytealg.IndexByteString", "internal/bytealg.IndexString", "internal/bytealg.CountString", "math/bits.Add64", "internal/reflectlite.ValueOf", "(internal/reflectlite.Value).Type", "(internal/reflectlite.Value).IsNil", "internal/reflectlite.TypeOf", "(internal/reflectlite.Value).Elem", "(internal/reflectlite.Value).Set", "internal/abi.NoEscape", "internal/bytealg.MakeNoZero", "slices.overlaps[int]"], unfollowed := true, recurses := true, named := ["internal/bytealg.MaxLen", "unicode/utf8.first", "unicode/utf8.acceptRanges", "errors.errorType", "waybill/label.allowed"], apart := false, laid := [("unicode/utf8.acceptRanges", laid_unicode_utf8_acceptRanges), ("errors.errorType", laid_errors_errorType), ("waybill/label.allowed", laid_waybill_label_allowed), ("unicode/utf8.first", laid_unicode_utf8_first)], narrowed := true }
def FilterWiderUptoSaid : Prop := filterWiderUptoRow.holds Tryz.pinned (OpenSpec.upto filterWiderSpec)

/-- 'waybilllaw24.FilterExact', WHERE WHAT IT READS IS OF BULK AT MOST 1048576: true; the input reads as it did. -/
def filterExactUptoRow : OpenClaim := { program := "ytahbpehdjbmndaagreatdoor", sum := "3eefa7c80886741ff73d36f3a798cf5033de487e46a13ba4957569c75e7058c0", func := "waybill/waybilllaw24.FilterExact", spec := "filterExact", inPlace := ["internal/bytealg.IndexByteString", "internal/bytealg.IndexString", "internal/bytealg.CountString", "math/bits.Add64", "internal/reflectlite.ValueOf", "(internal/reflectlite.Value).Type", "(internal/reflectlite.Value).IsNil", "internal/reflectlite.TypeOf", "(internal/reflectlite.Value).Elem", "(internal/reflectlite.Value).Set", "internal/abi.NoEscape", "internal/bytealg.MakeNoZero", "slices.overlaps[int]"], unfollowed := true, recurses := true, named := ["internal/bytealg.MaxLen", "unicode/utf8.first", "unicode/utf8.acceptRanges", "errors.errorType", "waybill/label.allowed"], apart := false, laid := [("unicode/utf8.acceptRanges", laid_unicode_utf8_acceptRanges), ("errors.errorType", laid_errors_errorType), ("waybill/label.allowed", laid_waybill_label_allowed), ("unicode/utf8.first", laid_unicode_utf8_first)], narrowed := true }
def FilterExactUptoSaid : Prop := filterExactUptoRow.holds Tryz.pinned (OpenSpec.upto filterExactSpec)

/-- 'waybilllaw24.FilterClaims', WHERE WHAT IT READS IS OF BULK AT MOST 1048576: true; the input reads as it did. -/
def filterClaimsUptoRow : OpenClaim := { program := "ytahbpehdjbmndaagreatdoor", sum := "3eefa7c80886741ff73d36f3a798cf5033de487e46a13ba4957569c75e7058c0", func := "waybill/waybilllaw24.FilterClaims", spec := "filterClaims", inPlace := ["internal/bytealg.IndexByteString", "internal/bytealg.IndexString", "internal/bytealg.CountString", "math/bits.Add64", "internal/reflectlite.ValueOf", "(internal/reflectlite.Value).Type", "(internal/reflectlite.Value).IsNil", "internal/reflectlite.TypeOf", "(internal/reflectlite.Value).Elem", "(internal/reflectlite.Value).Set", "internal/abi.NoEscape", "internal/bytealg.MakeNoZero", "slices.overlaps[int]"], unfollowed := true, recurses := true, named := ["internal/bytealg.MaxLen", "unicode/utf8.first", "unicode/utf8.acceptRanges", "errors.errorType", "waybill/label.allowed"], apart := false, laid := [("unicode/utf8.acceptRanges", laid_unicode_utf8_acceptRanges), ("errors.errorType", laid_errors_errorType), ("waybill/label.allowed", laid_waybill_label_allowed), ("unicode/utf8.first", laid_unicode_utf8_first)], narrowed := true }
def FilterClaimsUptoSaid : Prop := filterClaimsUptoRow.holds Tryz.pinned (OpenSpec.upto filterClaimsSpec)

/-- 'waybilllaw24.FilterChecks', WHERE WHAT IT READS IS OF BULK AT MOST 1048576: true; the input reads as it did. -/
def filterChecksUptoRow : OpenClaim := { program := "ytahbpehdjbmndaagreatdoor", sum := "3eefa7c80886741ff73d36f3a798cf5033de487e46a13ba4957569c75e7058c0", func := "waybill/waybilllaw24.FilterChecks", spec := "filterChecks", inPlace := ["internal/bytealg.IndexByteString", "internal/bytealg.IndexString", "internal/bytealg.CountString", "math/bits.Add64", "internal/reflectlite.ValueOf", "(internal/reflectlite.Value).Type", "(internal/reflectlite.Value).IsNil", "internal/reflectlite.TypeOf", "(internal/reflectlite.Value).Elem", "(internal/reflectlite.Value).Set", "internal/abi.NoEscape", "internal/bytealg.MakeNoZero", "slices.overlaps[int]"], unfollowed := true, recurses := true, named := ["internal/bytealg.MaxLen", "unicode/utf8.first", "unicode/utf8.acceptRanges", "errors.errorType", "waybill/label.allowed"], apart := false, laid := [("unicode/utf8.acceptRanges", laid_unicode_utf8_acceptRanges), ("errors.errorType", laid_errors_errorType), ("waybill/label.allowed", laid_waybill_label_allowed), ("unicode/utf8.first", laid_unicode_utf8_first)], narrowed := true }
def FilterChecksUptoSaid : Prop := filterChecksUptoRow.holds Tryz.pinned (OpenSpec.upto filterChecksSpec)

/-- 'waybilllaw25.AppsKeep', WHERE WHAT IT READS IS OF BULK AT MOST 1048576: true; the input reads as it did. -/
def appsKeepUptoRow : OpenClaim := { program := "ytahbpehdjbmndaagreatdoor", sum := "3eefa7c80886741ff73d36f3a798cf5033de487e46a13ba4957569c75e7058c0", func := "waybill/waybilllaw25.AppsKeep", spec := "appsKeep", inPlace := ["internal/bytealg.IndexByteString", "internal/bytealg.IndexString", "internal/bytealg.CountString", "math/bits.Add64", "internal/reflectlite.ValueOf", "(internal/reflectlite.Value).Type", "(internal/reflectlite.Value).IsNil", "internal/reflectlite.TypeOf", "(internal/reflectlite.Value).Elem", "(internal/reflectlite.Value).Set", "internal/abi.NoEscape", "internal/bytealg.MakeNoZero", "slices.overlaps[int]"], unfollowed := true, recurses := true, named := ["unicode/utf8.first", "unicode/utf8.acceptRanges", "internal/bytealg.MaxLen", "errors.errorType", "waybill/label.allowed"], apart := false, laid := [("unicode/utf8.acceptRanges", laid_unicode_utf8_acceptRanges), ("errors.errorType", laid_errors_errorType), ("waybill/label.allowed", laid_waybill_label_allowed), ("unicode/utf8.first", laid_unicode_utf8_first)], narrowed := true }
def AppsKeepUptoSaid : Prop := appsKeepUptoRow.holds Tryz.pinned (OpenSpec.upto appsKeepSpec)

/-- 'waybilllaw25.AppsOrder', WHERE WHAT IT READS IS OF BULK AT MOST 1048576: true; the input reads as it did. -/
def appsOrderUptoRow : OpenClaim := { program := "ytahbpehdjbmndaagreatdoor", sum := "3eefa7c80886741ff73d36f3a798cf5033de487e46a13ba4957569c75e7058c0", func := "waybill/waybilllaw25.AppsOrder", spec := "appsOrder", inPlace := ["internal/bytealg.IndexByteString", "internal/bytealg.IndexString", "internal/bytealg.CountString", "math/bits.Add64", "internal/reflectlite.ValueOf", "(internal/reflectlite.Value).Type", "(internal/reflectlite.Value).IsNil", "internal/reflectlite.TypeOf", "(internal/reflectlite.Value).Elem", "(internal/reflectlite.Value).Set", "internal/abi.NoEscape", "internal/bytealg.MakeNoZero", "slices.overlaps[int]"], unfollowed := true, recurses := true, named := ["unicode/utf8.first", "unicode/utf8.acceptRanges", "internal/bytealg.MaxLen", "errors.errorType", "waybill/label.allowed"], apart := false, laid := [("unicode/utf8.acceptRanges", laid_unicode_utf8_acceptRanges), ("errors.errorType", laid_errors_errorType), ("waybill/label.allowed", laid_waybill_label_allowed), ("unicode/utf8.first", laid_unicode_utf8_first)], narrowed := true }
def AppsOrderUptoSaid : Prop := appsOrderUptoRow.holds Tryz.pinned (OpenSpec.upto appsOrderSpec)

/-- 'waybilllaw25.AppsChecks', WHERE WHAT IT READS IS OF BULK AT MOST 1048576: true; the input reads as it did. -/
def appsChecksUptoRow : OpenClaim := { program := "ytahbpehdjbmndaagreatdoor", sum := "3eefa7c80886741ff73d36f3a798cf5033de487e46a13ba4957569c75e7058c0", func := "waybill/waybilllaw25.AppsChecks", spec := "appsChecks", inPlace := ["internal/bytealg.IndexByteString", "internal/bytealg.IndexString", "internal/bytealg.CountString", "math/bits.Add64", "internal/reflectlite.ValueOf", "(internal/reflectlite.Value).Type", "(internal/reflectlite.Value).IsNil", "internal/reflectlite.TypeOf", "(internal/reflectlite.Value).Elem", "(internal/reflectlite.Value).Set", "internal/abi.NoEscape", "internal/bytealg.MakeNoZero", "slices.overlaps[int]"], unfollowed := true, recurses := true, named := ["unicode/utf8.first", "unicode/utf8.acceptRanges", "internal/bytealg.MaxLen", "errors.errorType", "waybill/label.allowed"], apart := false, laid := [("unicode/utf8.acceptRanges", laid_unicode_utf8_acceptRanges), ("errors.errorType", laid_errors_errorType), ("waybill/label.allowed", laid_waybill_label_allowed), ("unicode/utf8.first", laid_unicode_utf8_first)], narrowed := true }
def AppsChecksUptoSaid : Prop := appsChecksUptoRow.holds Tryz.pinned (OpenSpec.upto appsChecksSpec)

end Rows
end Go.Proofs.YtahbpehdjbmndaaGreatDoor
