/-
  DERIVED. GIVEN WITH THE SEED: THE CARDS: each row of YtdogmcpmlglkfaaDoorRows.lean that lists a variable, with what it lists TIED to the program's text (the seventh form; the later family's looks); each row that meets fmt, with fmt's text TOLD by the authors' own Lean function (tested against real Go, not proved from fmt's source: count such statements apart). THE CARD IS WHAT COUNTS. Prove the row's statement (the work); the ties are given (YtdogmcpmlglkfaaDoorTie.lean); close each card by the builder's one call (the guide's Derived/Test/ToyasCard.lean, 'card_holds'). Laid BY PROGRAM, IN A SANDBOX (cutbox-door.mjs). By AI agents, Wed Nov 11 2026. No macro, syntax, notation, axiom, sorry.
-/
import Derived.Test.YtdogmcpmlglkfaaDoorRows
import GoSem.ClaimSeven
namespace Go.Proofs.YtdogmcpmlglkfaaDoor
namespace Rows

/-- THE TIED CARD OF 'palaverlaw11.StoreOpens'. -/
def storeOpensCard : Claim7 := { stood := { row := storeOpensRow, standIns := [], harness := (true, "a5c72920e2d8d871e44f861bacea2d9b9941351a971a0a9d7a99f6218acb976c"), looks := false }, kinds := [], alts := [], laidByText := true, laidKinds := [.data, .data, .data], laidTests := true, laidLooks := .later }
def StoreOpensCardSaid : Prop := Claim7.holds Tryd.pinned (.plain (OpenSpec.ofChange storeOpensSpec)) storeOpensCard

/-- THE TIED CARD OF 'palaverlaw11.StorePlays'. -/
def storePlaysCard : Claim7 := { stood := { row := storePlaysRow, standIns := [], harness := (true, "a5c72920e2d8d871e44f861bacea2d9b9941351a971a0a9d7a99f6218acb976c"), looks := false }, kinds := [], alts := [], laidByText := true, laidKinds := [.data, .data, .data], laidTests := true, laidLooks := .later }
def StorePlaysCardSaid : Prop := Claim7.holds Tryd.pinned (.plain (OpenSpec.ofChange storePlaysSpec)) storePlaysCard

/-- THE TIED CARD OF 'palaverlaw11.StoreOwn'. -/
def storeOwnCard : Claim7 := { stood := { row := storeOwnRow, standIns := [], harness := (true, "a5c72920e2d8d871e44f861bacea2d9b9941351a971a0a9d7a99f6218acb976c"), looks := false }, kinds := [], alts := [], laidByText := true, laidKinds := [.data, .data, .data], laidTests := true, laidLooks := .later }
def StoreOwnCardSaid : Prop := Claim7.holds Tryd.pinned (.plain (OpenSpec.ofChange storeOwnSpec)) storeOwnCard

/-- THE TIED CARD OF 'palaverlaw11.StoreNone'. -/
def storeNoneCard : Claim7 := { stood := { row := storeNoneRow, standIns := [], harness := (true, "a5c72920e2d8d871e44f861bacea2d9b9941351a971a0a9d7a99f6218acb976c"), looks := false }, kinds := [], alts := [], laidByText := true, laidKinds := [.data, .data, .data], laidTests := true, laidLooks := .later }
def StoreNoneCardSaid : Prop := Claim7.holds Tryd.pinned (.plain (OpenSpec.ofChange storeNoneSpec)) storeNoneCard

/-- THE TIED CARD OF 'palaverlaw11.StoreCrashes'. -/
def storeCrashesCard : Claim7 := { stood := { row := storeCrashesRow, standIns := [], harness := (true, "a5c72920e2d8d871e44f861bacea2d9b9941351a971a0a9d7a99f6218acb976c"), looks := false }, kinds := [], alts := [], laidByText := true, laidKinds := [.data, .data, .data], laidTests := true, laidLooks := .later }
def StoreCrashesCardSaid : Prop := Claim7.holds Tryd.pinned (.plain (OpenSpec.ofChange storeCrashesSpec)) storeCrashesCard

/-- THE SECOND FORM's CARD OF 'palaverlaw11.StoreOpens'. -/
def storeOpensUptoCard : Claim7 := { stood := { row := storeOpensUptoRow, standIns := [], harness := (true, "a5c72920e2d8d871e44f861bacea2d9b9941351a971a0a9d7a99f6218acb976c"), looks := false }, kinds := [], alts := [], laidByText := true, laidKinds := [.data, .data, .data], laidTests := true, laidLooks := .later }
def StoreOpensUptoCardSaid : Prop := Claim7.holds Tryd.pinned (.plain (OpenSpec.upto storeOpensSpec)) storeOpensUptoCard

/-- THE SECOND FORM's CARD OF 'palaverlaw11.StorePlays'. -/
def storePlaysUptoCard : Claim7 := { stood := { row := storePlaysUptoRow, standIns := [], harness := (true, "a5c72920e2d8d871e44f861bacea2d9b9941351a971a0a9d7a99f6218acb976c"), looks := false }, kinds := [], alts := [], laidByText := true, laidKinds := [.data, .data, .data], laidTests := true, laidLooks := .later }
def StorePlaysUptoCardSaid : Prop := Claim7.holds Tryd.pinned (.plain (OpenSpec.upto storePlaysSpec)) storePlaysUptoCard

/-- THE SECOND FORM's CARD OF 'palaverlaw11.StoreOwn'. -/
def storeOwnUptoCard : Claim7 := { stood := { row := storeOwnUptoRow, standIns := [], harness := (true, "a5c72920e2d8d871e44f861bacea2d9b9941351a971a0a9d7a99f6218acb976c"), looks := false }, kinds := [], alts := [], laidByText := true, laidKinds := [.data, .data, .data], laidTests := true, laidLooks := .later }
def StoreOwnUptoCardSaid : Prop := Claim7.holds Tryd.pinned (.plain (OpenSpec.upto storeOwnSpec)) storeOwnUptoCard

/-- THE SECOND FORM's CARD OF 'palaverlaw11.StoreNone'. -/
def storeNoneUptoCard : Claim7 := { stood := { row := storeNoneUptoRow, standIns := [], harness := (true, "a5c72920e2d8d871e44f861bacea2d9b9941351a971a0a9d7a99f6218acb976c"), looks := false }, kinds := [], alts := [], laidByText := true, laidKinds := [.data, .data, .data], laidTests := true, laidLooks := .later }
def StoreNoneUptoCardSaid : Prop := Claim7.holds Tryd.pinned (.plain (OpenSpec.upto storeNoneSpec)) storeNoneUptoCard

/-- THE SECOND FORM's CARD OF 'palaverlaw11.StoreCrashes'. -/
def storeCrashesUptoCard : Claim7 := { stood := { row := storeCrashesUptoRow, standIns := [], harness := (true, "a5c72920e2d8d871e44f861bacea2d9b9941351a971a0a9d7a99f6218acb976c"), looks := false }, kinds := [], alts := [], laidByText := true, laidKinds := [.data, .data, .data], laidTests := true, laidLooks := .later }
def StoreCrashesUptoCardSaid : Prop := Claim7.holds Tryd.pinned (.plain (OpenSpec.upto storeCrashesSpec)) storeCrashesUptoCard
end Rows
end Go.Proofs.YtdogmcpmlglkfaaDoor
