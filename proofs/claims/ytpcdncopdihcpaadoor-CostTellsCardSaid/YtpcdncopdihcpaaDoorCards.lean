/-
  DERIVED. GIVEN WITH THE SEED: THE CARDS: each row of YtpcdncopdihcpaaDoorRows.lean that lists a variable, with what it lists TIED to the program's text (the seventh form; the later family's looks); each row that meets fmt, with fmt's text TOLD by the authors' own Lean function (tested against real Go, not proved from fmt's source: count such statements apart). THE CARD IS WHAT COUNTS. Prove the row's statement (the work); the ties are given (YtpcdncopdihcpaaDoorTie.lean); close each card by the builder's one call (the guide's Derived/Test/ToyasCard.lean, 'card_holds'). Laid BY PROGRAM, IN A SANDBOX (cutbox-door.mjs). By AI agents, Wed Nov 11 2026. No macro, syntax, notation, axiom, sorry.
-/
import Derived.Test.YtpcdncopdihcpaaDoorRows
import GoSem.ClaimSeven
namespace Go.Proofs.YtpcdncopdihcpaaDoor
namespace Rows

/-- THE TIED CARD OF 'chittylaw15.CostTells'. -/
def costTellsCard : Claim7 := { stood := { row := costTellsRow, standIns := [], harness := (true, "da4cea765f5a5c0a43cbbf27d1943170c1e92cf4000991750597de89cc947fd5"), looks := true }, kinds := [], alts := [], laidByText := true, laidKinds := [.data, .data, .data, .sentinel, .sentinel], laidTests := true, laidLooks := .later }
def CostTellsCardSaid : Prop := Claim7.holds Tryd.pinned (.plain (OpenSpec.ofChange costTellsSpec)) costTellsCard

/-- THE TIED CARD OF 'chittylaw15.CostBack'. -/
def costBackCard : Claim7 := { stood := { row := costBackRow, standIns := [], harness := (true, "da4cea765f5a5c0a43cbbf27d1943170c1e92cf4000991750597de89cc947fd5"), looks := true }, kinds := [], alts := [], laidByText := true, laidKinds := [.data, .data, .data, .sentinel, .sentinel], laidTests := true, laidLooks := .later }
def CostBackCardSaid : Prop := Claim7.holds Tryd.pinned (.plain (OpenSpec.ofChange costBackSpec)) costBackCard

/-- THE TIED CARD OF 'chittylaw13.NetTells'. -/
def netTellsCard : Claim7 := { stood := { row := netTellsRow, standIns := [], harness := (true, "da4cea765f5a5c0a43cbbf27d1943170c1e92cf4000991750597de89cc947fd5"), looks := true }, kinds := [], alts := [], laidByText := true, laidKinds := [.data, .data, .data, .data, .sentinel, .sentinel, .pinned], laidTests := true, laidLooks := .later }
def NetTellsCardSaid : Prop := Claim7.holds Tryd.pinned (.plain (OpenSpec.ofChange netTellsSpec)) netTellsCard

/-- THE TIED CARD OF 'chittylaw13.NetWithin'. -/
def netWithinCard : Claim7 := { stood := { row := netWithinRow, standIns := [], harness := (true, "da4cea765f5a5c0a43cbbf27d1943170c1e92cf4000991750597de89cc947fd5"), looks := true }, kinds := [], alts := [], laidByText := true, laidKinds := [.data, .data, .data, .data, .sentinel, .sentinel, .pinned], laidTests := true, laidLooks := .later }
def NetWithinCardSaid : Prop := Claim7.holds Tryd.pinned (.plain (OpenSpec.ofChange netWithinSpec)) netWithinCard

/-- THE TIED CARD OF 'chittylaw13.NetBack'. -/
def netBackCard : Claim7 := { stood := { row := netBackRow, standIns := [], harness := (true, "da4cea765f5a5c0a43cbbf27d1943170c1e92cf4000991750597de89cc947fd5"), looks := true }, kinds := [], alts := [], laidByText := true, laidKinds := [.data, .data, .data, .data, .sentinel, .sentinel, .pinned], laidTests := true, laidLooks := .later }
def NetBackCardSaid : Prop := Claim7.holds Tryd.pinned (.plain (OpenSpec.ofChange netBackSpec)) netBackCard

/-- THE SECOND FORM's CARD OF 'chittylaw15.CostTells'. -/
def costTellsUptoCard : Claim7 := { stood := { row := costTellsUptoRow, standIns := [], harness := (true, "da4cea765f5a5c0a43cbbf27d1943170c1e92cf4000991750597de89cc947fd5"), looks := true }, kinds := [], alts := [], laidByText := true, laidKinds := [.data, .data, .data, .sentinel, .sentinel], laidTests := true, laidLooks := .later }
def CostTellsUptoCardSaid : Prop := Claim7.holds Tryd.pinned (.plain (OpenSpec.upto costTellsSpec)) costTellsUptoCard

/-- THE SECOND FORM's CARD OF 'chittylaw15.CostBack'. -/
def costBackUptoCard : Claim7 := { stood := { row := costBackUptoRow, standIns := [], harness := (true, "da4cea765f5a5c0a43cbbf27d1943170c1e92cf4000991750597de89cc947fd5"), looks := true }, kinds := [], alts := [], laidByText := true, laidKinds := [.data, .data, .data, .sentinel, .sentinel], laidTests := true, laidLooks := .later }
def CostBackUptoCardSaid : Prop := Claim7.holds Tryd.pinned (.plain (OpenSpec.upto costBackSpec)) costBackUptoCard

/-- THE SECOND FORM's CARD OF 'chittylaw13.NetTells'. -/
def netTellsUptoCard : Claim7 := { stood := { row := netTellsUptoRow, standIns := [], harness := (true, "da4cea765f5a5c0a43cbbf27d1943170c1e92cf4000991750597de89cc947fd5"), looks := true }, kinds := [], alts := [], laidByText := true, laidKinds := [.data, .data, .data, .data, .sentinel, .sentinel, .pinned], laidTests := true, laidLooks := .later }
def NetTellsUptoCardSaid : Prop := Claim7.holds Tryd.pinned (.plain (OpenSpec.upto netTellsSpec)) netTellsUptoCard

/-- THE SECOND FORM's CARD OF 'chittylaw13.NetWithin'. -/
def netWithinUptoCard : Claim7 := { stood := { row := netWithinUptoRow, standIns := [], harness := (true, "da4cea765f5a5c0a43cbbf27d1943170c1e92cf4000991750597de89cc947fd5"), looks := true }, kinds := [], alts := [], laidByText := true, laidKinds := [.data, .data, .data, .data, .sentinel, .sentinel, .pinned], laidTests := true, laidLooks := .later }
def NetWithinUptoCardSaid : Prop := Claim7.holds Tryd.pinned (.plain (OpenSpec.upto netWithinSpec)) netWithinUptoCard

/-- THE SECOND FORM's CARD OF 'chittylaw13.NetBack'. -/
def netBackUptoCard : Claim7 := { stood := { row := netBackUptoRow, standIns := [], harness := (true, "da4cea765f5a5c0a43cbbf27d1943170c1e92cf4000991750597de89cc947fd5"), looks := true }, kinds := [], alts := [], laidByText := true, laidKinds := [.data, .data, .data, .data, .sentinel, .sentinel, .pinned], laidTests := true, laidLooks := .later }
def NetBackUptoCardSaid : Prop := Claim7.holds Tryd.pinned (.plain (OpenSpec.upto netBackSpec)) netBackUptoCard
end Rows
end Go.Proofs.YtpcdncopdihcpaaDoor
