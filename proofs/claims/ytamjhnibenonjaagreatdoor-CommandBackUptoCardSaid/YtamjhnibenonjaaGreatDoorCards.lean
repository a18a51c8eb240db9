/-
  DERIVED. GIVEN WITH THE SEED: THE CARDS: each row of YtamjhnibenonjaaGreatDoorRows.lean that lists a variable, with what it lists TIED to the program's text (the seventh form; the later family's looks); each row that meets fmt, with fmt's text TOLD by the authors' own Lean function (tested against real Go, not proved from fmt's source: count such statements apart). THE CARD IS WHAT COUNTS. Prove the row's statement (the work); the ties are given (YtamjhnibenonjaaGreatDoorTie.lean); close each card by the builder's one call (the guide's Derived/Test/ToyasCard.lean, 'card_holds'). Laid BY PROGRAM, IN A SANDBOX (cutbox-door.mjs). By AI agents, Wed Nov 11 2026. No macro, syntax, notation, axiom, sorry.
-/
import Derived.Test.YtamjhnibenonjaaGreatDoorRows
import GoSem.ClaimSeven
namespace Go.Proofs.YtamjhnibenonjaaGreatDoor
namespace Rows

/-- THE TIED CARD OF 'tapsterlaw18.CommandErrs'. -/
def commandErrsCard : Claim7 := { stood := { row := commandErrsRow, standIns := [], harness := (true, "ce6cb2c1e690d2e348d1a57f0b77e54e00cb7036c1d1d4fc26846f3fe0ae62eb"), looks := true }, kinds := [], alts := [], laidByText := true, laidKinds := [.data, .data, .data, .data, .sentinel, .sentinel, .pinned], laidTests := true, laidLooks := .later }
def CommandErrsCardSaid : Prop := Claim7.holds Tryz.pinned (.plain (OpenSpec.ofChange commandErrsSpec)) commandErrsCard

/-- THE TIED CARD OF 'tapsterlaw18.CommandPrints'. -/
def commandPrintsCard : Claim7 := { stood := { row := commandPrintsRow, standIns := [], harness := (true, "ce6cb2c1e690d2e348d1a57f0b77e54e00cb7036c1d1d4fc26846f3fe0ae62eb"), looks := true }, kinds := [], alts := [], laidByText := true, laidKinds := [.data, .data, .data, .data, .sentinel, .sentinel, .pinned], laidTests := true, laidLooks := .later }
def CommandPrintsCardSaid : Prop := Claim7.holds Tryz.pinned (.plain (OpenSpec.ofChange commandPrintsSpec)) commandPrintsCard

/-- THE TIED CARD OF 'tapsterlaw18.CommandBack'. -/
def commandBackCard : Claim7 := { stood := { row := commandBackRow, standIns := [], harness := (true, "ce6cb2c1e690d2e348d1a57f0b77e54e00cb7036c1d1d4fc26846f3fe0ae62eb"), looks := true }, kinds := [], alts := [], laidByText := true, laidKinds := [.data, .data, .data, .data, .sentinel, .sentinel, .pinned], laidTests := true, laidLooks := .later }
def CommandBackCardSaid : Prop := Claim7.holds Tryz.pinned (.plain (OpenSpec.ofChange commandBackSpec)) commandBackCard

/-- THE TIED CARD OF 'tapsterlaw18.CommandWishes'. -/
def commandWishesCard : Claim7 := { stood := { row := commandWishesRow, standIns := [], harness := (true, "ce6cb2c1e690d2e348d1a57f0b77e54e00cb7036c1d1d4fc26846f3fe0ae62eb"), looks := true }, kinds := [], alts := [], laidByText := true, laidKinds := [.data, .data, .data, .data, .sentinel, .sentinel, .pinned], laidTests := true, laidLooks := .later }
def CommandWishesCardSaid : Prop := Claim7.holds Tryz.pinned (.plain (OpenSpec.ofChange commandWishesSpec)) commandWishesCard

/-- THE SECOND FORM's CARD OF 'tapsterlaw18.CommandErrs'. -/
def commandErrsUptoCard : Claim7 := { stood := { row := commandErrsUptoRow, standIns := [], harness := (true, "ce6cb2c1e690d2e348d1a57f0b77e54e00cb7036c1d1d4fc26846f3fe0ae62eb"), looks := true }, kinds := [], alts := [], laidByText := true, laidKinds := [.data, .data, .data, .data, .sentinel, .sentinel, .pinned], laidTests := true, laidLooks := .later }
def CommandErrsUptoCardSaid : Prop := Claim7.holds Tryz.pinned (.plain (OpenSpec.upto commandErrsSpec)) commandErrsUptoCard

/-- THE SECOND FORM's CARD OF 'tapsterlaw18.CommandPrints'. -/
def commandPrintsUptoCard : Claim7 := { stood := { row := commandPrintsUptoRow, standIns := [], harness := (true, "ce6cb2c1e690d2e348d1a57f0b77e54e00cb7036c1d1d4fc26846f3fe0ae62eb"), looks := true }, kinds := [], alts := [], laidByText := true, laidKinds := [.data, .data, .data, .data, .sentinel, .sentinel, .pinned], laidTests := true, laidLooks := .later }
def CommandPrintsUptoCardSaid : Prop := Claim7.holds Tryz.pinned (.plain (OpenSpec.upto commandPrintsSpec)) commandPrintsUptoCard

/-- THE SECOND FORM's CARD OF 'tapsterlaw18.CommandBack'. -/
def commandBackUptoCard : Claim7 := { stood := { row := commandBackUptoRow, standIns := [], harness := (true, "ce6cb2c1e690d2e348d1a57f0b77e54e00cb7036c1d1d4fc26846f3fe0ae62eb"), looks := true }, kinds := [], alts := [], laidByText := true, laidKinds := [.data, .data, .data, .data, .sentinel, .sentinel, .pinned], laidTests := true, laidLooks := .later }
def CommandBackUptoCardSaid : Prop := Claim7.holds Tryz.pinned (.plain (OpenSpec.upto commandBackSpec)) commandBackUptoCard

/-- THE SECOND FORM's CARD OF 'tapsterlaw18.CommandWishes'. -/
def commandWishesUptoCard : Claim7 := { stood := { row := commandWishesUptoRow, standIns := [], harness := (true, "ce6cb2c1e690d2e348d1a57f0b77e54e00cb7036c1d1d4fc26846f3fe0ae62eb"), looks := true }, kinds := [], alts := [], laidByText := true, laidKinds := [.data, .data, .data, .data, .sentinel, .sentinel, .pinned], laidTests := true, laidLooks := .later }
def CommandWishesUptoCardSaid : Prop := Claim7.holds Tryz.pinned (.plain (OpenSpec.upto commandWishesSpec)) commandWishesUptoCard
end Rows
end Go.Proofs.YtamjhnibenonjaaGreatDoor
