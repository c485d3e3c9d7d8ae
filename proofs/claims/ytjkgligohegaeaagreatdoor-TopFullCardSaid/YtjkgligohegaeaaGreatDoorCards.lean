/-
  DERIVED. GIVEN WITH THE SEED: THE CARDS: each row of YtjkgligohegaeaaGreatDoorRows.lean that lists a variable, with what it lists TIED to the program's text (the seventh form; the later family's looks); each row that meets fmt, with fmt's text TOLD by the authors' own Lean function (tested against real Go, not proved from fmt's source: count such statements apart). THE CARD IS WHAT COUNTS. Prove the row's statement (the work); the ties are given (YtjkgligohegaeaaGreatDoorTie.lean); close each card by the builder's one call (the guide's Derived/Test/ToyasCard.lean, 'card_holds'). Laid BY PROGRAM, IN A SANDBOX (cutbox-door.mjs). By AI agents, Wed Nov 11 2026. No macro, syntax, notation, axiom, sorry.
-/
import Derived.Test.YtjkgligohegaeaaGreatDoorRows
import GoSem.ClaimSeven
namespace Go.Proofs.YtjkgligohegaeaaGreatDoor
namespace Rows

/-- THE TIED CARD OF 'outworkertop.TopFalls'. -/
def topFallsCard : Claim7 := { stood := { row := topFallsRow, standIns := [], harness := (true, "d477ee797a29d59f17eece9cc9448f604df7576a09a05d461c5dd67b9605ebe0"), looks := false }, kinds := [], alts := [], laidByText := true, laidKinds := [.data], laidTests := true, laidLooks := .later }
def TopFallsCardSaid : Prop := Claim7.holds Tryz.pinned (.plain (OpenSpec.ofChange topFallsSpec)) topFallsCard

/-- THE TIED CARD OF 'outworkertop.TopTwo'. -/
def topTwoCard : Claim7 := { stood := { row := topTwoRow, standIns := [], harness := (true, "d477ee797a29d59f17eece9cc9448f604df7576a09a05d461c5dd67b9605ebe0"), looks := false }, kinds := [], alts := [], laidByText := true, laidKinds := [.data], laidTests := true, laidLooks := .later }
def TopTwoCardSaid : Prop := Claim7.holds Tryz.pinned (.plain (OpenSpec.ofChange topTwoSpec)) topTwoCard

/-- THE TIED CARD OF 'outworkertop.TopFull'. -/
def topFullCard : Claim7 := { stood := { row := topFullRow, standIns := [], harness := (true, "d477ee797a29d59f17eece9cc9448f604df7576a09a05d461c5dd67b9605ebe0"), looks := false }, kinds := [], alts := [], laidByText := true, laidKinds := [.data], laidTests := true, laidLooks := .later }
def TopFullCardSaid : Prop := Claim7.holds Tryz.pinned (.plain (OpenSpec.ofChange topFullSpec)) topFullCard

/-- THE TIED CARD OF 'outworkertop.TopKept'. -/
def topKeptCard : Claim7 := { stood := { row := topKeptRow, standIns := [], harness := (true, "d477ee797a29d59f17eece9cc9448f604df7576a09a05d461c5dd67b9605ebe0"), looks := false }, kinds := [], alts := [], laidByText := true, laidKinds := [.data], laidTests := true, laidLooks := .later }
def TopKeptCardSaid : Prop := Claim7.holds Tryz.pinned (.plain (OpenSpec.ofChange topKeptSpec)) topKeptCard

/-- THE SECOND FORM's CARD OF 'outworkertop.TopFalls'. -/
def topFallsUptoCard : Claim7 := { stood := { row := topFallsUptoRow, standIns := [], harness := (true, "d477ee797a29d59f17eece9cc9448f604df7576a09a05d461c5dd67b9605ebe0"), looks := false }, kinds := [], alts := [], laidByText := true, laidKinds := [.data], laidTests := true, laidLooks := .later }
def TopFallsUptoCardSaid : Prop := Claim7.holds Tryz.pinned (.plain (OpenSpec.upto topFallsSpec)) topFallsUptoCard

/-- THE SECOND FORM's CARD OF 'outworkertop.TopTwo'. -/
def topTwoUptoCard : Claim7 := { stood := { row := topTwoUptoRow, standIns := [], harness := (true, "d477ee797a29d59f17eece9cc9448f604df7576a09a05d461c5dd67b9605ebe0"), looks := false }, kinds := [], alts := [], laidByText := true, laidKinds := [.data], laidTests := true, laidLooks := .later }
def TopTwoUptoCardSaid : Prop := Claim7.holds Tryz.pinned (.plain (OpenSpec.upto topTwoSpec)) topTwoUptoCard

/-- THE SECOND FORM's CARD OF 'outworkertop.TopFull'. -/
def topFullUptoCard : Claim7 := { stood := { row := topFullUptoRow, standIns := [], harness := (true, "d477ee797a29d59f17eece9cc9448f604df7576a09a05d461c5dd67b9605ebe0"), looks := false }, kinds := [], alts := [], laidByText := true, laidKinds := [.data], laidTests := true, laidLooks := .later }
def TopFullUptoCardSaid : Prop := Claim7.holds Tryz.pinned (.plain (OpenSpec.upto topFullSpec)) topFullUptoCard

/-- THE SECOND FORM's CARD OF 'outworkertop.TopKept'. -/
def topKeptUptoCard : Claim7 := { stood := { row := topKeptUptoRow, standIns := [], harness := (true, "d477ee797a29d59f17eece9cc9448f604df7576a09a05d461c5dd67b9605ebe0"), looks := false }, kinds := [], alts := [], laidByText := true, laidKinds := [.data], laidTests := true, laidLooks := .later }
def TopKeptUptoCardSaid : Prop := Claim7.holds Tryz.pinned (.plain (OpenSpec.upto topKeptSpec)) topKeptUptoCard
end Rows
end Go.Proofs.YtjkgligohegaeaaGreatDoor
