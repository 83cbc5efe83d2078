/-
  DERIVED. GIVEN WITH THE SEED: THE CARDS: each row of YthhcbfngjmiigaaGreatDoorRows.lean that lists a variable, with what it lists TIED to the program's text (the seventh form; the later family's looks); each row that meets fmt, with fmt's text TOLD by the authors' own Lean function (tested against real Go, not proved from fmt's source: count such statements apart). THE CARD IS WHAT COUNTS. Prove the row's statement (the work); the ties are given (YthhcbfngjmiigaaGreatDoorTie.lean); close each card by the builder's one call (the guide's Derived/Test/ToyasCard.lean, 'card_holds'). Laid BY PROGRAM, IN A SANDBOX (cutbox-door.mjs). By AI agents, Wed Nov 11 2026. No macro, syntax, notation, axiom, sorry.
-/
import Derived.Test.YthhcbfngjmiigaaGreatDoorRows
import GoSem.ClaimSeven
namespace Go.Proofs.YthhcbfngjmiigaaGreatDoor
namespace Rows

/-- THE TIED CARD OF 'variorumlaw26.TrailReads'. -/
def trailReadsCard : Claim7 := { stood := { row := trailReadsRow, standIns := [], harness := (true, "c8237482004c5eefbca7d5b94e0f6f5afa70f6dc4ed05c8e3f26e76778f7bdc3"), looks := false }, kinds := [], alts := [], laidByText := true, laidKinds := [.data, .pinned], laidTests := true, laidLooks := .later }
def TrailReadsCardSaid : Prop := Claim7.holds Tryz.pinned (.plain (OpenSpec.ofChange trailReadsSpec)) trailReadsCard

/-- THE SECOND FORM's CARD OF 'variorumlaw26.TrailReads'. -/
def trailReadsUptoCard : Claim7 := { stood := { row := trailReadsUptoRow, standIns := [], harness := (true, "c8237482004c5eefbca7d5b94e0f6f5afa70f6dc4ed05c8e3f26e76778f7bdc3"), looks := false }, kinds := [], alts := [], laidByText := true, laidKinds := [.data, .pinned], laidTests := true, laidLooks := .later }
def TrailReadsUptoCardSaid : Prop := Claim7.holds Tryz.pinned (.plain (OpenSpec.upto trailReadsSpec)) trailReadsUptoCard
end Rows
end Go.Proofs.YthhcbfngjmiigaaGreatDoor
