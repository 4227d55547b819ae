/-
  DERIVED. GIVEN WITH THE SEED: THE CARDS: each row of YtalmgeefkcebdaaGreatDoorRows.lean that lists a variable, with what it lists TIED to the program's text (the seventh form; the later family's looks); each row that meets fmt, with fmt's text TOLD by the authors' own Lean function (tested against real Go, not proved from fmt's source: count such statements apart). THE CARD IS WHAT COUNTS. Prove the row's statement (the work); the ties are given (YtalmgeefkcebdaaGreatDoorTie.lean); close each card by the builder's one call (the guide's Derived/Test/ToyasCard.lean, 'card_holds'). Laid BY PROGRAM, IN A SANDBOX (cutbox-door.mjs). By AI agents, Wed Nov 11 2026. No macro, syntax, notation, axiom, sorry.
-/
import Derived.Test.YtalmgeefkcebdaaGreatDoorRows
import GoSem.ClaimSeven
namespace Go.Proofs.YtalmgeefkcebdaaGreatDoor
namespace Rows

/-- THE TIED CARD OF 'moidoretop.TopHashRelation'. -/
def topHashRelationCard : Claim7 := { stood := { row := topHashRelationRow, standIns := [], harness := (true, "442890cbbbeb33af478de374ad26d1b0ffe5dce1921d2ed1379fd353163c176b"), looks := true }, kinds := [], alts := [], laidByText := true, laidKinds := [.data, .data, .data, .sentinel, .sentinel, .data], laidTests := true, laidLooks := .later }
def TopHashRelationCardSaid : Prop := Claim7.holds Tryz.pinned (.plain (OpenSpec.ofChange topHashRelationSpec)) topHashRelationCard

/-- THE SECOND FORM's CARD OF 'moidoretop.TopHashRelation'. -/
def topHashRelationUptoCard : Claim7 := { stood := { row := topHashRelationUptoRow, standIns := [], harness := (true, "442890cbbbeb33af478de374ad26d1b0ffe5dce1921d2ed1379fd353163c176b"), looks := true }, kinds := [], alts := [], laidByText := true, laidKinds := [.data, .data, .data, .sentinel, .sentinel, .data], laidTests := true, laidLooks := .later }
def TopHashRelationUptoCardSaid : Prop := Claim7.holds Tryz.pinned (.plain (OpenSpec.upto topHashRelationSpec)) topHashRelationUptoCard
end Rows
end Go.Proofs.YtalmgeefkcebdaaGreatDoor
