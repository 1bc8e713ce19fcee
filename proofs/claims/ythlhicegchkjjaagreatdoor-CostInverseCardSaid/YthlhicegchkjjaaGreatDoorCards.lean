/-
  DERIVED. GIVEN WITH THE SEED: THE CARDS: each row of YthlhicegchkjjaaGreatDoorRows.lean that lists a variable, with what it lists TIED to the program's text (the seventh form; the later family's looks); each row that meets fmt, with fmt's text TOLD by the authors' own Lean function (tested against real Go, not proved from fmt's source: count such statements apart). THE CARD IS WHAT COUNTS. Prove the row's statement (the work); the ties are given (YthlhicegchkjjaaGreatDoorTie.lean); close each card by the builder's one call (the guide's Derived/Test/ToyasCard.lean, 'card_holds'). Laid BY PROGRAM, IN A SANDBOX (cutbox-door.mjs). By AI agents, Wed Nov 11 2026. No macro, syntax, notation, axiom, sorry.
-/
import Derived.Test.YthlhicegchkjjaaGreatDoorRows
import GoSem.ClaimSeven
namespace Go.Proofs.YthlhicegchkjjaaGreatDoor
namespace Rows

/-- THE TIED CARD OF 'keyholelaw15.CostTexts'. -/
def costTextsCard : Claim7 := { stood := { row := costTextsRow, standIns := [], harness := (true, "9cae08f1c0db6615d9f4c77eee14685e6a80c8c1358d4e8dd992705589917d58"), looks := true }, kinds := [], alts := [], laidByText := true, laidKinds := [.data, .data, .data, .data, .sentinel, .sentinel, .data, .pinned], laidTests := true, laidLooks := .later }
def CostTextsCardSaid : Prop := Claim7.holds Tryz.pinned (.plain (OpenSpec.ofChange costTextsSpec)) costTextsCard

/-- THE TIED CARD OF 'keyholelaw15.CostInverse'. -/
def costInverseCard : Claim7 := { stood := { row := costInverseRow, standIns := [], harness := (true, "9cae08f1c0db6615d9f4c77eee14685e6a80c8c1358d4e8dd992705589917d58"), looks := true }, kinds := [], alts := [], laidByText := true, laidKinds := [.data, .data, .data, .data, .sentinel, .sentinel, .data, .pinned], laidTests := true, laidLooks := .later }
def CostInverseCardSaid : Prop := Claim7.holds Tryz.pinned (.plain (OpenSpec.ofChange costInverseSpec)) costInverseCard

/-- THE SECOND FORM's CARD OF 'keyholelaw15.CostTexts'. -/
def costTextsUptoCard : Claim7 := { stood := { row := costTextsUptoRow, standIns := [], harness := (true, "9cae08f1c0db6615d9f4c77eee14685e6a80c8c1358d4e8dd992705589917d58"), looks := true }, kinds := [], alts := [], laidByText := true, laidKinds := [.data, .data, .data, .data, .sentinel, .sentinel, .data, .pinned], laidTests := true, laidLooks := .later }
def CostTextsUptoCardSaid : Prop := Claim7.holds Tryz.pinned (.plain (OpenSpec.upto costTextsSpec)) costTextsUptoCard

/-- THE SECOND FORM's CARD OF 'keyholelaw15.CostInverse'. -/
def costInverseUptoCard : Claim7 := { stood := { row := costInverseUptoRow, standIns := [], harness := (true, "9cae08f1c0db6615d9f4c77eee14685e6a80c8c1358d4e8dd992705589917d58"), looks := true }, kinds := [], alts := [], laidByText := true, laidKinds := [.data, .data, .data, .data, .sentinel, .sentinel, .data, .pinned], laidTests := true, laidLooks := .later }
def CostInverseUptoCardSaid : Prop := Claim7.holds Tryz.pinned (.plain (OpenSpec.upto costInverseSpec)) costInverseUptoCard
end Rows
end Go.Proofs.YthlhicegchkjjaaGreatDoor
