/-
  DERIVED. GIVEN WITH THE SEED: THE CARDS: each row of YtnipigninbeplaaDoorRows.lean that lists a variable, with what it lists TIED to the program's text (the seventh form; the later family's looks); each row that meets fmt, with fmt's text TOLD by the authors' own Lean function (tested against real Go, not proved from fmt's source: count such statements apart). THE CARD IS WHAT COUNTS. Prove the row's statement (the work); the ties are given (YtnipigninbeplaaDoorTie.lean); close each card by the builder's one call (the guide's Derived/Test/ToyasCard.lean, 'card_holds'). Laid BY PROGRAM, IN A SANDBOX (cutbox-door.mjs). By AI agents, Wed Nov 11 2026. No macro, syntax, notation, axiom, sorry.
-/
import Derived.Test.YtnipigninbeplaaDoorRows
import GoSem.ClaimSeven
namespace Go.Proofs.YtnipigninbeplaaDoor
namespace Rows

/-- THE TIED CARD OF 'keyholelaw19.PolicyChecks'. -/
def policyChecksCard : Claim7 := { stood := { row := policyChecksRow, standIns := [], harness := (true, "538cc9f662eda4112ab0b6cd3c6394bf91bbc99ffa73fdd5bfd27fd978939d87"), looks := false }, kinds := [], alts := [], laidByText := true, laidKinds := [.data, .pinned], laidTests := true, laidLooks := .later }
def PolicyChecksCardSaid : Prop := Claim7.holds Tryd.pinned (.plain (OpenSpec.ofChange policyChecksSpec)) policyChecksCard

/-- THE TIED CARD OF 'keyholelaw19.PolicyTexts'. -/
def policyTextsCard : Claim7 := { stood := { row := policyTextsRow, standIns := [], harness := (true, "538cc9f662eda4112ab0b6cd3c6394bf91bbc99ffa73fdd5bfd27fd978939d87"), looks := false }, kinds := [], alts := [], laidByText := true, laidKinds := [.data, .pinned], laidTests := true, laidLooks := .later }
def PolicyTextsCardSaid : Prop := Claim7.holds Tryd.pinned (.plain (OpenSpec.ofChange policyTextsSpec)) policyTextsCard

/-- THE TIED CARD OF 'keyholelaw19.PolicyInverse'. -/
def policyInverseCard : Claim7 := { stood := { row := policyInverseRow, standIns := [], harness := (true, "538cc9f662eda4112ab0b6cd3c6394bf91bbc99ffa73fdd5bfd27fd978939d87"), looks := false }, kinds := [], alts := [], laidByText := true, laidKinds := [.data, .pinned], laidTests := true, laidLooks := .later }
def PolicyInverseCardSaid : Prop := Claim7.holds Tryd.pinned (.plain (OpenSpec.ofChange policyInverseSpec)) policyInverseCard

/-- THE TIED CARD OF 'keyholelaw19.PolicyBlanks'. -/
def policyBlanksCard : Claim7 := { stood := { row := policyBlanksRow, standIns := [], harness := (true, "538cc9f662eda4112ab0b6cd3c6394bf91bbc99ffa73fdd5bfd27fd978939d87"), looks := false }, kinds := [], alts := [], laidByText := true, laidKinds := [.data, .pinned], laidTests := true, laidLooks := .later }
def PolicyBlanksCardSaid : Prop := Claim7.holds Tryd.pinned (.plain (OpenSpec.ofChange policyBlanksSpec)) policyBlanksCard

/-- THE TIED CARD OF 'keyholelaw19.PolicyLevels'. -/
def policyLevelsCard : Claim7 := { stood := { row := policyLevelsRow, standIns := [], harness := (true, "538cc9f662eda4112ab0b6cd3c6394bf91bbc99ffa73fdd5bfd27fd978939d87"), looks := false }, kinds := [], alts := [], laidByText := true, laidKinds := [.data, .pinned], laidTests := true, laidLooks := .later }
def PolicyLevelsCardSaid : Prop := Claim7.holds Tryd.pinned (.plain (OpenSpec.ofChange policyLevelsSpec)) policyLevelsCard

/-- THE SECOND FORM's CARD OF 'keyholelaw19.PolicyChecks'. -/
def policyChecksUptoCard : Claim7 := { stood := { row := policyChecksUptoRow, standIns := [], harness := (true, "538cc9f662eda4112ab0b6cd3c6394bf91bbc99ffa73fdd5bfd27fd978939d87"), looks := false }, kinds := [], alts := [], laidByText := true, laidKinds := [.data, .pinned], laidTests := true, laidLooks := .later }
def PolicyChecksUptoCardSaid : Prop := Claim7.holds Tryd.pinned (.plain (OpenSpec.upto policyChecksSpec)) policyChecksUptoCard

/-- THE SECOND FORM's CARD OF 'keyholelaw19.PolicyTexts'. -/
def policyTextsUptoCard : Claim7 := { stood := { row := policyTextsUptoRow, standIns := [], harness := (true, "538cc9f662eda4112ab0b6cd3c6394bf91bbc99ffa73fdd5bfd27fd978939d87"), looks := false }, kinds := [], alts := [], laidByText := true, laidKinds := [.data, .pinned], laidTests := true, laidLooks := .later }
def PolicyTextsUptoCardSaid : Prop := Claim7.holds Tryd.pinned (.plain (OpenSpec.upto policyTextsSpec)) policyTextsUptoCard

/-- THE SECOND FORM's CARD OF 'keyholelaw19.PolicyInverse'. -/
def policyInverseUptoCard : Claim7 := { stood := { row := policyInverseUptoRow, standIns := [], harness := (true, "538cc9f662eda4112ab0b6cd3c6394bf91bbc99ffa73fdd5bfd27fd978939d87"), looks := false }, kinds := [], alts := [], laidByText := true, laidKinds := [.data, .pinned], laidTests := true, laidLooks := .later }
def PolicyInverseUptoCardSaid : Prop := Claim7.holds Tryd.pinned (.plain (OpenSpec.upto policyInverseSpec)) policyInverseUptoCard

/-- THE SECOND FORM's CARD OF 'keyholelaw19.PolicyBlanks'. -/
def policyBlanksUptoCard : Claim7 := { stood := { row := policyBlanksUptoRow, standIns := [], harness := (true, "538cc9f662eda4112ab0b6cd3c6394bf91bbc99ffa73fdd5bfd27fd978939d87"), looks := false }, kinds := [], alts := [], laidByText := true, laidKinds := [.data, .pinned], laidTests := true, laidLooks := .later }
def PolicyBlanksUptoCardSaid : Prop := Claim7.holds Tryd.pinned (.plain (OpenSpec.upto policyBlanksSpec)) policyBlanksUptoCard

/-- THE SECOND FORM's CARD OF 'keyholelaw19.PolicyLevels'. -/
def policyLevelsUptoCard : Claim7 := { stood := { row := policyLevelsUptoRow, standIns := [], harness := (true, "538cc9f662eda4112ab0b6cd3c6394bf91bbc99ffa73fdd5bfd27fd978939d87"), looks := false }, kinds := [], alts := [], laidByText := true, laidKinds := [.data, .pinned], laidTests := true, laidLooks := .later }
def PolicyLevelsUptoCardSaid : Prop := Claim7.holds Tryd.pinned (.plain (OpenSpec.upto policyLevelsSpec)) policyLevelsUptoCard
end Rows
end Go.Proofs.YtnipigninbeplaaDoor
