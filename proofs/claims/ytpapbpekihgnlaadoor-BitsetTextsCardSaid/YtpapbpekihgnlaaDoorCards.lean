/-
  DERIVED. GIVEN WITH THE SEED: THE CARDS: each row of YtpapbpekihgnlaaDoorRows.lean that lists a variable, with what it lists TIED to the program's text (the seventh form; the later family's looks); each row that meets fmt, with fmt's text TOLD by the authors' own Lean function (tested against real Go, not proved from fmt's source: count such statements apart). THE CARD IS WHAT COUNTS. Prove the row's statement (the work); the ties are given (YtpapbpekihgnlaaDoorTie.lean); close each card by the builder's one call (the guide's Derived/Test/ToyasCard.lean, 'card_holds'). Laid BY PROGRAM, IN A SANDBOX (cutbox-door.mjs). By AI agents, Wed Nov 11 2026. No macro, syntax, notation, axiom, sorry.
-/
import Derived.Test.YtpapbpekihgnlaaDoorRows
import GoSem.ClaimSeven
namespace Go.Proofs.YtpapbpekihgnlaaDoor
namespace Rows

/-- THE TIED CARD OF 'keyholelaw03.BitsetBuilds'. -/
def bitsetBuildsCard : Claim7 := { stood := { row := bitsetBuildsRow, standIns := [], harness := (true, "ab4324974365b9ae651c0b247627b72fe814fd6c44d27bb523e3106539a4f006"), looks := true }, kinds := [], alts := [], laidByText := true, laidKinds := [.data, .data, .data], laidTests := true, laidLooks := .later }
def BitsetBuildsCardSaid : Prop := Claim7.holds Tryd.pinned (.plain (OpenSpec.ofChange bitsetBuildsSpec)) bitsetBuildsCard

/-- THE TIED CARD OF 'keyholelaw03.BitsetChanges'. -/
def bitsetChangesCard : Claim7 := { stood := { row := bitsetChangesRow, standIns := [], harness := (true, "ab4324974365b9ae651c0b247627b72fe814fd6c44d27bb523e3106539a4f006"), looks := true }, kinds := [], alts := [], laidByText := true, laidKinds := [.data, .data, .data], laidTests := true, laidLooks := .later }
def BitsetChangesCardSaid : Prop := Claim7.holds Tryd.pinned (.plain (OpenSpec.ofChange bitsetChangesSpec)) bitsetChangesCard

/-- THE TIED CARD OF 'keyholelaw03.BitsetCompares'. -/
def bitsetComparesCard : Claim7 := { stood := { row := bitsetComparesRow, standIns := [], harness := (true, "ab4324974365b9ae651c0b247627b72fe814fd6c44d27bb523e3106539a4f006"), looks := true }, kinds := [], alts := [], laidByText := true, laidKinds := [.data, .data, .data], laidTests := true, laidLooks := .later }
def BitsetComparesCardSaid : Prop := Claim7.holds Tryd.pinned (.plain (OpenSpec.ofChange bitsetComparesSpec)) bitsetComparesCard

/-- THE TIED CARD OF 'keyholelaw03.BitsetCombines'. -/
def bitsetCombinesCard : Claim7 := { stood := { row := bitsetCombinesRow, standIns := [], harness := (true, "ab4324974365b9ae651c0b247627b72fe814fd6c44d27bb523e3106539a4f006"), looks := true }, kinds := [], alts := [], laidByText := true, laidKinds := [.data, .data, .data], laidTests := true, laidLooks := .later }
def BitsetCombinesCardSaid : Prop := Claim7.holds Tryd.pinned (.plain (OpenSpec.ofChange bitsetCombinesSpec)) bitsetCombinesCard

/-- THE TIED CARD OF 'keyholelaw03.BitsetCounts'. -/
def bitsetCountsCard : Claim7 := { stood := { row := bitsetCountsRow, standIns := [], harness := (true, "ab4324974365b9ae651c0b247627b72fe814fd6c44d27bb523e3106539a4f006"), looks := true }, kinds := [], alts := [], laidByText := true, laidKinds := [.data, .data, .data], laidTests := true, laidLooks := .later }
def BitsetCountsCardSaid : Prop := Claim7.holds Tryd.pinned (.plain (OpenSpec.ofChange bitsetCountsSpec)) bitsetCountsCard

/-- THE TIED CARD OF 'keyholelaw03.BitsetAlgebra'. -/
def bitsetAlgebraCard : Claim7 := { stood := { row := bitsetAlgebraRow, standIns := [], harness := (true, "ab4324974365b9ae651c0b247627b72fe814fd6c44d27bb523e3106539a4f006"), looks := true }, kinds := [], alts := [], laidByText := true, laidKinds := [.data, .data, .data], laidTests := true, laidLooks := .later }
def BitsetAlgebraCardSaid : Prop := Claim7.holds Tryd.pinned (.plain (OpenSpec.ofChange bitsetAlgebraSpec)) bitsetAlgebraCard

/-- THE TIED CARD OF 'keyholelaw03.BitsetWalks'. -/
def bitsetWalksCard : Claim7 := { stood := { row := bitsetWalksRow, standIns := [], harness := (true, "ab4324974365b9ae651c0b247627b72fe814fd6c44d27bb523e3106539a4f006"), looks := true }, kinds := [], alts := [], laidByText := true, laidKinds := [.data, .data, .data], laidTests := true, laidLooks := .later }
def BitsetWalksCardSaid : Prop := Claim7.holds Tryd.pinned (.plain (OpenSpec.ofChange bitsetWalksSpec)) bitsetWalksCard

/-- THE TIED CARD OF 'keyholelaw03.BitsetSizes'. -/
def bitsetSizesCard : Claim7 := { stood := { row := bitsetSizesRow, standIns := [], harness := (true, "ab4324974365b9ae651c0b247627b72fe814fd6c44d27bb523e3106539a4f006"), looks := true }, kinds := [], alts := [], laidByText := true, laidKinds := [.data, .data, .data], laidTests := true, laidLooks := .later }
def BitsetSizesCardSaid : Prop := Claim7.holds Tryd.pinned (.plain (OpenSpec.ofChange bitsetSizesSpec)) bitsetSizesCard

/-- THE TIED CARD OF 'keyholelaw03.BitsetTexts'. -/
def bitsetTextsCard : Claim7 := { stood := { row := bitsetTextsRow, standIns := [], harness := (true, "ab4324974365b9ae651c0b247627b72fe814fd6c44d27bb523e3106539a4f006"), looks := true }, kinds := [], alts := [], laidByText := true, laidKinds := [.data, .data, .data, .data, .sentinel, .sentinel, .pinned], laidTests := true, laidLooks := .later }
def BitsetTextsCardSaid : Prop := Claim7.holds Tryd.pinned (.plain (OpenSpec.ofChange bitsetTextsSpec)) bitsetTextsCard

/-- THE SECOND FORM's CARD OF 'keyholelaw03.BitsetBuilds'. -/
def bitsetBuildsUptoCard : Claim7 := { stood := { row := bitsetBuildsUptoRow, standIns := [], harness := (true, "ab4324974365b9ae651c0b247627b72fe814fd6c44d27bb523e3106539a4f006"), looks := true }, kinds := [], alts := [], laidByText := true, laidKinds := [.data, .data, .data], laidTests := true, laidLooks := .later }
def BitsetBuildsUptoCardSaid : Prop := Claim7.holds Tryd.pinned (.plain (OpenSpec.upto bitsetBuildsSpec)) bitsetBuildsUptoCard

/-- THE SECOND FORM's CARD OF 'keyholelaw03.BitsetChanges'. -/
def bitsetChangesUptoCard : Claim7 := { stood := { row := bitsetChangesUptoRow, standIns := [], harness := (true, "ab4324974365b9ae651c0b247627b72fe814fd6c44d27bb523e3106539a4f006"), looks := true }, kinds := [], alts := [], laidByText := true, laidKinds := [.data, .data, .data], laidTests := true, laidLooks := .later }
def BitsetChangesUptoCardSaid : Prop := Claim7.holds Tryd.pinned (.plain (OpenSpec.upto bitsetChangesSpec)) bitsetChangesUptoCard

/-- THE SECOND FORM's CARD OF 'keyholelaw03.BitsetCompares'. -/
def bitsetComparesUptoCard : Claim7 := { stood := { row := bitsetComparesUptoRow, standIns := [], harness := (true, "ab4324974365b9ae651c0b247627b72fe814fd6c44d27bb523e3106539a4f006"), looks := true }, kinds := [], alts := [], laidByText := true, laidKinds := [.data, .data, .data], laidTests := true, laidLooks := .later }
def BitsetComparesUptoCardSaid : Prop := Claim7.holds Tryd.pinned (.plain (OpenSpec.upto bitsetComparesSpec)) bitsetComparesUptoCard

/-- THE SECOND FORM's CARD OF 'keyholelaw03.BitsetCombines'. -/
def bitsetCombinesUptoCard : Claim7 := { stood := { row := bitsetCombinesUptoRow, standIns := [], harness := (true, "ab4324974365b9ae651c0b247627b72fe814fd6c44d27bb523e3106539a4f006"), looks := true }, kinds := [], alts := [], laidByText := true, laidKinds := [.data, .data, .data], laidTests := true, laidLooks := .later }
def BitsetCombinesUptoCardSaid : Prop := Claim7.holds Tryd.pinned (.plain (OpenSpec.upto bitsetCombinesSpec)) bitsetCombinesUptoCard

/-- THE SECOND FORM's CARD OF 'keyholelaw03.BitsetCounts'. -/
def bitsetCountsUptoCard : Claim7 := { stood := { row := bitsetCountsUptoRow, standIns := [], harness := (true, "ab4324974365b9ae651c0b247627b72fe814fd6c44d27bb523e3106539a4f006"), looks := true }, kinds := [], alts := [], laidByText := true, laidKinds := [.data, .data, .data], laidTests := true, laidLooks := .later }
def BitsetCountsUptoCardSaid : Prop := Claim7.holds Tryd.pinned (.plain (OpenSpec.upto bitsetCountsSpec)) bitsetCountsUptoCard

/-- THE SECOND FORM's CARD OF 'keyholelaw03.BitsetAlgebra'. -/
def bitsetAlgebraUptoCard : Claim7 := { stood := { row := bitsetAlgebraUptoRow, standIns := [], harness := (true, "ab4324974365b9ae651c0b247627b72fe814fd6c44d27bb523e3106539a4f006"), looks := true }, kinds := [], alts := [], laidByText := true, laidKinds := [.data, .data, .data], laidTests := true, laidLooks := .later }
def BitsetAlgebraUptoCardSaid : Prop := Claim7.holds Tryd.pinned (.plain (OpenSpec.upto bitsetAlgebraSpec)) bitsetAlgebraUptoCard

/-- THE SECOND FORM's CARD OF 'keyholelaw03.BitsetWalks'. -/
def bitsetWalksUptoCard : Claim7 := { stood := { row := bitsetWalksUptoRow, standIns := [], harness := (true, "ab4324974365b9ae651c0b247627b72fe814fd6c44d27bb523e3106539a4f006"), looks := true }, kinds := [], alts := [], laidByText := true, laidKinds := [.data, .data, .data], laidTests := true, laidLooks := .later }
def BitsetWalksUptoCardSaid : Prop := Claim7.holds Tryd.pinned (.plain (OpenSpec.upto bitsetWalksSpec)) bitsetWalksUptoCard

/-- THE SECOND FORM's CARD OF 'keyholelaw03.BitsetSizes'. -/
def bitsetSizesUptoCard : Claim7 := { stood := { row := bitsetSizesUptoRow, standIns := [], harness := (true, "ab4324974365b9ae651c0b247627b72fe814fd6c44d27bb523e3106539a4f006"), looks := true }, kinds := [], alts := [], laidByText := true, laidKinds := [.data, .data, .data], laidTests := true, laidLooks := .later }
def BitsetSizesUptoCardSaid : Prop := Claim7.holds Tryd.pinned (.plain (OpenSpec.upto bitsetSizesSpec)) bitsetSizesUptoCard

/-- THE SECOND FORM's CARD OF 'keyholelaw03.BitsetTexts'. -/
def bitsetTextsUptoCard : Claim7 := { stood := { row := bitsetTextsUptoRow, standIns := [], harness := (true, "ab4324974365b9ae651c0b247627b72fe814fd6c44d27bb523e3106539a4f006"), looks := true }, kinds := [], alts := [], laidByText := true, laidKinds := [.data, .data, .data, .data, .sentinel, .sentinel, .pinned], laidTests := true, laidLooks := .later }
def BitsetTextsUptoCardSaid : Prop := Claim7.holds Tryd.pinned (.plain (OpenSpec.upto bitsetTextsSpec)) bitsetTextsUptoCard
end Rows
end Go.Proofs.YtpapbpekihgnlaaDoor
