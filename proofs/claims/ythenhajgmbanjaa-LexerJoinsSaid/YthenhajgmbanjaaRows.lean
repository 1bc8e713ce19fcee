/-
  No cell of these rows narrows 'for every input' (looked for: loops, veiled, ifaces, maps, wideKeys, modest, calm, conditions, laid).
  DERIVED. THE GIVEN ROWS OF THIS SEAT. 7 by the template 'for every input the law returns true; each argument reads behind the call as it read before'; 0 by the template 'total and deterministic' (their statements: YthenhajgmbanjaaTotals.lean).
  GIVEN WITH THE SEED: the statements are not yours to turn. If you find one false, say at which input.
  Laid BY PROGRAM, IN A SANDBOX (cutbox-rows.mjs): the forced cells as the released guide's own fill.sh prints them over the translation fbdd4548b3d66a1e… (all of the seat's roots in one cut). By AI agents, Wed Nov 11 2026. No macro, syntax, notation, axiom, sorry.
-/
import Derived.Test.YthenhajgmbanjaaChecked
import GoSem.Claim
import GoSem.ClaimJoined
import GoSem.ClaimMapViews
import Derived.JoinedTies
import Derived.KernelRfl
namespace Go.Proofs.Ythenhajgmbanjaa
/- THE CELL 'sum', in the pinned program and in every row, IS THE sha256 OF THE DUMP (.gsa) THAT YthenhajgmbanjaaProg.lean LOADS. Nothing in Lean hashes anything: it is a label: what it is worth is what the hold of that sum in a sandbox is worth. -/
noncomputable def Try.pinned : Pinned := { name := "ythenhajgmbanjaa", sum := "fbdd4548b3d66a1e62e13081f1a6fa4a7322c0dcecba18288202a9da9d64c933", checked := Try.checked }
namespace Rows
def none {H : Type} : Left H := { results := [], args := [] }

/-- 'keyholelaw09.LexerTokens': WHATEVER THE INPUT: true; the input reads as it did. -/
def lexerTokensSpec : ChangeSpec := { name := "lexerTokens", fn := fun _ => fun
  | [d] => { results := [.lit (.bool true)], args := [d] }
  | _ => none }
def lexerTokensRow : OpenClaim := { program := "ythenhajgmbanjaa", sum := "fbdd4548b3d66a1e62e13081f1a6fa4a7322c0dcecba18288202a9da9d64c933", func := "keyhole/keyholelaw09.LexerTokens", spec := "lexerTokens", inPlace := ["internal/bytealg.IndexByteString", "internal/bytealg.IndexString"], named := ["internal/bytealg.MaxLen"], apart := false }
def LexerTokensSaid : Prop := lexerTokensRow.holds Try.pinned (OpenSpec.ofChange lexerTokensSpec)

/-- ITS FALSE NEIGHBOUR: 'it returns false'. Refute it at one input. -/
def lexerTokensWrong : ChangeSpec := { name := "lexerTokens", fn := fun _ => fun
  | [d] => { results := [.lit (.bool false)], args := [d] }
  | _ => none }
def LexerTokensWrongFalsely : Prop := lexerTokensRow.holds Try.pinned (OpenSpec.ofChange lexerTokensWrong)

/-- 'keyholelaw09.LexerCovers': WHATEVER THE INPUT: true; the input reads as it did. -/
def lexerCoversSpec : ChangeSpec := { name := "lexerCovers", fn := fun _ => fun
  | [d] => { results := [.lit (.bool true)], args := [d] }
  | _ => none }
def lexerCoversRow : OpenClaim := { program := "ythenhajgmbanjaa", sum := "fbdd4548b3d66a1e62e13081f1a6fa4a7322c0dcecba18288202a9da9d64c933", func := "keyhole/keyholelaw09.LexerCovers", spec := "lexerCovers", inPlace := ["internal/bytealg.IndexByteString", "internal/bytealg.IndexString"], named := ["internal/bytealg.MaxLen"], apart := false }
def LexerCoversSaid : Prop := lexerCoversRow.holds Try.pinned (OpenSpec.ofChange lexerCoversSpec)

/-- ITS FALSE NEIGHBOUR: 'it returns false'. Refute it at one input. -/
def lexerCoversWrong : ChangeSpec := { name := "lexerCovers", fn := fun _ => fun
  | [d] => { results := [.lit (.bool false)], args := [d] }
  | _ => none }
def LexerCoversWrongFalsely : Prop := lexerCoversRow.holds Try.pinned (OpenSpec.ofChange lexerCoversWrong)

/-- 'keyholelaw09.LexerSpaces': WHATEVER THE INPUT: true; the input reads as it did. -/
def lexerSpacesSpec : ChangeSpec := { name := "lexerSpaces", fn := fun _ => fun
  | [d1, d2] => { results := [.lit (.bool true)], args := [d1, d2] }
  | _ => none }
def lexerSpacesRow : OpenClaim := { program := "ythenhajgmbanjaa", sum := "fbdd4548b3d66a1e62e13081f1a6fa4a7322c0dcecba18288202a9da9d64c933", func := "keyhole/keyholelaw09.LexerSpaces", spec := "lexerSpaces", inPlace := ["internal/bytealg.IndexByteString", "internal/bytealg.IndexString"], named := ["internal/bytealg.MaxLen"], apart := false }
def LexerSpacesSaid : Prop := lexerSpacesRow.holds Try.pinned (OpenSpec.ofChange lexerSpacesSpec)

/-- ITS FALSE NEIGHBOUR: 'it returns false'. Refute it at one input. -/
def lexerSpacesWrong : ChangeSpec := { name := "lexerSpaces", fn := fun _ => fun
  | [d1, d2] => { results := [.lit (.bool false)], args := [d1, d2] }
  | _ => none }
def LexerSpacesWrongFalsely : Prop := lexerSpacesRow.holds Try.pinned (OpenSpec.ofChange lexerSpacesWrong)

/-- 'keyholelaw09.LexerPrefix': WHATEVER THE INPUT: true; the input reads as it did. -/
def lexerPrefixSpec : ChangeSpec := { name := "lexerPrefix", fn := fun _ => fun
  | [d] => { results := [.lit (.bool true)], args := [d] }
  | _ => none }
def lexerPrefixRow : OpenClaim := { program := "ythenhajgmbanjaa", sum := "fbdd4548b3d66a1e62e13081f1a6fa4a7322c0dcecba18288202a9da9d64c933", func := "keyhole/keyholelaw09.LexerPrefix", spec := "lexerPrefix", inPlace := ["internal/bytealg.IndexByteString", "internal/bytealg.IndexString"], named := ["internal/bytealg.MaxLen"], apart := false }
def LexerPrefixSaid : Prop := lexerPrefixRow.holds Try.pinned (OpenSpec.ofChange lexerPrefixSpec)

/-- ITS FALSE NEIGHBOUR: 'it returns false'. Refute it at one input. -/
def lexerPrefixWrong : ChangeSpec := { name := "lexerPrefix", fn := fun _ => fun
  | [d] => { results := [.lit (.bool false)], args := [d] }
  | _ => none }
def LexerPrefixWrongFalsely : Prop := lexerPrefixRow.holds Try.pinned (OpenSpec.ofChange lexerPrefixWrong)

/-- 'keyholelaw09.LexerAppends': WHATEVER THE INPUT: true; the input reads as it did. -/
def lexerAppendsSpec : ChangeSpec := { name := "lexerAppends", fn := fun _ => fun
  | [d1, d2] => { results := [.lit (.bool true)], args := [d1, d2] }
  | _ => none }
def lexerAppendsRow : OpenClaim := { program := "ythenhajgmbanjaa", sum := "fbdd4548b3d66a1e62e13081f1a6fa4a7322c0dcecba18288202a9da9d64c933", func := "keyhole/keyholelaw09.LexerAppends", spec := "lexerAppends", inPlace := ["internal/bytealg.IndexByteString", "internal/bytealg.IndexString"], named := ["internal/bytealg.MaxLen"], apart := false }
def LexerAppendsSaid : Prop := lexerAppendsRow.holds Try.pinned (OpenSpec.ofChange lexerAppendsSpec)

/-- ITS FALSE NEIGHBOUR: 'it returns false'. Refute it at one input. -/
def lexerAppendsWrong : ChangeSpec := { name := "lexerAppends", fn := fun _ => fun
  | [d1, d2] => { results := [.lit (.bool false)], args := [d1, d2] }
  | _ => none }
def LexerAppendsWrongFalsely : Prop := lexerAppendsRow.holds Try.pinned (OpenSpec.ofChange lexerAppendsWrong)

/-- 'keyholelaw09.LexerNames': WHATEVER THE INPUT: true; the input reads as it did. -/
def lexerNamesSpec : ChangeSpec := { name := "lexerNames", fn := fun _ => fun
  | [d] => { results := [.lit (.bool true)], args := [d] }
  | _ => none }
def lexerNamesRow : OpenClaim := { program := "ythenhajgmbanjaa", sum := "fbdd4548b3d66a1e62e13081f1a6fa4a7322c0dcecba18288202a9da9d64c933", func := "keyhole/keyholelaw09.LexerNames", spec := "lexerNames", inPlace := ["internal/bytealg.IndexByteString", "internal/bytealg.IndexString"], named := ["internal/bytealg.MaxLen"], apart := false }
def LexerNamesSaid : Prop := lexerNamesRow.holds Try.pinned (OpenSpec.ofChange lexerNamesSpec)

/-- ITS FALSE NEIGHBOUR: 'it returns false'. Refute it at one input. -/
def lexerNamesWrong : ChangeSpec := { name := "lexerNames", fn := fun _ => fun
  | [d] => { results := [.lit (.bool false)], args := [d] }
  | _ => none }
def LexerNamesWrongFalsely : Prop := lexerNamesRow.holds Try.pinned (OpenSpec.ofChange lexerNamesWrong)

/-- 'keyholelaw09.LexerJoins': WHATEVER THE INPUT: true; the input reads as it did. -/
def lexerJoinsSpec : ChangeSpec := { name := "lexerJoins", fn := fun _ => fun
  | [d] => { results := [.lit (.bool true)], args := [d] }
  | _ => none }
def lexerJoinsRow : OpenClaim := { program := "ythenhajgmbanjaa", sum := "fbdd4548b3d66a1e62e13081f1a6fa4a7322c0dcecba18288202a9da9d64c933", func := "keyhole/keyholelaw09.LexerJoins", spec := "lexerJoins", inPlace := ["internal/bytealg.IndexByteString", "internal/bytealg.IndexString", "internal/abi.NoEscape"], named := ["internal/bytealg.MaxLen"], apart := false }
def LexerJoinsSaid : Prop := lexerJoinsRow.holds Try.pinned (OpenSpec.ofChange lexerJoinsSpec)

/-- ITS FALSE NEIGHBOUR: 'it returns false'. Refute it at one input. -/
def lexerJoinsWrong : ChangeSpec := { name := "lexerJoins", fn := fun _ => fun
  | [d] => { results := [.lit (.bool false)], args := [d] }
  | _ => none }
def LexerJoinsWrongFalsely : Prop := lexerJoinsRow.holds Try.pinned (OpenSpec.ofChange lexerJoinsWrong)

/- THE SECOND FORM. 'bulk': how many values and letters a reading holds, each counted each time it is reached (what is shared counts as often as it is met; a slice's spare places count too). A statement '..UptoSaid' is the law's where the arguments, and the package variables that the reading takes, are together of bulk at most 1048576: NARROWER than '..Said'. Prove '..Said' where nothing that the law and all that it calls make is longer than what came in: it says more and counts as full. Else prove '..UptoSaid'. A law counts once. -/
mutual
def uptoBulk {H : Type} : DataW H → Nat
  | .lit (.string bytes) => bytes.length + 1
  | .lit _ => 1
  | .nil => 1
  | .ptr d => uptoBulk d + 1
  | .slice elems spare => uptoBulkAll elems + uptoBulkAll spare + 1
  | .agg parts => uptoBulkAll parts + 1
  | .iface _ d => uptoBulk d + 1
  | .map entries => uptoBulkEntries entries + 1
  | .held _ => 1
def uptoBulkAll {H : Type} : List (DataW H) → Nat
  | [] => 0
  | d :: r => uptoBulk d + uptoBulkAll r
def uptoBulkEntries {H : Type} : List (Lit × DataW H) → Nat
  | [] => 0
  | x :: r => uptoBulkEntry x + uptoBulkEntries r
def uptoBulkEntry {H : Type} : Lit × DataW H → Nat
  | (.string bytes, d) => bytes.length + uptoBulk d + 1
  | (_, d) => uptoBulk d + 1
 end
def uptoSmall : (H : Type) → List (DataW H) → Bool := fun _ ds => decide (uptoBulkAll ds ≤ 1048576)
def OpenSpec.upto (s : _root_.Go.ChangeSpec) : _root_.Go.OpenSpec := { _root_.Go.OpenSpec.ofChange s with cond := some uptoSmall }

/-- 'keyholelaw09.LexerTokens', WHERE WHAT IT READS IS OF BULK AT MOST 1048576: true; the input reads as it did. -/
def lexerTokensUptoRow : OpenClaim := { program := "ythenhajgmbanjaa", sum := "fbdd4548b3d66a1e62e13081f1a6fa4a7322c0dcecba18288202a9da9d64c933", func := "keyhole/keyholelaw09.LexerTokens", spec := "lexerTokens", inPlace := ["internal/bytealg.IndexByteString", "internal/bytealg.IndexString"], named := ["internal/bytealg.MaxLen"], apart := false, narrowed := true }
def LexerTokensUptoSaid : Prop := lexerTokensUptoRow.holds Try.pinned (OpenSpec.upto lexerTokensSpec)

/-- 'keyholelaw09.LexerCovers', WHERE WHAT IT READS IS OF BULK AT MOST 1048576: true; the input reads as it did. -/
def lexerCoversUptoRow : OpenClaim := { program := "ythenhajgmbanjaa", sum := "fbdd4548b3d66a1e62e13081f1a6fa4a7322c0dcecba18288202a9da9d64c933", func := "keyhole/keyholelaw09.LexerCovers", spec := "lexerCovers", inPlace := ["internal/bytealg.IndexByteString", "internal/bytealg.IndexString"], named := ["internal/bytealg.MaxLen"], apart := false, narrowed := true }
def LexerCoversUptoSaid : Prop := lexerCoversUptoRow.holds Try.pinned (OpenSpec.upto lexerCoversSpec)

/-- 'keyholelaw09.LexerSpaces', WHERE WHAT IT READS IS OF BULK AT MOST 1048576: true; the input reads as it did. -/
def lexerSpacesUptoRow : OpenClaim := { program := "ythenhajgmbanjaa", sum := "fbdd4548b3d66a1e62e13081f1a6fa4a7322c0dcecba18288202a9da9d64c933", func := "keyhole/keyholelaw09.LexerSpaces", spec := "lexerSpaces", inPlace := ["internal/bytealg.IndexByteString", "internal/bytealg.IndexString"], named := ["internal/bytealg.MaxLen"], apart := false, narrowed := true }
def LexerSpacesUptoSaid : Prop := lexerSpacesUptoRow.holds Try.pinned (OpenSpec.upto lexerSpacesSpec)

/-- 'keyholelaw09.LexerPrefix', WHERE WHAT IT READS IS OF BULK AT MOST 1048576: true; the input reads as it did. -/
def lexerPrefixUptoRow : OpenClaim := { program := "ythenhajgmbanjaa", sum := "fbdd4548b3d66a1e62e13081f1a6fa4a7322c0dcecba18288202a9da9d64c933", func := "keyhole/keyholelaw09.LexerPrefix", spec := "lexerPrefix", inPlace := ["internal/bytealg.IndexByteString", "internal/bytealg.IndexString"], named := ["internal/bytealg.MaxLen"], apart := false, narrowed := true }
def LexerPrefixUptoSaid : Prop := lexerPrefixUptoRow.holds Try.pinned (OpenSpec.upto lexerPrefixSpec)

/-- 'keyholelaw09.LexerAppends', WHERE WHAT IT READS IS OF BULK AT MOST 1048576: true; the input reads as it did. -/
def lexerAppendsUptoRow : OpenClaim := { program := "ythenhajgmbanjaa", sum := "fbdd4548b3d66a1e62e13081f1a6fa4a7322c0dcecba18288202a9da9d64c933", func := "keyhole/keyholelaw09.LexerAppends", spec := "lexerAppends", inPlace := ["internal/bytealg.IndexByteString", "internal/bytealg.IndexString"], named := ["internal/bytealg.MaxLen"], apart := false, narrowed := true }
def LexerAppendsUptoSaid : Prop := lexerAppendsUptoRow.holds Try.pinned (OpenSpec.upto lexerAppendsSpec)

/-- 'keyholelaw09.LexerNames', WHERE WHAT IT READS IS OF BULK AT MOST 1048576: true; the input reads as it did. -/
def lexerNamesUptoRow : OpenClaim := { program := "ythenhajgmbanjaa", sum := "fbdd4548b3d66a1e62e13081f1a6fa4a7322c0dcecba18288202a9da9d64c933", func := "keyhole/keyholelaw09.LexerNames", spec := "lexerNames", inPlace := ["internal/bytealg.IndexByteString", "internal/bytealg.IndexString"], named := ["internal/bytealg.MaxLen"], apart := false, narrowed := true }
def LexerNamesUptoSaid : Prop := lexerNamesUptoRow.holds Try.pinned (OpenSpec.upto lexerNamesSpec)

/-- 'keyholelaw09.LexerJoins', WHERE WHAT IT READS IS OF BULK AT MOST 1048576: true; the input reads as it did. -/
def lexerJoinsUptoRow : OpenClaim := { program := "ythenhajgmbanjaa", sum := "fbdd4548b3d66a1e62e13081f1a6fa4a7322c0dcecba18288202a9da9d64c933", func := "keyhole/keyholelaw09.LexerJoins", spec := "lexerJoins", inPlace := ["internal/bytealg.IndexByteString", "internal/bytealg.IndexString", "internal/abi.NoEscape"], named := ["internal/bytealg.MaxLen"], apart := false, narrowed := true }
def LexerJoinsUptoSaid : Prop := lexerJoinsUptoRow.holds Try.pinned (OpenSpec.upto lexerJoinsSpec)

end Rows
end Go.Proofs.Ythenhajgmbanjaa
