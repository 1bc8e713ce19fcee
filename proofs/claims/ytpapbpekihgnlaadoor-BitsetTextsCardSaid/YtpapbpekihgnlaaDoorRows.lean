/-
  NARROWER THAN 'FOR EVERY INPUT', by the rows' own cells (each row's printed sentence says how): BitsetBuilds: laid · BitsetChanges: laid · BitsetCompares: laid · BitsetCombines: laid · BitsetCounts: laid · BitsetAlgebra: laid · BitsetWalks: laid · BitsetSizes: laid · BitsetTexts: laid.
  DERIVED. THE GIVEN ROWS OF THIS SEAT. 9 by the template 'for every input the law returns true; each argument reads behind the call as it read before'; 0 by the template 'total and deterministic' (their statements: YtpapbpekihgnlaaDoorTotals.lean).
  GIVEN WITH THE SEED: the statements are not yours to turn. If you find one false, say at which input.
  Laid BY PROGRAM, IN A SANDBOX (cutbox-rows.mjs): the forced cells as the released guide's own fill.sh prints them over the translation 08f3e3885d17fd3a… (all of the seat's roots in one cut). By AI agents, Wed Nov 11 2026. No macro, syntax, notation, axiom, sorry.
-/
import Derived.Test.YtpapbpekihgnlaaDoorChecked
import GoSem.PinnedTables
import GoSem.Claim
import GoSem.ClaimJoined
import GoSem.ClaimMapViews
import Derived.JoinedTies
import Derived.KernelRfl
namespace Go.Proofs.YtpapbpekihgnlaaDoor
/- THE CELL 'sum', in the pinned program and in every row, IS THE sha256 OF THE DUMP (.gsa) THAT YtpapbpekihgnlaaDoorProg.lean LOADS. Nothing in Lean hashes anything: it is a label: what it is worth is what the hold of that sum in a sandbox is worth. -/
noncomputable def Tryd.pinned : Pinned := { name := "ytpapbpekihgnlaadoor", sum := "08f3e3885d17fd3a190274535e3cf4b6443658ae54749951829ccb360c04fe93", checked := Tryd.checked }
namespace Rows
def none {H : Type} : Left H := { results := [], args := [] }

/- WHAT THE LISTED PACKAGE-LEVEL VARIABLES READ AS WHEN THE CALL BEGINS. Each datum BY PROGRAM (the guide's laid-datum.mjs) off the statement by which the dump's own 'gosem.cut.vars' lays the variable. In a bare row this is a premise. The card (YtpapbpekihgnlaaDoorCards.lean) ties it to the program's text. -/
def laid_math_bits_deBruijn32tab {H : Type} : DataW H := .agg [.lit (.int .u8 0), .lit (.int .u8 1), .lit (.int .u8 28), .lit (.int .u8 2), .lit (.int .u8 29), .lit (.int .u8 14), .lit (.int .u8 24), .lit (.int .u8 3), .lit (.int .u8 30), .lit (.int .u8 22), .lit (.int .u8 20), .lit (.int .u8 15), .lit (.int .u8 25), .lit (.int .u8 17), .lit (.int .u8 4), .lit (.int .u8 8), .lit (.int .u8 31), .lit (.int .u8 27), .lit (.int .u8 13), .lit (.int .u8 23), .lit (.int .u8 21), .lit (.int .u8 19), .lit (.int .u8 16), .lit (.int .u8 7), .lit (.int .u8 26), .lit (.int .u8 12), .lit (.int .u8 18), .lit (.int .u8 6), .lit (.int .u8 11), .lit (.int .u8 5), .lit (.int .u8 10), .lit (.int .u8 9)]
def laid_math_bits_deBruijn64tab {H : Type} : DataW H := .agg [.lit (.int .u8 0), .lit (.int .u8 1), .lit (.int .u8 56), .lit (.int .u8 2), .lit (.int .u8 57), .lit (.int .u8 49), .lit (.int .u8 28), .lit (.int .u8 3), .lit (.int .u8 61), .lit (.int .u8 58), .lit (.int .u8 42), .lit (.int .u8 50), .lit (.int .u8 38), .lit (.int .u8 29), .lit (.int .u8 17), .lit (.int .u8 4), .lit (.int .u8 62), .lit (.int .u8 47), .lit (.int .u8 59), .lit (.int .u8 36), .lit (.int .u8 45), .lit (.int .u8 43), .lit (.int .u8 51), .lit (.int .u8 22), .lit (.int .u8 53), .lit (.int .u8 39), .lit (.int .u8 33), .lit (.int .u8 30), .lit (.int .u8 24), .lit (.int .u8 18), .lit (.int .u8 12), .lit (.int .u8 5), .lit (.int .u8 63), .lit (.int .u8 55), .lit (.int .u8 48), .lit (.int .u8 27), .lit (.int .u8 60), .lit (.int .u8 41), .lit (.int .u8 37), .lit (.int .u8 16), .lit (.int .u8 46), .lit (.int .u8 35), .lit (.int .u8 44), .lit (.int .u8 21), .lit (.int .u8 52), .lit (.int .u8 32), .lit (.int .u8 23), .lit (.int .u8 11), .lit (.int .u8 54), .lit (.int .u8 26), .lit (.int .u8 40), .lit (.int .u8 15), .lit (.int .u8 34), .lit (.int .u8 20), .lit (.int .u8 31), .lit (.int .u8 10), .lit (.int .u8 25), .lit (.int .u8 14), .lit (.int .u8 19), .lit (.int .u8 9), .lit (.int .u8 13), .lit (.int .u8 8), .lit (.int .u8 7), .lit (.int .u8 6)]
def laid_internal_strconv_uint64pow10 {H : Type} : DataW H := .agg [.lit (.int .u64 1), .lit (.int .u64 10), .lit (.int .u64 100), .lit (.int .u64 1000), .lit (.int .u64 10000), .lit (.int .u64 100000), .lit (.int .u64 1000000), .lit (.int .u64 10000000), .lit (.int .u64 100000000), .lit (.int .u64 1000000000), .lit (.int .u64 10000000000), .lit (.int .u64 100000000000), .lit (.int .u64 1000000000000), .lit (.int .u64 10000000000000), .lit (.int .u64 100000000000000), .lit (.int .u64 1000000000000000), .lit (.int .u64 10000000000000000), .lit (.int .u64 100000000000000000), .lit (.int .u64 1000000000000000000), .lit (.int .u64 10000000000000000000)]
def laid_unicode_utf8_acceptRanges {H : Type} : DataW H := .agg [.agg [.lit (.int .u8 128), .lit (.int .u8 191)], .agg [.lit (.int .u8 160), .lit (.int .u8 191)], .agg [.lit (.int .u8 128), .lit (.int .u8 159)], .agg [.lit (.int .u8 144), .lit (.int .u8 191)], .agg [.lit (.int .u8 128), .lit (.int .u8 143)], .agg [.lit (.int .u8 0), .lit (.int .u8 0)], .agg [.lit (.int .u8 0), .lit (.int .u8 0)], .agg [.lit (.int .u8 0), .lit (.int .u8 0)], .agg [.lit (.int .u8 0), .lit (.int .u8 0)], .agg [.lit (.int .u8 0), .lit (.int .u8 0)], .agg [.lit (.int .u8 0), .lit (.int .u8 0)], .agg [.lit (.int .u8 0), .lit (.int .u8 0)], .agg [.lit (.int .u8 0), .lit (.int .u8 0)], .agg [.lit (.int .u8 0), .lit (.int .u8 0)], .agg [.lit (.int .u8 0), .lit (.int .u8 0)], .agg [.lit (.int .u8 0), .lit (.int .u8 0)]]
def laid_strconv_ErrRange {H : Type} : DataW H := .iface "*errors.errorString" (.ptr (.agg [.lit (.string [118, 97, 108, 117, 101, 32, 111, 117, 116, 32, 111, 102, 32, 114, 97, 110, 103, 101])]))
def laid_strconv_ErrSyntax {H : Type} : DataW H := .iface "*errors.errorString" (.ptr (.agg [.lit (.string [105, 110, 118, 97, 108, 105, 100, 32, 115, 121, 110, 116, 97, 120])]))
/-- One of Go's own tables, pinned by name: the form's constant. -/
def laid_unicode_utf8_first : DataW Unit := Go.Pinned.utf8First

/-- 'keyholelaw03.BitsetBuilds': WHATEVER THE INPUT: true; the input reads as it did. -/
def bitsetBuildsSpec : ChangeSpec := { name := "bitsetBuilds", fn := fun _ => fun
  | [d1, d2, d3] => { results := [.lit (.bool true)], args := [d1, d2, d3] }
  | _ => none }
def bitsetBuildsRow : OpenClaim := { program := "ytpapbpekihgnlaadoor", sum := "08f3e3885d17fd3a190274535e3cf4b6443658ae54749951829ccb360c04fe93", func := "keyhole/keyholelaw03.BitsetBuilds", spec := "bitsetBuilds", inPlace := ["internal/abi.NoEscape"], named := ["math/bits.deBruijn64tab", "internal/strconv.uint64pow10", "math/bits.deBruijn32tab"], apart := false, laid := [("math/bits.deBruijn32tab", laid_math_bits_deBruijn32tab), ("math/bits.deBruijn64tab", laid_math_bits_deBruijn64tab), ("internal/strconv.uint64pow10", laid_internal_strconv_uint64pow10)] }
def BitsetBuildsSaid : Prop := bitsetBuildsRow.holds Tryd.pinned (OpenSpec.ofChange bitsetBuildsSpec)

/-- ITS FALSE NEIGHBOUR: 'it returns false'. Refute it at one input. -/
def bitsetBuildsWrong : ChangeSpec := { name := "bitsetBuilds", fn := fun _ => fun
  | [d1, d2, d3] => { results := [.lit (.bool false)], args := [d1, d2, d3] }
  | _ => none }
def BitsetBuildsWrongFalsely : Prop := bitsetBuildsRow.holds Tryd.pinned (OpenSpec.ofChange bitsetBuildsWrong)

/-- 'keyholelaw03.BitsetChanges': WHATEVER THE INPUT: true; the input reads as it did. -/
def bitsetChangesSpec : ChangeSpec := { name := "bitsetChanges", fn := fun _ => fun
  | [d1, d2] => { results := [.lit (.bool true)], args := [d1, d2] }
  | _ => none }
def bitsetChangesRow : OpenClaim := { program := "ytpapbpekihgnlaadoor", sum := "08f3e3885d17fd3a190274535e3cf4b6443658ae54749951829ccb360c04fe93", func := "keyhole/keyholelaw03.BitsetChanges", spec := "bitsetChanges", inPlace := ["internal/abi.NoEscape"], named := ["math/bits.deBruijn64tab", "internal/strconv.uint64pow10", "math/bits.deBruijn32tab"], apart := false, laid := [("math/bits.deBruijn32tab", laid_math_bits_deBruijn32tab), ("math/bits.deBruijn64tab", laid_math_bits_deBruijn64tab), ("internal/strconv.uint64pow10", laid_internal_strconv_uint64pow10)] }
def BitsetChangesSaid : Prop := bitsetChangesRow.holds Tryd.pinned (OpenSpec.ofChange bitsetChangesSpec)

/-- ITS FALSE NEIGHBOUR: 'it returns false'. Refute it at one input. -/
def bitsetChangesWrong : ChangeSpec := { name := "bitsetChanges", fn := fun _ => fun
  | [d1, d2] => { results := [.lit (.bool false)], args := [d1, d2] }
  | _ => none }
def BitsetChangesWrongFalsely : Prop := bitsetChangesRow.holds Tryd.pinned (OpenSpec.ofChange bitsetChangesWrong)

/-- 'keyholelaw03.BitsetCompares': WHATEVER THE INPUT: true; the input reads as it did. -/
def bitsetComparesSpec : ChangeSpec := { name := "bitsetCompares", fn := fun _ => fun
  | [d1, d2] => { results := [.lit (.bool true)], args := [d1, d2] }
  | _ => none }
def bitsetComparesRow : OpenClaim := { program := "ytpapbpekihgnlaadoor", sum := "08f3e3885d17fd3a190274535e3cf4b6443658ae54749951829ccb360c04fe93", func := "keyhole/keyholelaw03.BitsetCompares", spec := "bitsetCompares", inPlace := ["internal/abi.NoEscape"], named := ["math/bits.deBruijn64tab", "internal/strconv.uint64pow10", "math/bits.deBruijn32tab"], apart := false, laid := [("math/bits.deBruijn32tab", laid_math_bits_deBruijn32tab), ("math/bits.deBruijn64tab", laid_math_bits_deBruijn64tab), ("internal/strconv.uint64pow10", laid_internal_strconv_uint64pow10)] }
def BitsetComparesSaid : Prop := bitsetComparesRow.holds Tryd.pinned (OpenSpec.ofChange bitsetComparesSpec)

/-- ITS FALSE NEIGHBOUR: 'it returns false'. Refute it at one input. -/
def bitsetComparesWrong : ChangeSpec := { name := "bitsetCompares", fn := fun _ => fun
  | [d1, d2] => { results := [.lit (.bool false)], args := [d1, d2] }
  | _ => none }
def BitsetComparesWrongFalsely : Prop := bitsetComparesRow.holds Tryd.pinned (OpenSpec.ofChange bitsetComparesWrong)

/-- 'keyholelaw03.BitsetCombines': WHATEVER THE INPUT: true; the input reads as it did. -/
def bitsetCombinesSpec : ChangeSpec := { name := "bitsetCombines", fn := fun _ => fun
  | [d1, d2] => { results := [.lit (.bool true)], args := [d1, d2] }
  | _ => none }
def bitsetCombinesRow : OpenClaim := { program := "ytpapbpekihgnlaadoor", sum := "08f3e3885d17fd3a190274535e3cf4b6443658ae54749951829ccb360c04fe93", func := "keyhole/keyholelaw03.BitsetCombines", spec := "bitsetCombines", inPlace := ["internal/abi.NoEscape"], named := ["math/bits.deBruijn64tab", "internal/strconv.uint64pow10", "math/bits.deBruijn32tab"], apart := false, laid := [("math/bits.deBruijn32tab", laid_math_bits_deBruijn32tab), ("math/bits.deBruijn64tab", laid_math_bits_deBruijn64tab), ("internal/strconv.uint64pow10", laid_internal_strconv_uint64pow10)] }
def BitsetCombinesSaid : Prop := bitsetCombinesRow.holds Tryd.pinned (OpenSpec.ofChange bitsetCombinesSpec)

/-- ITS FALSE NEIGHBOUR: 'it returns false'. Refute it at one input. -/
def bitsetCombinesWrong : ChangeSpec := { name := "bitsetCombines", fn := fun _ => fun
  | [d1, d2] => { results := [.lit (.bool false)], args := [d1, d2] }
  | _ => none }
def BitsetCombinesWrongFalsely : Prop := bitsetCombinesRow.holds Tryd.pinned (OpenSpec.ofChange bitsetCombinesWrong)

/-- 'keyholelaw03.BitsetCounts': WHATEVER THE INPUT: true; the input reads as it did. -/
def bitsetCountsSpec : ChangeSpec := { name := "bitsetCounts", fn := fun _ => fun
  | [d1, d2] => { results := [.lit (.bool true)], args := [d1, d2] }
  | _ => none }
def bitsetCountsRow : OpenClaim := { program := "ytpapbpekihgnlaadoor", sum := "08f3e3885d17fd3a190274535e3cf4b6443658ae54749951829ccb360c04fe93", func := "keyhole/keyholelaw03.BitsetCounts", spec := "bitsetCounts", inPlace := ["internal/abi.NoEscape"], named := ["math/bits.deBruijn64tab", "internal/strconv.uint64pow10", "math/bits.deBruijn32tab"], apart := false, laid := [("math/bits.deBruijn32tab", laid_math_bits_deBruijn32tab), ("math/bits.deBruijn64tab", laid_math_bits_deBruijn64tab), ("internal/strconv.uint64pow10", laid_internal_strconv_uint64pow10)] }
def BitsetCountsSaid : Prop := bitsetCountsRow.holds Tryd.pinned (OpenSpec.ofChange bitsetCountsSpec)

/-- ITS FALSE NEIGHBOUR: 'it returns false'. Refute it at one input. -/
def bitsetCountsWrong : ChangeSpec := { name := "bitsetCounts", fn := fun _ => fun
  | [d1, d2] => { results := [.lit (.bool false)], args := [d1, d2] }
  | _ => none }
def BitsetCountsWrongFalsely : Prop := bitsetCountsRow.holds Tryd.pinned (OpenSpec.ofChange bitsetCountsWrong)

/-- 'keyholelaw03.BitsetAlgebra': WHATEVER THE INPUT: true; the input reads as it did. -/
def bitsetAlgebraSpec : ChangeSpec := { name := "bitsetAlgebra", fn := fun _ => fun
  | [d1, d2, d3] => { results := [.lit (.bool true)], args := [d1, d2, d3] }
  | _ => none }
def bitsetAlgebraRow : OpenClaim := { program := "ytpapbpekihgnlaadoor", sum := "08f3e3885d17fd3a190274535e3cf4b6443658ae54749951829ccb360c04fe93", func := "keyhole/keyholelaw03.BitsetAlgebra", spec := "bitsetAlgebra", inPlace := ["internal/abi.NoEscape"], named := ["math/bits.deBruijn64tab", "internal/strconv.uint64pow10", "math/bits.deBruijn32tab"], apart := false, laid := [("math/bits.deBruijn32tab", laid_math_bits_deBruijn32tab), ("math/bits.deBruijn64tab", laid_math_bits_deBruijn64tab), ("internal/strconv.uint64pow10", laid_internal_strconv_uint64pow10)] }
def BitsetAlgebraSaid : Prop := bitsetAlgebraRow.holds Tryd.pinned (OpenSpec.ofChange bitsetAlgebraSpec)

/-- ITS FALSE NEIGHBOUR: 'it returns false'. Refute it at one input. -/
def bitsetAlgebraWrong : ChangeSpec := { name := "bitsetAlgebra", fn := fun _ => fun
  | [d1, d2, d3] => { results := [.lit (.bool false)], args := [d1, d2, d3] }
  | _ => none }
def BitsetAlgebraWrongFalsely : Prop := bitsetAlgebraRow.holds Tryd.pinned (OpenSpec.ofChange bitsetAlgebraWrong)

/-- 'keyholelaw03.BitsetWalks': WHATEVER THE INPUT: true; the input reads as it did. -/
def bitsetWalksSpec : ChangeSpec := { name := "bitsetWalks", fn := fun _ => fun
  | [d] => { results := [.lit (.bool true)], args := [d] }
  | _ => none }
def bitsetWalksRow : OpenClaim := { program := "ytpapbpekihgnlaadoor", sum := "08f3e3885d17fd3a190274535e3cf4b6443658ae54749951829ccb360c04fe93", func := "keyhole/keyholelaw03.BitsetWalks", spec := "bitsetWalks", inPlace := ["internal/abi.NoEscape"], named := ["math/bits.deBruijn64tab", "internal/strconv.uint64pow10", "math/bits.deBruijn32tab"], apart := false, laid := [("math/bits.deBruijn32tab", laid_math_bits_deBruijn32tab), ("math/bits.deBruijn64tab", laid_math_bits_deBruijn64tab), ("internal/strconv.uint64pow10", laid_internal_strconv_uint64pow10)] }
def BitsetWalksSaid : Prop := bitsetWalksRow.holds Tryd.pinned (OpenSpec.ofChange bitsetWalksSpec)

/-- ITS FALSE NEIGHBOUR: 'it returns false'. Refute it at one input. -/
def bitsetWalksWrong : ChangeSpec := { name := "bitsetWalks", fn := fun _ => fun
  | [d] => { results := [.lit (.bool false)], args := [d] }
  | _ => none }
def BitsetWalksWrongFalsely : Prop := bitsetWalksRow.holds Tryd.pinned (OpenSpec.ofChange bitsetWalksWrong)

/-- 'keyholelaw03.BitsetSizes': WHATEVER THE INPUT: true; the input reads as it did. -/
def bitsetSizesSpec : ChangeSpec := { name := "bitsetSizes", fn := fun _ => fun
  | [d1, d2] => { results := [.lit (.bool true)], args := [d1, d2] }
  | _ => none }
def bitsetSizesRow : OpenClaim := { program := "ytpapbpekihgnlaadoor", sum := "08f3e3885d17fd3a190274535e3cf4b6443658ae54749951829ccb360c04fe93", func := "keyhole/keyholelaw03.BitsetSizes", spec := "bitsetSizes", inPlace := ["internal/abi.NoEscape"], named := ["math/bits.deBruijn64tab", "internal/strconv.uint64pow10", "math/bits.deBruijn32tab"], apart := false, laid := [("math/bits.deBruijn32tab", laid_math_bits_deBruijn32tab), ("math/bits.deBruijn64tab", laid_math_bits_deBruijn64tab), ("internal/strconv.uint64pow10", laid_internal_strconv_uint64pow10)] }
def BitsetSizesSaid : Prop := bitsetSizesRow.holds Tryd.pinned (OpenSpec.ofChange bitsetSizesSpec)

/-- ITS FALSE NEIGHBOUR: 'it returns false'. Refute it at one input. -/
def bitsetSizesWrong : ChangeSpec := { name := "bitsetSizes", fn := fun _ => fun
  | [d1, d2] => { results := [.lit (.bool false)], args := [d1, d2] }
  | _ => none }
def BitsetSizesWrongFalsely : Prop := bitsetSizesRow.holds Tryd.pinned (OpenSpec.ofChange bitsetSizesWrong)

/-- 'keyholelaw03.BitsetTexts': WHATEVER THE INPUT: true; the input reads as it did. -/
def bitsetTextsSpec : ChangeSpec := { name := "bitsetTexts", fn := fun _ => fun
  | [d1, d2] => { results := [.lit (.bool true)], args := [d1, d2] }
  | _ => none }
def bitsetTextsRow : OpenClaim := { program := "ytpapbpekihgnlaadoor", sum := "08f3e3885d17fd3a190274535e3cf4b6443658ae54749951829ccb360c04fe93", func := "keyhole/keyholelaw03.BitsetTexts", spec := "bitsetTexts", inPlace := ["internal/abi.NoEscape", "internal/bytealg.IndexByteString", "internal/bytealg.IndexString", "internal/bytealg.CountString"], recurses := true, named := ["math/bits.deBruijn64tab", "internal/strconv.uint64pow10", "math/bits.deBruijn32tab", "internal/bytealg.MaxLen", "strconv.ErrSyntax", "strconv.ErrRange", "unicode/utf8.first", "unicode/utf8.acceptRanges"], apart := false, laid := [("math/bits.deBruijn32tab", laid_math_bits_deBruijn32tab), ("math/bits.deBruijn64tab", laid_math_bits_deBruijn64tab), ("internal/strconv.uint64pow10", laid_internal_strconv_uint64pow10), ("unicode/utf8.acceptRanges", laid_unicode_utf8_acceptRanges), ("strconv.ErrRange", laid_strconv_ErrRange), ("strconv.ErrSyntax", laid_strconv_ErrSyntax), ("unicode/utf8.first", laid_unicode_utf8_first)] }
def BitsetTextsSaid : Prop := bitsetTextsRow.holds Tryd.pinned (OpenSpec.ofChange bitsetTextsSpec)

/-- ITS FALSE NEIGHBOUR: 'it returns false'. Refute it at one input. -/
def bitsetTextsWrong : ChangeSpec := { name := "bitsetTexts", fn := fun _ => fun
  | [d1, d2] => { results := [.lit (.bool false)], args := [d1, d2] }
  | _ => none }
def BitsetTextsWrongFalsely : Prop := bitsetTextsRow.holds Tryd.pinned (OpenSpec.ofChange bitsetTextsWrong)

/- THE SECOND FORM. 'bulk': how many values and letters a reading holds, each counted each time it is reached (what is shared counts as often as it is met; a slice's spare places count too). A statement '..UptoSaid' is the law's where the arguments, and the package variables that the reading takes, are together of bulk at most 1048576: NARROWER than '..Said'. Prove '..Said' where nothing that the law and all that it calls make is longer than what came in: it says more and counts as full. Else prove '..UptoSaid'. A law counts once. -/
mutual
def uptoBulk {H : Type} : DataW H → Nat
  | .lit (.string bytes) => bytes.length + 1
  | .lit _ => 1
  | .nil => 1
  | .ptr d => uptoBulk d + 1
  | .slice elems spare => uptoBulkAll elems + uptoBulkAll spare + 1
  | .agg parts => uptoBulkAll parts + 1
  | .iface _ d => uptoBulk d + 1
  | .map entries => uptoBulkEntries entries + 1
  | .held _ => 1
def uptoBulkAll {H : Type} : List (DataW H) → Nat
  | [] => 0
  | d :: r => uptoBulk d + uptoBulkAll r
def uptoBulkEntries {H : Type} : List (Lit × DataW H) → Nat
  | [] => 0
  | x :: r => uptoBulkEntry x + uptoBulkEntries r
def uptoBulkEntry {H : Type} : Lit × DataW H → Nat
  | (.string bytes, d) => bytes.length + uptoBulk d + 1
  | (_, d) => uptoBulk d + 1
 end
def uptoSmall : (H : Type) → List (DataW H) → Bool := fun _ ds => decide (uptoBulkAll ds ≤ 1048576)
def OpenSpec.upto (s : _root_.Go.ChangeSpec) : _root_.Go.OpenSpec := { _root_.Go.OpenSpec.ofChange s with cond := some uptoSmall }

/-- 'keyholelaw03.BitsetBuilds', WHERE WHAT IT READS IS OF BULK AT MOST 1048576: true; the input reads as it did. -/
def bitsetBuildsUptoRow : OpenClaim := { program := "ytpapbpekihgnlaadoor", sum := "08f3e3885d17fd3a190274535e3cf4b6443658ae54749951829ccb360c04fe93", func := "keyhole/keyholelaw03.BitsetBuilds", spec := "bitsetBuilds", inPlace := ["internal/abi.NoEscape"], named := ["math/bits.deBruijn64tab", "internal/strconv.uint64pow10", "math/bits.deBruijn32tab"], apart := false, laid := [("math/bits.deBruijn32tab", laid_math_bits_deBruijn32tab), ("math/bits.deBruijn64tab", laid_math_bits_deBruijn64tab), ("internal/strconv.uint64pow10", laid_internal_strconv_uint64pow10)], narrowed := true }
def BitsetBuildsUptoSaid : Prop := bitsetBuildsUptoRow.holds Tryd.pinned (OpenSpec.upto bitsetBuildsSpec)

/-- 'keyholelaw03.BitsetChanges', WHERE WHAT IT READS IS OF BULK AT MOST 1048576: true; the input reads as it did. -/
def bitsetChangesUptoRow : OpenClaim := { program := "ytpapbpekihgnlaadoor", sum := "08f3e3885d17fd3a190274535e3cf4b6443658ae54749951829ccb360c04fe93", func := "keyhole/keyholelaw03.BitsetChanges", spec := "bitsetChanges", inPlace := ["internal/abi.NoEscape"], named := ["math/bits.deBruijn64tab", "internal/strconv.uint64pow10", "math/bits.deBruijn32tab"], apart := false, laid := [("math/bits.deBruijn32tab", laid_math_bits_deBruijn32tab), ("math/bits.deBruijn64tab", laid_math_bits_deBruijn64tab), ("internal/strconv.uint64pow10", laid_internal_strconv_uint64pow10)], narrowed := true }
def BitsetChangesUptoSaid : Prop := bitsetChangesUptoRow.holds Tryd.pinned (OpenSpec.upto bitsetChangesSpec)

/-- 'keyholelaw03.BitsetCompares', WHERE WHAT IT READS IS OF BULK AT MOST 1048576: true; the input reads as it did. -/
def bitsetComparesUptoRow : OpenClaim := { program := "ytpapbpekihgnlaadoor", sum := "08f3e3885d17fd3a190274535e3cf4b6443658ae54749951829ccb360c04fe93", func := "keyhole/keyholelaw03.BitsetCompares", spec := "bitsetCompares", inPlace := ["internal/abi.NoEscape"], named := ["math/bits.deBruijn64tab", "internal/strconv.uint64pow10", "math/bits.deBruijn32tab"], apart := false, laid := [("math/bits.deBruijn32tab", laid_math_bits_deBruijn32tab), ("math/bits.deBruijn64tab", laid_math_bits_deBruijn64tab), ("internal/strconv.uint64pow10", laid_internal_strconv_uint64pow10)], narrowed := true }
def BitsetComparesUptoSaid : Prop := bitsetComparesUptoRow.holds Tryd.pinned (OpenSpec.upto bitsetComparesSpec)

/-- 'keyholelaw03.BitsetCombines', WHERE WHAT IT READS IS OF BULK AT MOST 1048576: true; the input reads as it did. -/
def bitsetCombinesUptoRow : OpenClaim := { program := "ytpapbpekihgnlaadoor", sum := "08f3e3885d17fd3a190274535e3cf4b6443658ae54749951829ccb360c04fe93", func := "keyhole/keyholelaw03.BitsetCombines", spec := "bitsetCombines", inPlace := ["internal/abi.NoEscape"], named := ["math/bits.deBruijn64tab", "internal/strconv.uint64pow10", "math/bits.deBruijn32tab"], apart := false, laid := [("math/bits.deBruijn32tab", laid_math_bits_deBruijn32tab), ("math/bits.deBruijn64tab", laid_math_bits_deBruijn64tab), ("internal/strconv.uint64pow10", laid_internal_strconv_uint64pow10)], narrowed := true }
def BitsetCombinesUptoSaid : Prop := bitsetCombinesUptoRow.holds Tryd.pinned (OpenSpec.upto bitsetCombinesSpec)

/-- 'keyholelaw03.BitsetCounts', WHERE WHAT IT READS IS OF BULK AT MOST 1048576: true; the input reads as it did. -/
def bitsetCountsUptoRow : OpenClaim := { program := "ytpapbpekihgnlaadoor", sum := "08f3e3885d17fd3a190274535e3cf4b6443658ae54749951829ccb360c04fe93", func := "keyhole/keyholelaw03.BitsetCounts", spec := "bitsetCounts", inPlace := ["internal/abi.NoEscape"], named := ["math/bits.deBruijn64tab", "internal/strconv.uint64pow10", "math/bits.deBruijn32tab"], apart := false, laid := [("math/bits.deBruijn32tab", laid_math_bits_deBruijn32tab), ("math/bits.deBruijn64tab", laid_math_bits_deBruijn64tab), ("internal/strconv.uint64pow10", laid_internal_strconv_uint64pow10)], narrowed := true }
def BitsetCountsUptoSaid : Prop := bitsetCountsUptoRow.holds Tryd.pinned (OpenSpec.upto bitsetCountsSpec)

/-- 'keyholelaw03.BitsetAlgebra', WHERE WHAT IT READS IS OF BULK AT MOST 1048576: true; the input reads as it did. -/
def bitsetAlgebraUptoRow : OpenClaim := { program := "ytpapbpekihgnlaadoor", sum := "08f3e3885d17fd3a190274535e3cf4b6443658ae54749951829ccb360c04fe93", func := "keyhole/keyholelaw03.BitsetAlgebra", spec := "bitsetAlgebra", inPlace := ["internal/abi.NoEscape"], named := ["math/bits.deBruijn64tab", "internal/strconv.uint64pow10", "math/bits.deBruijn32tab"], apart := false, laid := [("math/bits.deBruijn32tab", laid_math_bits_deBruijn32tab), ("math/bits.deBruijn64tab", laid_math_bits_deBruijn64tab), ("internal/strconv.uint64pow10", laid_internal_strconv_uint64pow10)], narrowed := true }
def BitsetAlgebraUptoSaid : Prop := bitsetAlgebraUptoRow.holds Tryd.pinned (OpenSpec.upto bitsetAlgebraSpec)

/-- 'keyholelaw03.BitsetWalks', WHERE WHAT IT READS IS OF BULK AT MOST 1048576: true; the input reads as it did. -/
def bitsetWalksUptoRow : OpenClaim := { program := "ytpapbpekihgnlaadoor", sum := "08f3e3885d17fd3a190274535e3cf4b6443658ae54749951829ccb360c04fe93", func := "keyhole/keyholelaw03.BitsetWalks", spec := "bitsetWalks", inPlace := ["internal/abi.NoEscape"], named := ["math/bits.deBruijn64tab", "internal/strconv.uint64pow10", "math/bits.deBruijn32tab"], apart := false, laid := [("math/bits.deBruijn32tab", laid_math_bits_deBruijn32tab), ("math/bits.deBruijn64tab", laid_math_bits_deBruijn64tab), ("internal/strconv.uint64pow10", laid_internal_strconv_uint64pow10)], narrowed := true }
def BitsetWalksUptoSaid : Prop := bitsetWalksUptoRow.holds Tryd.pinned (OpenSpec.upto bitsetWalksSpec)

/-- 'keyholelaw03.BitsetSizes', WHERE WHAT IT READS IS OF BULK AT MOST 1048576: true; the input reads as it did. -/
def bitsetSizesUptoRow : OpenClaim := { program := "ytpapbpekihgnlaadoor", sum := "08f3e3885d17fd3a190274535e3cf4b6443658ae54749951829ccb360c04fe93", func := "keyhole/keyholelaw03.BitsetSizes", spec := "bitsetSizes", inPlace := ["internal/abi.NoEscape"], named := ["math/bits.deBruijn64tab", "internal/strconv.uint64pow10", "math/bits.deBruijn32tab"], apart := false, laid := [("math/bits.deBruijn32tab", laid_math_bits_deBruijn32tab), ("math/bits.deBruijn64tab", laid_math_bits_deBruijn64tab), ("internal/strconv.uint64pow10", laid_internal_strconv_uint64pow10)], narrowed := true }
def BitsetSizesUptoSaid : Prop := bitsetSizesUptoRow.holds Tryd.pinned (OpenSpec.upto bitsetSizesSpec)

/-- 'keyholelaw03.BitsetTexts', WHERE WHAT IT READS IS OF BULK AT MOST 1048576: true; the input reads as it did. -/
def bitsetTextsUptoRow : OpenClaim := { program := "ytpapbpekihgnlaadoor", sum := "08f3e3885d17fd3a190274535e3cf4b6443658ae54749951829ccb360c04fe93", func := "keyhole/keyholelaw03.BitsetTexts", spec := "bitsetTexts", inPlace := ["internal/abi.NoEscape", "internal/bytealg.IndexByteString", "internal/bytealg.IndexString", "internal/bytealg.CountString"], recurses := true, named := ["math/bits.deBruijn64tab", "internal/strconv.uint64pow10", "math/bits.deBruijn32tab", "internal/bytealg.MaxLen", "strconv.ErrSyntax", "strconv.ErrRange", "unicode/utf8.first", "unicode/utf8.acceptRanges"], apart := false, laid := [("math/bits.deBruijn32tab", laid_math_bits_deBruijn32tab), ("math/bits.deBruijn64tab", laid_math_bits_deBruijn64tab), ("internal/strconv.uint64pow10", laid_internal_strconv_uint64pow10), ("unicode/utf8.acceptRanges", laid_unicode_utf8_acceptRanges), ("strconv.ErrRange", laid_strconv_ErrRange), ("strconv.ErrSyntax", laid_strconv_ErrSyntax), ("unicode/utf8.first", laid_unicode_utf8_first)], narrowed := true }
def BitsetTextsUptoSaid : Prop := bitsetTextsUptoRow.holds Tryd.pinned (OpenSpec.upto bitsetTextsSpec)

end Rows
end Go.Proofs.YtpapbpekihgnlaaDoor
