/-
  NARROWER THAN 'FOR EVERY INPUT', by the rows' own cells (each row's printed sentence says how): PolicyChecks: laid · PolicyTexts: laid · PolicyInverse: laid · PolicyBlanks: laid · PolicyLevels: laid.
  DERIVED. THE GIVEN ROWS OF THIS SEAT. 5 by the template 'for every input the law returns true; each argument reads behind the call as it read before'; 0 by the template 'total and deterministic' (their statements: YtnipigninbeplaaDoorTotals.lean).
  GIVEN WITH THE SEED: the statements are not yours to turn. If you find one false, say at which input.
  Laid BY PROGRAM, IN A SANDBOX (cutbox-rows.mjs): the forced cells as the released guide's own fill.sh prints them over the translation c54e6e249a87182e… (all of the seat's roots in one cut). By AI agents, Wed Nov 11 2026. No macro, syntax, notation, axiom, sorry.
-/
import Derived.Test.YtnipigninbeplaaDoorChecked
import GoSem.PinnedTables
import GoSem.Claim
import GoSem.ClaimJoined
import GoSem.ClaimMapViews
import Derived.JoinedTies
import Derived.KernelRfl
namespace Go.Proofs.YtnipigninbeplaaDoor
/- THE CELL 'sum', in the pinned program and in every row, IS THE sha256 OF THE DUMP (.gsa) THAT YtnipigninbeplaaDoorProg.lean LOADS. Nothing in Lean hashes anything: it is a label: what it is worth is what the hold of that sum in a sandbox is worth. -/
noncomputable def Tryd.pinned : Pinned := { name := "ytnipigninbeplaadoor", sum := "c54e6e249a87182edd1d3c1f4f502a0878b7eef78852e1a26a9154227f717f65", checked := Tryd.checked }
namespace Rows
def none {H : Type} : Left H := { results := [], args := [] }

/- WHAT THE LISTED PACKAGE-LEVEL VARIABLES READ AS WHEN THE CALL BEGINS. Each datum BY PROGRAM (the guide's laid-datum.mjs) off the statement by which the dump's own 'gosem.cut.vars' lays the variable. In a bare row this is a premise. The card (YtnipigninbeplaaDoorCards.lean) ties it to the program's text. -/
def laid_unicode_utf8_acceptRanges {H : Type} : DataW H := .agg [.agg [.lit (.int .u8 128), .lit (.int .u8 191)], .agg [.lit (.int .u8 160), .lit (.int .u8 191)], .agg [.lit (.int .u8 128), .lit (.int .u8 159)], .agg [.lit (.int .u8 144), .lit (.int .u8 191)], .agg [.lit (.int .u8 128), .lit (.int .u8 143)], .agg [.lit (.int .u8 0), .lit (.int .u8 0)], .agg [.lit (.int .u8 0), .lit (.int .u8 0)], .agg [.lit (.int .u8 0), .lit (.int .u8 0)], .agg [.lit (.int .u8 0), .lit (.int .u8 0)], .agg [.lit (.int .u8 0), .lit (.int .u8 0)], .agg [.lit (.int .u8 0), .lit (.int .u8 0)], .agg [.lit (.int .u8 0), .lit (.int .u8 0)], .agg [.lit (.int .u8 0), .lit (.int .u8 0)], .agg [.lit (.int .u8 0), .lit (.int .u8 0)], .agg [.lit (.int .u8 0), .lit (.int .u8 0)], .agg [.lit (.int .u8 0), .lit (.int .u8 0)]]
/-- One of Go's own tables, pinned by name: the form's constant. -/
def laid_unicode_utf8_first : DataW Unit := Go.Pinned.utf8First

/-- 'keyholelaw19.PolicyChecks': WHATEVER THE INPUT: true; the input reads as it did. -/
def policyChecksSpec : ChangeSpec := { name := "policyChecks", fn := fun _ => fun
  | [d] => { results := [.lit (.bool true)], args := [d] }
  | _ => none }
def policyChecksRow : OpenClaim := { program := "ytnipigninbeplaadoor", sum := "c54e6e249a87182edd1d3c1f4f502a0878b7eef78852e1a26a9154227f717f65", func := "keyhole/keyholelaw19.PolicyChecks", spec := "policyChecks", inPlace := ["internal/abi.NoEscape", "internal/bytealg.MakeNoZero", "internal/bytealg.CountString", "internal/bytealg.IndexByteString", "internal/bytealg.IndexString"], unfollowed := true, recurses := true, named := ["unicode/utf8.first", "unicode/utf8.acceptRanges", "internal/bytealg.MaxLen"], apart := false, laid := [("unicode/utf8.acceptRanges", laid_unicode_utf8_acceptRanges), ("unicode/utf8.first", laid_unicode_utf8_first)] }
def PolicyChecksSaid : Prop := policyChecksRow.holds Tryd.pinned (OpenSpec.ofChange policyChecksSpec)

/-- ITS FALSE NEIGHBOUR: 'it returns false'. Refute it at one input. -/
def policyChecksWrong : ChangeSpec := { name := "policyChecks", fn := fun _ => fun
  | [d] => { results := [.lit (.bool false)], args := [d] }
  | _ => none }
def PolicyChecksWrongFalsely : Prop := policyChecksRow.holds Tryd.pinned (OpenSpec.ofChange policyChecksWrong)

/-- 'keyholelaw19.PolicyTexts': WHATEVER THE INPUT: true; the input reads as it did. -/
def policyTextsSpec : ChangeSpec := { name := "policyTexts", fn := fun _ => fun
  | [d1, d2] => { results := [.lit (.bool true)], args := [d1, d2] }
  | _ => none }
def policyTextsRow : OpenClaim := { program := "ytnipigninbeplaadoor", sum := "c54e6e249a87182edd1d3c1f4f502a0878b7eef78852e1a26a9154227f717f65", func := "keyhole/keyholelaw19.PolicyTexts", spec := "policyTexts", inPlace := ["internal/abi.NoEscape", "internal/bytealg.MakeNoZero", "internal/bytealg.CountString", "internal/bytealg.IndexByteString", "internal/bytealg.IndexString"], unfollowed := true, recurses := true, named := ["unicode/utf8.first", "unicode/utf8.acceptRanges", "internal/bytealg.MaxLen"], apart := false, laid := [("unicode/utf8.acceptRanges", laid_unicode_utf8_acceptRanges), ("unicode/utf8.first", laid_unicode_utf8_first)] }
def PolicyTextsSaid : Prop := policyTextsRow.holds Tryd.pinned (OpenSpec.ofChange policyTextsSpec)

/-- ITS FALSE NEIGHBOUR: 'it returns false'. Refute it at one input. -/
def policyTextsWrong : ChangeSpec := { name := "policyTexts", fn := fun _ => fun
  | [d1, d2] => { results := [.lit (.bool false)], args := [d1, d2] }
  | _ => none }
def PolicyTextsWrongFalsely : Prop := policyTextsRow.holds Tryd.pinned (OpenSpec.ofChange policyTextsWrong)

/-- 'keyholelaw19.PolicyInverse': WHATEVER THE INPUT: true; the input reads as it did. -/
def policyInverseSpec : ChangeSpec := { name := "policyInverse", fn := fun _ => fun
  | [d] => { results := [.lit (.bool true)], args := [d] }
  | _ => none }
def policyInverseRow : OpenClaim := { program := "ytnipigninbeplaadoor", sum := "c54e6e249a87182edd1d3c1f4f502a0878b7eef78852e1a26a9154227f717f65", func := "keyhole/keyholelaw19.PolicyInverse", spec := "policyInverse", inPlace := ["internal/abi.NoEscape", "internal/bytealg.MakeNoZero", "internal/bytealg.CountString", "internal/bytealg.IndexByteString", "internal/bytealg.IndexString"], unfollowed := true, recurses := true, named := ["unicode/utf8.first", "unicode/utf8.acceptRanges", "internal/bytealg.MaxLen"], apart := false, laid := [("unicode/utf8.acceptRanges", laid_unicode_utf8_acceptRanges), ("unicode/utf8.first", laid_unicode_utf8_first)] }
def PolicyInverseSaid : Prop := policyInverseRow.holds Tryd.pinned (OpenSpec.ofChange policyInverseSpec)

/-- ITS FALSE NEIGHBOUR: 'it returns false'. Refute it at one input. -/
def policyInverseWrong : ChangeSpec := { name := "policyInverse", fn := fun _ => fun
  | [d] => { results := [.lit (.bool false)], args := [d] }
  | _ => none }
def PolicyInverseWrongFalsely : Prop := policyInverseRow.holds Tryd.pinned (OpenSpec.ofChange policyInverseWrong)

/-- 'keyholelaw19.PolicyBlanks': WHATEVER THE INPUT: true; the input reads as it did. -/
def policyBlanksSpec : ChangeSpec := { name := "policyBlanks", fn := fun _ => fun
  | [d1, d2] => { results := [.lit (.bool true)], args := [d1, d2] }
  | _ => none }
def policyBlanksRow : OpenClaim := { program := "ytnipigninbeplaadoor", sum := "c54e6e249a87182edd1d3c1f4f502a0878b7eef78852e1a26a9154227f717f65", func := "keyhole/keyholelaw19.PolicyBlanks", spec := "policyBlanks", inPlace := ["internal/abi.NoEscape", "internal/bytealg.MakeNoZero", "internal/bytealg.CountString", "internal/bytealg.IndexByteString", "internal/bytealg.IndexString"], unfollowed := true, recurses := true, named := ["unicode/utf8.first", "unicode/utf8.acceptRanges", "internal/bytealg.MaxLen"], apart := false, laid := [("unicode/utf8.acceptRanges", laid_unicode_utf8_acceptRanges), ("unicode/utf8.first", laid_unicode_utf8_first)] }
def PolicyBlanksSaid : Prop := policyBlanksRow.holds Tryd.pinned (OpenSpec.ofChange policyBlanksSpec)

/-- ITS FALSE NEIGHBOUR: 'it returns false'. Refute it at one input. -/
def policyBlanksWrong : ChangeSpec := { name := "policyBlanks", fn := fun _ => fun
  | [d1, d2] => { results := [.lit (.bool false)], args := [d1, d2] }
  | _ => none }
def PolicyBlanksWrongFalsely : Prop := policyBlanksRow.holds Tryd.pinned (OpenSpec.ofChange policyBlanksWrong)

/-- 'keyholelaw19.PolicyLevels': WHATEVER THE INPUT: true; the input reads as it did. -/
def policyLevelsSpec : ChangeSpec := { name := "policyLevels", fn := fun _ => fun
  | [d1, d2, d3] => { results := [.lit (.bool true)], args := [d1, d2, d3] }
  | _ => none }
def policyLevelsRow : OpenClaim := { program := "ytnipigninbeplaadoor", sum := "c54e6e249a87182edd1d3c1f4f502a0878b7eef78852e1a26a9154227f717f65", func := "keyhole/keyholelaw19.PolicyLevels", spec := "policyLevels", inPlace := ["internal/abi.NoEscape", "internal/bytealg.MakeNoZero", "internal/bytealg.CountString", "internal/bytealg.IndexByteString", "internal/bytealg.IndexString"], unfollowed := true, recurses := true, named := ["unicode/utf8.first", "unicode/utf8.acceptRanges", "internal/bytealg.MaxLen"], apart := false, laid := [("unicode/utf8.acceptRanges", laid_unicode_utf8_acceptRanges), ("unicode/utf8.first", laid_unicode_utf8_first)] }
def PolicyLevelsSaid : Prop := policyLevelsRow.holds Tryd.pinned (OpenSpec.ofChange policyLevelsSpec)

/-- ITS FALSE NEIGHBOUR: 'it returns false'. Refute it at one input. -/
def policyLevelsWrong : ChangeSpec := { name := "policyLevels", fn := fun _ => fun
  | [d1, d2, d3] => { results := [.lit (.bool false)], args := [d1, d2, d3] }
  | _ => none }
def PolicyLevelsWrongFalsely : Prop := policyLevelsRow.holds Tryd.pinned (OpenSpec.ofChange policyLevelsWrong)

/- THE SECOND FORM. 'bulk': how many values and letters a reading holds, each counted each time it is reached (what is shared counts as often as it is met; a slice's spare places count too). A statement '..UptoSaid' is the law's where the arguments, and the package variables that the reading takes, are together of bulk at most 1048576: NARROWER than '..Said'. Prove '..Said' where nothing that the law and all that it calls make is longer than what came in: it says more and counts as full. Else prove '..UptoSaid'. A law counts once. -/
mutual
def uptoBulk {H : Type} : DataW H → Nat
  | .lit (.string bytes) => bytes.length + 1
  | .lit _ => 1
  | .nil => 1
  | .ptr d => uptoBulk d + 1
  | .slice elems spare => uptoBulkAll elems + uptoBulkAll spare + 1
  | .agg parts => uptoBulkAll parts + 1
  | .iface _ d => uptoBulk d + 1
  | .map entries => uptoBulkEntries entries + 1
  | .held _ => 1
def uptoBulkAll {H : Type} : List (DataW H) → Nat
  | [] => 0
  | d :: r => uptoBulk d + uptoBulkAll r
def uptoBulkEntries {H : Type} : List (Lit × DataW H) → Nat
  | [] => 0
  | x :: r => uptoBulkEntry x + uptoBulkEntries r
def uptoBulkEntry {H : Type} : Lit × DataW H → Nat
  | (.string bytes, d) => bytes.length + uptoBulk d + 1
  | (_, d) => uptoBulk d + 1
 end
def uptoSmall : (H : Type) → List (DataW H) → Bool := fun _ ds => decide (uptoBulkAll ds ≤ 1048576)
def OpenSpec.upto (s : _root_.Go.ChangeSpec) : _root_.Go.OpenSpec := { _root_.Go.OpenSpec.ofChange s with cond := some uptoSmall }

/-- 'keyholelaw19.PolicyChecks', WHERE WHAT IT READS IS OF BULK AT MOST 1048576: true; the input reads as it did. -/
def policyChecksUptoRow : OpenClaim := { program := "ytnipigninbeplaadoor", sum := "c54e6e249a87182edd1d3c1f4f502a0878b7eef78852e1a26a9154227f717f65", func := "keyhole/keyholelaw19.PolicyChecks", spec := "policyChecks", inPlace := ["internal/abi.NoEscape", "internal/bytealg.MakeNoZero", "internal/bytealg.CountString", "internal/bytealg.IndexByteString", "internal/bytealg.IndexString"], unfollowed := true, recurses := true, named := ["unicode/utf8.first", "unicode/utf8.acceptRanges", "internal/bytealg.MaxLen"], apart := false, laid := [("unicode/utf8.acceptRanges", laid_unicode_utf8_acceptRanges), ("unicode/utf8.first", laid_unicode_utf8_first)], narrowed := true }
def PolicyChecksUptoSaid : Prop := policyChecksUptoRow.holds Tryd.pinned (OpenSpec.upto policyChecksSpec)

/-- 'keyholelaw19.PolicyTexts', WHERE WHAT IT READS IS OF BULK AT MOST 1048576: true; the input reads as it did. -/
def policyTextsUptoRow : OpenClaim := { program := "ytnipigninbeplaadoor", sum := "c54e6e249a87182edd1d3c1f4f502a0878b7eef78852e1a26a9154227f717f65", func := "keyhole/keyholelaw19.PolicyTexts", spec := "policyTexts", inPlace := ["internal/abi.NoEscape", "internal/bytealg.MakeNoZero", "internal/bytealg.CountString", "internal/bytealg.IndexByteString", "internal/bytealg.IndexString"], unfollowed := true, recurses := true, named := ["unicode/utf8.first", "unicode/utf8.acceptRanges", "internal/bytealg.MaxLen"], apart := false, laid := [("unicode/utf8.acceptRanges", laid_unicode_utf8_acceptRanges), ("unicode/utf8.first", laid_unicode_utf8_first)], narrowed := true }
def PolicyTextsUptoSaid : Prop := policyTextsUptoRow.holds Tryd.pinned (OpenSpec.upto policyTextsSpec)

/-- 'keyholelaw19.PolicyInverse', WHERE WHAT IT READS IS OF BULK AT MOST 1048576: true; the input reads as it did. -/
def policyInverseUptoRow : OpenClaim := { program := "ytnipigninbeplaadoor", sum := "c54e6e249a87182edd1d3c1f4f502a0878b7eef78852e1a26a9154227f717f65", func := "keyhole/keyholelaw19.PolicyInverse", spec := "policyInverse", inPlace := ["internal/abi.NoEscape", "internal/bytealg.MakeNoZero", "internal/bytealg.CountString", "internal/bytealg.IndexByteString", "internal/bytealg.IndexString"], unfollowed := true, recurses := true, named := ["unicode/utf8.first", "unicode/utf8.acceptRanges", "internal/bytealg.MaxLen"], apart := false, laid := [("unicode/utf8.acceptRanges", laid_unicode_utf8_acceptRanges), ("unicode/utf8.first", laid_unicode_utf8_first)], narrowed := true }
def PolicyInverseUptoSaid : Prop := policyInverseUptoRow.holds Tryd.pinned (OpenSpec.upto policyInverseSpec)

/-- 'keyholelaw19.PolicyBlanks', WHERE WHAT IT READS IS OF BULK AT MOST 1048576: true; the input reads as it did. -/
def policyBlanksUptoRow : OpenClaim := { program := "ytnipigninbeplaadoor", sum := "c54e6e249a87182edd1d3c1f4f502a0878b7eef78852e1a26a9154227f717f65", func := "keyhole/keyholelaw19.PolicyBlanks", spec := "policyBlanks", inPlace := ["internal/abi.NoEscape", "internal/bytealg.MakeNoZero", "internal/bytealg.CountString", "internal/bytealg.IndexByteString", "internal/bytealg.IndexString"], unfollowed := true, recurses := true, named := ["unicode/utf8.first", "unicode/utf8.acceptRanges", "internal/bytealg.MaxLen"], apart := false, laid := [("unicode/utf8.acceptRanges", laid_unicode_utf8_acceptRanges), ("unicode/utf8.first", laid_unicode_utf8_first)], narrowed := true }
def PolicyBlanksUptoSaid : Prop := policyBlanksUptoRow.holds Tryd.pinned (OpenSpec.upto policyBlanksSpec)

/-- 'keyholelaw19.PolicyLevels', WHERE WHAT IT READS IS OF BULK AT MOST 1048576: true; the input reads as it did. -/
def policyLevelsUptoRow : OpenClaim := { program := "ytnipigninbeplaadoor", sum := "c54e6e249a87182edd1d3c1f4f502a0878b7eef78852e1a26a9154227f717f65", func := "keyhole/keyholelaw19.PolicyLevels", spec := "policyLevels", inPlace := ["internal/abi.NoEscape", "internal/bytealg.MakeNoZero", "internal/bytealg.CountString", "internal/bytealg.IndexByteString", "internal/bytealg.IndexString"], unfollowed := true, recurses := true, named := ["unicode/utf8.first", "unicode/utf8.acceptRanges", "internal/bytealg.MaxLen"], apart := false, laid := [("unicode/utf8.acceptRanges", laid_unicode_utf8_acceptRanges), ("unicode/utf8.first", laid_unicode_utf8_first)], narrowed := true }
def PolicyLevelsUptoSaid : Prop := policyLevelsUptoRow.holds Tryd.pinned (OpenSpec.upto policyLevelsSpec)

end Rows
end Go.Proofs.YtnipigninbeplaaDoor
