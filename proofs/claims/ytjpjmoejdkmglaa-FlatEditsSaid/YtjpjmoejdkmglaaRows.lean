/-
  NARROWER THAN 'FOR EVERY INPUT', by the rows' own cells (each row's printed sentence says how): FlatChecks: loops · FlatUnread: loops · FlatBounds: loops · FlatSpans: loops · FlatEdits: loops.
  DERIVED. THE GIVEN ROWS OF THIS SEAT. 7 by the template 'for every input the law returns true; each argument reads behind the call as it read before'; 0 by the template 'total and deterministic' (their statements: YtjpjmoejdkmglaaTotals.lean).
  GIVEN WITH THE SEED: the statements are not yours to turn. If you find one false, say at which input.
  Laid BY PROGRAM, IN A SANDBOX (cutbox-rows.mjs): the forced cells as the released guide's own fill.sh prints them over the translation e627b2a7775f1632… (all of the seat's roots in one cut). By AI agents, Wed Nov 11 2026. No macro, syntax, notation, axiom, sorry.
-/
import Derived.Test.YtjpjmoejdkmglaaChecked
import GoSem.Claim
import GoSem.ClaimJoined
import GoSem.ClaimMapViews
import Derived.JoinedTies
import Derived.KernelRfl
namespace Go.Proofs.Ytjpjmoejdkmglaa
/- THE CELL 'sum', in the pinned program and in every row, IS THE sha256 OF THE DUMP (.gsa) THAT YtjpjmoejdkmglaaProg.lean LOADS. Nothing in Lean hashes anything: it is a label: what it is worth is what the hold of that sum in a sandbox is worth. -/
noncomputable def Try.pinned : Pinned := { name := "ytjpjmoejdkmglaa", sum := "e627b2a7775f16322c050ff31f7ba00b55aa745ba05b6fbe4f4dc0fe5d9a3961", checked := Try.checked }
namespace Rows
def none {H : Type} : Left H := { results := [], args := [] }

/-- 'keyholelaw17.FlatChecks': WHATEVER THE INPUT: true; the input reads as it did. -/
def flatChecksSpec : ChangeSpec := { name := "flatChecks", fn := fun _ => fun
  | [d] => { results := [.lit (.bool true)], args := [d] }
  | _ => none }
def flatChecksRow : OpenClaim := { program := "ytjpjmoejdkmglaa", sum := "e627b2a7775f16322c050ff31f7ba00b55aa745ba05b6fbe4f4dc0fe5d9a3961", func := "keyhole/keyholelaw17.FlatChecks", spec := "flatChecks", unfollowed := true, recurses := true, loops := true, apart := false }
def FlatChecksSaid : Prop := flatChecksRow.holds Try.pinned (OpenSpec.ofChange flatChecksSpec)

/-- ITS FALSE NEIGHBOUR: 'it returns false'. Refute it at one input. -/
def flatChecksWrong : ChangeSpec := { name := "flatChecks", fn := fun _ => fun
  | [d] => { results := [.lit (.bool false)], args := [d] }
  | _ => none }
def FlatChecksWrongFalsely : Prop := flatChecksRow.holds Try.pinned (OpenSpec.ofChange flatChecksWrong)

/-- 'keyholelaw17.FlatUnread': WHATEVER THE INPUT: true; the input reads as it did. -/
def flatUnreadSpec : ChangeSpec := { name := "flatUnread", fn := fun _ => fun
  | [d1, d2, d3] => { results := [.lit (.bool true)], args := [d1, d2, d3] }
  | _ => none }
def flatUnreadRow : OpenClaim := { program := "ytjpjmoejdkmglaa", sum := "e627b2a7775f16322c050ff31f7ba00b55aa745ba05b6fbe4f4dc0fe5d9a3961", func := "keyhole/keyholelaw17.FlatUnread", spec := "flatUnread", unfollowed := true, recurses := true, loops := true, apart := false }
def FlatUnreadSaid : Prop := flatUnreadRow.holds Try.pinned (OpenSpec.ofChange flatUnreadSpec)

/-- ITS FALSE NEIGHBOUR: 'it returns false'. Refute it at one input. -/
def flatUnreadWrong : ChangeSpec := { name := "flatUnread", fn := fun _ => fun
  | [d1, d2, d3] => { results := [.lit (.bool false)], args := [d1, d2, d3] }
  | _ => none }
def FlatUnreadWrongFalsely : Prop := flatUnreadRow.holds Try.pinned (OpenSpec.ofChange flatUnreadWrong)

/-- 'keyholelaw17.FlatSettles': WHATEVER THE INPUT: true; the input reads as it did. -/
def flatSettlesSpec : ChangeSpec := { name := "flatSettles", fn := fun _ => fun
  | [d1, d2, d3] => { results := [.lit (.bool true)], args := [d1, d2, d3] }
  | _ => none }
def flatSettlesRow : OpenClaim := { program := "ytjpjmoejdkmglaa", sum := "e627b2a7775f16322c050ff31f7ba00b55aa745ba05b6fbe4f4dc0fe5d9a3961", func := "keyhole/keyholelaw17.FlatSettles", spec := "flatSettles", unfollowed := true, recurses := true, apart := false }
def FlatSettlesSaid : Prop := flatSettlesRow.holds Try.pinned (OpenSpec.ofChange flatSettlesSpec)

/-- ITS FALSE NEIGHBOUR: 'it returns false'. Refute it at one input. -/
def flatSettlesWrong : ChangeSpec := { name := "flatSettles", fn := fun _ => fun
  | [d1, d2, d3] => { results := [.lit (.bool false)], args := [d1, d2, d3] }
  | _ => none }
def FlatSettlesWrongFalsely : Prop := flatSettlesRow.holds Try.pinned (OpenSpec.ofChange flatSettlesWrong)

/-- 'keyholelaw17.FlatBounds': WHATEVER THE INPUT: true; the input reads as it did. -/
def flatBoundsSpec : ChangeSpec := { name := "flatBounds", fn := fun _ => fun
  | [d1, d2] => { results := [.lit (.bool true)], args := [d1, d2] }
  | _ => none }
def flatBoundsRow : OpenClaim := { program := "ytjpjmoejdkmglaa", sum := "e627b2a7775f16322c050ff31f7ba00b55aa745ba05b6fbe4f4dc0fe5d9a3961", func := "keyhole/keyholelaw17.FlatBounds", spec := "flatBounds", unfollowed := true, recurses := true, loops := true, apart := false }
def FlatBoundsSaid : Prop := flatBoundsRow.holds Try.pinned (OpenSpec.ofChange flatBoundsSpec)

/-- ITS FALSE NEIGHBOUR: 'it returns false'. Refute it at one input. -/
def flatBoundsWrong : ChangeSpec := { name := "flatBounds", fn := fun _ => fun
  | [d1, d2] => { results := [.lit (.bool false)], args := [d1, d2] }
  | _ => none }
def FlatBoundsWrongFalsely : Prop := flatBoundsRow.holds Try.pinned (OpenSpec.ofChange flatBoundsWrong)

/-- 'keyholelaw17.FlatSpans': WHATEVER THE INPUT: true; the input reads as it did. -/
def flatSpansSpec : ChangeSpec := { name := "flatSpans", fn := fun _ => fun
  | [d] => { results := [.lit (.bool true)], args := [d] }
  | _ => none }
def flatSpansRow : OpenClaim := { program := "ytjpjmoejdkmglaa", sum := "e627b2a7775f16322c050ff31f7ba00b55aa745ba05b6fbe4f4dc0fe5d9a3961", func := "keyhole/keyholelaw17.FlatSpans", spec := "flatSpans", unfollowed := true, recurses := true, loops := true, apart := false }
def FlatSpansSaid : Prop := flatSpansRow.holds Try.pinned (OpenSpec.ofChange flatSpansSpec)

/-- ITS FALSE NEIGHBOUR: 'it returns false'. Refute it at one input. -/
def flatSpansWrong : ChangeSpec := { name := "flatSpans", fn := fun _ => fun
  | [d] => { results := [.lit (.bool false)], args := [d] }
  | _ => none }
def FlatSpansWrongFalsely : Prop := flatSpansRow.holds Try.pinned (OpenSpec.ofChange flatSpansWrong)

/-- 'keyholelaw17.FlatOrder': WHATEVER THE INPUT: true; the input reads as it did. -/
def flatOrderSpec : ChangeSpec := { name := "flatOrder", fn := fun _ => fun
  | [d1, d2, d3] => { results := [.lit (.bool true)], args := [d1, d2, d3] }
  | _ => none }
def flatOrderRow : OpenClaim := { program := "ytjpjmoejdkmglaa", sum := "e627b2a7775f16322c050ff31f7ba00b55aa745ba05b6fbe4f4dc0fe5d9a3961", func := "keyhole/keyholelaw17.FlatOrder", spec := "flatOrder", unfollowed := true, recurses := true, apart := false }
def FlatOrderSaid : Prop := flatOrderRow.holds Try.pinned (OpenSpec.ofChange flatOrderSpec)

/-- ITS FALSE NEIGHBOUR: 'it returns false'. Refute it at one input. -/
def flatOrderWrong : ChangeSpec := { name := "flatOrder", fn := fun _ => fun
  | [d1, d2, d3] => { results := [.lit (.bool false)], args := [d1, d2, d3] }
  | _ => none }
def FlatOrderWrongFalsely : Prop := flatOrderRow.holds Try.pinned (OpenSpec.ofChange flatOrderWrong)

/-- 'keyholelaw17.FlatEdits': WHATEVER THE INPUT: true; the input reads as it did. -/
def flatEditsSpec : ChangeSpec := { name := "flatEdits", fn := fun _ => fun
  | [d1, d2] => { results := [.lit (.bool true)], args := [d1, d2] }
  | _ => none }
def flatEditsRow : OpenClaim := { program := "ytjpjmoejdkmglaa", sum := "e627b2a7775f16322c050ff31f7ba00b55aa745ba05b6fbe4f4dc0fe5d9a3961", func := "keyhole/keyholelaw17.FlatEdits", spec := "flatEdits", unfollowed := true, recurses := true, loops := true, apart := false }
def FlatEditsSaid : Prop := flatEditsRow.holds Try.pinned (OpenSpec.ofChange flatEditsSpec)

/-- ITS FALSE NEIGHBOUR: 'it returns false'. Refute it at one input. -/
def flatEditsWrong : ChangeSpec := { name := "flatEdits", fn := fun _ => fun
  | [d1, d2] => { results := [.lit (.bool false)], args := [d1, d2] }
  | _ => none }
def FlatEditsWrongFalsely : Prop := flatEditsRow.holds Try.pinned (OpenSpec.ofChange flatEditsWrong)

/- THE SECOND FORM. 'bulk': how many values and letters a reading holds, each counted each time it is reached (what is shared counts as often as it is met; a slice's spare places count too). A statement '..UptoSaid' is the law's where the arguments, and the package variables that the reading takes, are together of bulk at most 1048576: NARROWER than '..Said'. Prove '..Said' where nothing that the law and all that it calls make is longer than what came in: it says more and counts as full. Else prove '..UptoSaid'. A law counts once. -/
mutual
def uptoBulk {H : Type} : DataW H → Nat
  | .lit (.string bytes) => bytes.length + 1
  | .lit _ => 1
  | .nil => 1
  | .ptr d => uptoBulk d + 1
  | .slice elems spare => uptoBulkAll elems + uptoBulkAll spare + 1
  | .agg parts => uptoBulkAll parts + 1
  | .iface _ d => uptoBulk d + 1
  | .map entries => uptoBulkEntries entries + 1
  | .held _ => 1
def uptoBulkAll {H : Type} : List (DataW H) → Nat
  | [] => 0
  | d :: r => uptoBulk d + uptoBulkAll r
def uptoBulkEntries {H : Type} : List (Lit × DataW H) → Nat
  | [] => 0
  | x :: r => uptoBulkEntry x + uptoBulkEntries r
def uptoBulkEntry {H : Type} : Lit × DataW H → Nat
  | (.string bytes, d) => bytes.length + uptoBulk d + 1
  | (_, d) => uptoBulk d + 1
 end
def uptoSmall : (H : Type) → List (DataW H) → Bool := fun _ ds => decide (uptoBulkAll ds ≤ 1048576)
def OpenSpec.upto (s : _root_.Go.ChangeSpec) : _root_.Go.OpenSpec := { _root_.Go.OpenSpec.ofChange s with cond := some uptoSmall }

/-- 'keyholelaw17.FlatChecks', WHERE WHAT IT READS IS OF BULK AT MOST 1048576: true; the input reads as it did. -/
def flatChecksUptoRow : OpenClaim := { program := "ytjpjmoejdkmglaa", sum := "e627b2a7775f16322c050ff31f7ba00b55aa745ba05b6fbe4f4dc0fe5d9a3961", func := "keyhole/keyholelaw17.FlatChecks", spec := "flatChecks", unfollowed := true, recurses := true, loops := true, apart := false, narrowed := true }
def FlatChecksUptoSaid : Prop := flatChecksUptoRow.holds Try.pinned (OpenSpec.upto flatChecksSpec)

/-- 'keyholelaw17.FlatUnread', WHERE WHAT IT READS IS OF BULK AT MOST 1048576: true; the input reads as it did. -/
def flatUnreadUptoRow : OpenClaim := { program := "ytjpjmoejdkmglaa", sum := "e627b2a7775f16322c050ff31f7ba00b55aa745ba05b6fbe4f4dc0fe5d9a3961", func := "keyhole/keyholelaw17.FlatUnread", spec := "flatUnread", unfollowed := true, recurses := true, loops := true, apart := false, narrowed := true }
def FlatUnreadUptoSaid : Prop := flatUnreadUptoRow.holds Try.pinned (OpenSpec.upto flatUnreadSpec)

/-- 'keyholelaw17.FlatSettles', WHERE WHAT IT READS IS OF BULK AT MOST 1048576: true; the input reads as it did. -/
def flatSettlesUptoRow : OpenClaim := { program := "ytjpjmoejdkmglaa", sum := "e627b2a7775f16322c050ff31f7ba00b55aa745ba05b6fbe4f4dc0fe5d9a3961", func := "keyhole/keyholelaw17.FlatSettles", spec := "flatSettles", unfollowed := true, recurses := true, apart := false, narrowed := true }
def FlatSettlesUptoSaid : Prop := flatSettlesUptoRow.holds Try.pinned (OpenSpec.upto flatSettlesSpec)

/-- 'keyholelaw17.FlatBounds', WHERE WHAT IT READS IS OF BULK AT MOST 1048576: true; the input reads as it did. -/
def flatBoundsUptoRow : OpenClaim := { program := "ytjpjmoejdkmglaa", sum := "e627b2a7775f16322c050ff31f7ba00b55aa745ba05b6fbe4f4dc0fe5d9a3961", func := "keyhole/keyholelaw17.FlatBounds", spec := "flatBounds", unfollowed := true, recurses := true, loops := true, apart := false, narrowed := true }
def FlatBoundsUptoSaid : Prop := flatBoundsUptoRow.holds Try.pinned (OpenSpec.upto flatBoundsSpec)

/-- 'keyholelaw17.FlatSpans', WHERE WHAT IT READS IS OF BULK AT MOST 1048576: true; the input reads as it did. -/
def flatSpansUptoRow : OpenClaim := { program := "ytjpjmoejdkmglaa", sum := "e627b2a7775f16322c050ff31f7ba00b55aa745ba05b6fbe4f4dc0fe5d9a3961", func := "keyhole/keyholelaw17.FlatSpans", spec := "flatSpans", unfollowed := true, recurses := true, loops := true, apart := false, narrowed := true }
def FlatSpansUptoSaid : Prop := flatSpansUptoRow.holds Try.pinned (OpenSpec.upto flatSpansSpec)

/-- 'keyholelaw17.FlatOrder', WHERE WHAT IT READS IS OF BULK AT MOST 1048576: true; the input reads as it did. -/
def flatOrderUptoRow : OpenClaim := { program := "ytjpjmoejdkmglaa", sum := "e627b2a7775f16322c050ff31f7ba00b55aa745ba05b6fbe4f4dc0fe5d9a3961", func := "keyhole/keyholelaw17.FlatOrder", spec := "flatOrder", unfollowed := true, recurses := true, apart := false, narrowed := true }
def FlatOrderUptoSaid : Prop := flatOrderUptoRow.holds Try.pinned (OpenSpec.upto flatOrderSpec)

/-- 'keyholelaw17.FlatEdits', WHERE WHAT IT READS IS OF BULK AT MOST 1048576: true; the input reads as it did. -/
def flatEditsUptoRow : OpenClaim := { program := "ytjpjmoejdkmglaa", sum := "e627b2a7775f16322c050ff31f7ba00b55aa745ba05b6fbe4f4dc0fe5d9a3961", func := "keyhole/keyholelaw17.FlatEdits", spec := "flatEdits", unfollowed := true, recurses := true, loops := true, apart := false, narrowed := true }
def FlatEditsUptoSaid : Prop := flatEditsUptoRow.holds Try.pinned (OpenSpec.upto flatEditsSpec)

end Rows
end Go.Proofs.Ytjpjmoejdkmglaa
