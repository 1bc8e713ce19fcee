/-
  NARROWER THAN 'FOR EVERY INPUT', by the rows' own cells (each row's printed sentence says how): CostExprs: loops · CostParts: loops · CostAdds: loops · CostCalls: loops · CostStatements: loops.
  DERIVED. THE GIVEN ROWS OF THIS SEAT. 6 by the template 'for every input the law returns true; each argument reads behind the call as it read before'; 0 by the template 'total and deterministic' (their statements: YthlhicegchkjjaaTotals.lean).
  GIVEN WITH THE SEED: the statements are not yours to turn. If you find one false, say at which input.
  Laid BY PROGRAM, IN A SANDBOX (cutbox-rows.mjs): the forced cells as the released guide's own fill.sh prints them over the translation caa5ecbb5b05716c… (all of the seat's roots in one cut). By AI agents, Wed Nov 11 2026. No macro, syntax, notation, axiom, sorry.
-/
import Derived.Test.YthlhicegchkjjaaChecked
import GoSem.Claim
import GoSem.ClaimJoined
import GoSem.ClaimMapViews
import Derived.JoinedTies
import Derived.KernelRfl
namespace Go.Proofs.Ythlhicegchkjjaa
/- THE CELL 'sum', in the pinned program and in every row, IS THE sha256 OF THE DUMP (.gsa) THAT YthlhicegchkjjaaProg.lean LOADS. Nothing in Lean hashes anything: it is a label: what it is worth is what the hold of that sum in a sandbox is worth. -/
noncomputable def Try.pinned : Pinned := { name := "ythlhicegchkjjaa", sum := "caa5ecbb5b05716c1e3003f663fdf5f0b1eecc68f6adf65c91f69238bc667ef2", checked := Try.checked }
namespace Rows
def none {H : Type} : Left H := { results := [], args := [] }

/-- 'keyholelaw15.CostExprs': WHATEVER THE INPUT: true; the input reads as it did. -/
def costExprsSpec : ChangeSpec := { name := "costExprs", fn := fun _ => fun
  | [d1, d2] => { results := [.lit (.bool true)], args := [d1, d2] }
  | _ => none }
def costExprsRow : OpenClaim := { program := "ythlhicegchkjjaa", sum := "caa5ecbb5b05716c1e3003f663fdf5f0b1eecc68f6adf65c91f69238bc667ef2", func := "keyhole/keyholelaw15.CostExprs", spec := "costExprs", inPlace := ["internal/bytealg.IndexByteString", "internal/bytealg.IndexString"], unfollowed := true, recurses := true, named := ["internal/bytealg.MaxLen"], loops := true, apart := false }
def CostExprsSaid : Prop := costExprsRow.holds Try.pinned (OpenSpec.ofChange costExprsSpec)

/-- ITS FALSE NEIGHBOUR: 'it returns false'. Refute it at one input. -/
def costExprsWrong : ChangeSpec := { name := "costExprs", fn := fun _ => fun
  | [d1, d2] => { results := [.lit (.bool false)], args := [d1, d2] }
  | _ => none }
def CostExprsWrongFalsely : Prop := costExprsRow.holds Try.pinned (OpenSpec.ofChange costExprsWrong)

/-- 'keyholelaw15.CostParts': WHATEVER THE INPUT: true; the input reads as it did. -/
def costPartsSpec : ChangeSpec := { name := "costParts", fn := fun _ => fun
  | [d1, d2, d3] => { results := [.lit (.bool true)], args := [d1, d2, d3] }
  | _ => none }
def costPartsRow : OpenClaim := { program := "ythlhicegchkjjaa", sum := "caa5ecbb5b05716c1e3003f663fdf5f0b1eecc68f6adf65c91f69238bc667ef2", func := "keyhole/keyholelaw15.CostParts", spec := "costParts", inPlace := ["internal/bytealg.IndexByteString", "internal/bytealg.IndexString"], unfollowed := true, recurses := true, named := ["internal/bytealg.MaxLen"], loops := true, apart := false }
def CostPartsSaid : Prop := costPartsRow.holds Try.pinned (OpenSpec.ofChange costPartsSpec)

/-- ITS FALSE NEIGHBOUR: 'it returns false'. Refute it at one input. -/
def costPartsWrong : ChangeSpec := { name := "costParts", fn := fun _ => fun
  | [d1, d2, d3] => { results := [.lit (.bool false)], args := [d1, d2, d3] }
  | _ => none }
def CostPartsWrongFalsely : Prop := costPartsRow.holds Try.pinned (OpenSpec.ofChange costPartsWrong)

/-- 'keyholelaw15.CostAdds': WHATEVER THE INPUT: true; the input reads as it did. -/
def costAddsSpec : ChangeSpec := { name := "costAdds", fn := fun _ => fun
  | [d1, d2, d3] => { results := [.lit (.bool true)], args := [d1, d2, d3] }
  | _ => none }
def costAddsRow : OpenClaim := { program := "ythlhicegchkjjaa", sum := "caa5ecbb5b05716c1e3003f663fdf5f0b1eecc68f6adf65c91f69238bc667ef2", func := "keyhole/keyholelaw15.CostAdds", spec := "costAdds", inPlace := ["internal/bytealg.IndexByteString", "internal/bytealg.IndexString"], unfollowed := true, recurses := true, named := ["internal/bytealg.MaxLen"], loops := true, apart := false }
def CostAddsSaid : Prop := costAddsRow.holds Try.pinned (OpenSpec.ofChange costAddsSpec)

/-- ITS FALSE NEIGHBOUR: 'it returns false'. Refute it at one input. -/
def costAddsWrong : ChangeSpec := { name := "costAdds", fn := fun _ => fun
  | [d1, d2, d3] => { results := [.lit (.bool false)], args := [d1, d2, d3] }
  | _ => none }
def CostAddsWrongFalsely : Prop := costAddsRow.holds Try.pinned (OpenSpec.ofChange costAddsWrong)

/-- 'keyholelaw15.CostCalls': WHATEVER THE INPUT: true; the input reads as it did. -/
def costCallsSpec : ChangeSpec := { name := "costCalls", fn := fun _ => fun
  | [d1, d2, d3] => { results := [.lit (.bool true)], args := [d1, d2, d3] }
  | _ => none }
def costCallsRow : OpenClaim := { program := "ythlhicegchkjjaa", sum := "caa5ecbb5b05716c1e3003f663fdf5f0b1eecc68f6adf65c91f69238bc667ef2", func := "keyhole/keyholelaw15.CostCalls", spec := "costCalls", inPlace := ["internal/bytealg.IndexByteString", "internal/bytealg.IndexString"], unfollowed := true, recurses := true, named := ["internal/bytealg.MaxLen"], loops := true, apart := false }
def CostCallsSaid : Prop := costCallsRow.holds Try.pinned (OpenSpec.ofChange costCallsSpec)

/-- ITS FALSE NEIGHBOUR: 'it returns false'. Refute it at one input. -/
def costCallsWrong : ChangeSpec := { name := "costCalls", fn := fun _ => fun
  | [d1, d2, d3] => { results := [.lit (.bool false)], args := [d1, d2, d3] }
  | _ => none }
def CostCallsWrongFalsely : Prop := costCallsRow.holds Try.pinned (OpenSpec.ofChange costCallsWrong)

/-- 'keyholelaw15.CostChecks': WHATEVER THE INPUT: true; the input reads as it did. -/
def costChecksSpec : ChangeSpec := { name := "costChecks", fn := fun _ => fun
  | [d] => { results := [.lit (.bool true)], args := [d] }
  | _ => none }
def costChecksRow : OpenClaim := { program := "ythlhicegchkjjaa", sum := "caa5ecbb5b05716c1e3003f663fdf5f0b1eecc68f6adf65c91f69238bc667ef2", func := "keyhole/keyholelaw15.CostChecks", spec := "costChecks", inPlace := ["internal/bytealg.IndexByteString", "internal/bytealg.IndexString"], unfollowed := true, recurses := true, named := ["internal/bytealg.MaxLen"], apart := false }
def CostChecksSaid : Prop := costChecksRow.holds Try.pinned (OpenSpec.ofChange costChecksSpec)

/-- ITS FALSE NEIGHBOUR: 'it returns false'. Refute it at one input. -/
def costChecksWrong : ChangeSpec := { name := "costChecks", fn := fun _ => fun
  | [d] => { results := [.lit (.bool false)], args := [d] }
  | _ => none }
def CostChecksWrongFalsely : Prop := costChecksRow.holds Try.pinned (OpenSpec.ofChange costChecksWrong)

/-- 'keyholelaw15.CostStatements': WHATEVER THE INPUT: true; the input reads as it did. -/
def costStatementsSpec : ChangeSpec := { name := "costStatements", fn := fun _ => fun
  | [d1, d2] => { results := [.lit (.bool true)], args := [d1, d2] }
  | _ => none }
def costStatementsRow : OpenClaim := { program := "ythlhicegchkjjaa", sum := "caa5ecbb5b05716c1e3003f663fdf5f0b1eecc68f6adf65c91f69238bc667ef2", func := "keyhole/keyholelaw15.CostStatements", spec := "costStatements", inPlace := ["internal/bytealg.IndexByteString", "internal/bytealg.IndexString"], unfollowed := true, recurses := true, named := ["internal/bytealg.MaxLen"], loops := true, apart := false }
def CostStatementsSaid : Prop := costStatementsRow.holds Try.pinned (OpenSpec.ofChange costStatementsSpec)

/-- ITS FALSE NEIGHBOUR: 'it returns false'. Refute it at one input. -/
def costStatementsWrong : ChangeSpec := { name := "costStatements", fn := fun _ => fun
  | [d1, d2] => { results := [.lit (.bool false)], args := [d1, d2] }
  | _ => none }
def CostStatementsWrongFalsely : Prop := costStatementsRow.holds Try.pinned (OpenSpec.ofChange costStatementsWrong)

/- THE SECOND FORM. 'bulk': how many values and letters a reading holds, each counted each time it is reached (what is shared counts as often as it is met; a slice's spare places count too). A statement '..UptoSaid' is the law's where the arguments, and the package variables that the reading takes, are together of bulk at most 1048576: NARROWER than '..Said'. Prove '..Said' where nothing that the law and all that it calls make is longer than what came in: it says more and counts as full. Else prove '..UptoSaid'. A law counts once. -/
mutual
def uptoBulk {H : Type} : DataW H → Nat
  | .lit (.string bytes) => bytes.length + 1
  | .lit _ => 1
  | .nil => 1
  | .ptr d => uptoBulk d + 1
  | .slice elems spare => uptoBulkAll elems + uptoBulkAll spare + 1
  | .agg parts => uptoBulkAll parts + 1
  | .iface _ d => uptoBulk d + 1
  | .map entries => uptoBulkEntries entries + 1
  | .held _ => 1
def uptoBulkAll {H : Type} : List (DataW H) → Nat
  | [] => 0
  | d :: r => uptoBulk d + uptoBulkAll r
def uptoBulkEntries {H : Type} : List (Lit × DataW H) → Nat
  | [] => 0
  | x :: r => uptoBulkEntry x + uptoBulkEntries r
def uptoBulkEntry {H : Type} : Lit × DataW H → Nat
  | (.string bytes, d) => bytes.length + uptoBulk d + 1
  | (_, d) => uptoBulk d + 1
 end
def uptoSmall : (H : Type) → List (DataW H) → Bool := fun _ ds => decide (uptoBulkAll ds ≤ 1048576)
def OpenSpec.upto (s : _root_.Go.ChangeSpec) : _root_.Go.OpenSpec := { _root_.Go.OpenSpec.ofChange s with cond := some uptoSmall }

/-- 'keyholelaw15.CostExprs', WHERE WHAT IT READS IS OF BULK AT MOST 1048576: true; the input reads as it did. -/
def costExprsUptoRow : OpenClaim := { program := "ythlhicegchkjjaa", sum := "caa5ecbb5b05716c1e3003f663fdf5f0b1eecc68f6adf65c91f69238bc667ef2", func := "keyhole/keyholelaw15.CostExprs", spec := "costExprs", inPlace := ["internal/bytealg.IndexByteString", "internal/bytealg.IndexString"], unfollowed := true, recurses := true, named := ["internal/bytealg.MaxLen"], loops := true, apart := false, narrowed := true }
def CostExprsUptoSaid : Prop := costExprsUptoRow.holds Try.pinned (OpenSpec.upto costExprsSpec)

/-- 'keyholelaw15.CostParts', WHERE WHAT IT READS IS OF BULK AT MOST 1048576: true; the input reads as it did. -/
def costPartsUptoRow : OpenClaim := { program := "ythlhicegchkjjaa", sum := "caa5ecbb5b05716c1e3003f663fdf5f0b1eecc68f6adf65c91f69238bc667ef2", func := "keyhole/keyholelaw15.CostParts", spec := "costParts", inPlace := ["internal/bytealg.IndexByteString", "internal/bytealg.IndexString"], unfollowed := true, recurses := true, named := ["internal/bytealg.MaxLen"], loops := true, apart := false, narrowed := true }
def CostPartsUptoSaid : Prop := costPartsUptoRow.holds Try.pinned (OpenSpec.upto costPartsSpec)

/-- 'keyholelaw15.CostAdds', WHERE WHAT IT READS IS OF BULK AT MOST 1048576: true; the input reads as it did. -/
def costAddsUptoRow : OpenClaim := { program := "ythlhicegchkjjaa", sum := "caa5ecbb5b05716c1e3003f663fdf5f0b1eecc68f6adf65c91f69238bc667ef2", func := "keyhole/keyholelaw15.CostAdds", spec := "costAdds", inPlace := ["internal/bytealg.IndexByteString", "internal/bytealg.IndexString"], unfollowed := true, recurses := true, named := ["internal/bytealg.MaxLen"], loops := true, apart := false, narrowed := true }
def CostAddsUptoSaid : Prop := costAddsUptoRow.holds Try.pinned (OpenSpec.upto costAddsSpec)

/-- 'keyholelaw15.CostCalls', WHERE WHAT IT READS IS OF BULK AT MOST 1048576: true; the input reads as it did. -/
def costCallsUptoRow : OpenClaim := { program := "ythlhicegchkjjaa", sum := "caa5ecbb5b05716c1e3003f663fdf5f0b1eecc68f6adf65c91f69238bc667ef2", func := "keyhole/keyholelaw15.CostCalls", spec := "costCalls", inPlace := ["internal/bytealg.IndexByteString", "internal/bytealg.IndexString"], unfollowed := true, recurses := true, named := ["internal/bytealg.MaxLen"], loops := true, apart := false, narrowed := true }
def CostCallsUptoSaid : Prop := costCallsUptoRow.holds Try.pinned (OpenSpec.upto costCallsSpec)

/-- 'keyholelaw15.CostChecks', WHERE WHAT IT READS IS OF BULK AT MOST 1048576: true; the input reads as it did. -/
def costChecksUptoRow : OpenClaim := { program := "ythlhicegchkjjaa", sum := "caa5ecbb5b05716c1e3003f663fdf5f0b1eecc68f6adf65c91f69238bc667ef2", func := "keyhole/keyholelaw15.CostChecks", spec := "costChecks", inPlace := ["internal/bytealg.IndexByteString", "internal/bytealg.IndexString"], unfollowed := true, recurses := true, named := ["internal/bytealg.MaxLen"], apart := false, narrowed := true }
def CostChecksUptoSaid : Prop := costChecksUptoRow.holds Try.pinned (OpenSpec.upto costChecksSpec)

/-- 'keyholelaw15.CostStatements', WHERE WHAT IT READS IS OF BULK AT MOST 1048576: true; the input reads as it did. -/
def costStatementsUptoRow : OpenClaim := { program := "ythlhicegchkjjaa", sum := "caa5ecbb5b05716c1e3003f663fdf5f0b1eecc68f6adf65c91f69238bc667ef2", func := "keyhole/keyholelaw15.CostStatements", spec := "costStatements", inPlace := ["internal/bytealg.IndexByteString", "internal/bytealg.IndexString"], unfollowed := true, recurses := true, named := ["internal/bytealg.MaxLen"], loops := true, apart := false, narrowed := true }
def CostStatementsUptoSaid : Prop := costStatementsUptoRow.holds Try.pinned (OpenSpec.upto costStatementsSpec)

end Rows
end Go.Proofs.Ythlhicegchkjjaa
