/-
  No cell of these rows narrows 'for every input' (looked for: loops, veiled, ifaces, maps, wideKeys, modest, calm, conditions, laid).
  DERIVED. THE GIVEN ROWS OF THIS SEAT. 4 by the template 'for every input the law returns true; each argument reads behind the call as it read before'; 0 by the template 'total and deterministic' (their statements: YtebehddkplmhiaaTotals.lean).
  GIVEN WITH THE SEED: the statements are not yours to turn. If you find one false, say at which input.
  Laid BY PROGRAM, IN A SANDBOX (cutbox-rows.mjs): the forced cells as the released guide's own fill.sh prints them over the translation cd4541a16525251b… (all of the seat's roots in one cut). By AI agents, Wed Nov 11 2026. No macro, syntax, notation, axiom, sorry.
-/
import Derived.Test.YtebehddkplmhiaaChecked
import GoSem.Claim
import GoSem.ClaimJoined
import GoSem.ClaimMapViews
import Derived.JoinedTies
import Derived.KernelRfl
namespace Go.Proofs.Ytebehddkplmhiaa
/- THE CELL 'sum', in the pinned program and in every row, IS THE sha256 OF THE DUMP (.gsa) THAT YtebehddkplmhiaaProg.lean LOADS. Nothing in Lean hashes anything: it is a label: what it is worth is what the hold of that sum in a sandbox is worth. -/
noncomputable def Try.pinned : Pinned := { name := "ytebehddkplmhiaa", sum := "cd4541a16525251b1c48f5274534cd2834e4be92d1557dc4e2debe953f8f0b0c", checked := Try.checked }
namespace Rows
def none {H : Type} : Left H := { results := [], args := [] }

/-- 'laws.FnExactAuditCpu': WHATEVER THE INPUT: true; the input reads as it did. -/
def fnExactAuditCpuSpec : ChangeSpec := { name := "fnExactAuditCpu", fn := fun _ => fun
  | [d1, d2] => { results := [.lit (.bool true)], args := [d1, d2] }
  | _ => none }
def fnExactAuditCpuRow : OpenClaim := { program := "ytebehddkplmhiaa", sum := "cd4541a16525251b1c48f5274534cd2834e4be92d1557dc4e2debe953f8f0b0c", func := "loop.example/stint/laws.FnExactAuditCpu", spec := "fnExactAuditCpu", unfollowed := true, recurses := true, apart := false }
def FnExactAuditCpuSaid : Prop := fnExactAuditCpuRow.holds Try.pinned (OpenSpec.ofChange fnExactAuditCpuSpec)

/-- ITS FALSE NEIGHBOUR: 'it returns false'. Refute it at one input. -/
def fnExactAuditCpuWrong : ChangeSpec := { name := "fnExactAuditCpu", fn := fun _ => fun
  | [d1, d2] => { results := [.lit (.bool false)], args := [d1, d2] }
  | _ => none }
def FnExactAuditCpuWrongFalsely : Prop := fnExactAuditCpuRow.holds Try.pinned (OpenSpec.ofChange fnExactAuditCpuWrong)

/-- 'laws.FnExactAuditTask': WHATEVER THE INPUT: true; the input reads as it did. -/
def fnExactAuditTaskSpec : ChangeSpec := { name := "fnExactAuditTask", fn := fun _ => fun
  | [d1, d2] => { results := [.lit (.bool true)], args := [d1, d2] }
  | _ => none }
def fnExactAuditTaskRow : OpenClaim := { program := "ytebehddkplmhiaa", sum := "cd4541a16525251b1c48f5274534cd2834e4be92d1557dc4e2debe953f8f0b0c", func := "loop.example/stint/laws.FnExactAuditTask", spec := "fnExactAuditTask", unfollowed := true, recurses := true, apart := false }
def FnExactAuditTaskSaid : Prop := fnExactAuditTaskRow.holds Try.pinned (OpenSpec.ofChange fnExactAuditTaskSpec)

/-- ITS FALSE NEIGHBOUR: 'it returns false'. Refute it at one input. -/
def fnExactAuditTaskWrong : ChangeSpec := { name := "fnExactAuditTask", fn := fun _ => fun
  | [d1, d2] => { results := [.lit (.bool false)], args := [d1, d2] }
  | _ => none }
def FnExactAuditTaskWrongFalsely : Prop := fnExactAuditTaskRow.holds Try.pinned (OpenSpec.ofChange fnExactAuditTaskWrong)

/-- 'laws.FnExactAuditGroup': WHATEVER THE INPUT: true; the input reads as it did. -/
def fnExactAuditGroupSpec : ChangeSpec := { name := "fnExactAuditGroup", fn := fun _ => fun
  | [d1, d2] => { results := [.lit (.bool true)], args := [d1, d2] }
  | _ => none }
def fnExactAuditGroupRow : OpenClaim := { program := "ytebehddkplmhiaa", sum := "cd4541a16525251b1c48f5274534cd2834e4be92d1557dc4e2debe953f8f0b0c", func := "loop.example/stint/laws.FnExactAuditGroup", spec := "fnExactAuditGroup", unfollowed := true, recurses := true, apart := false }
def FnExactAuditGroupSaid : Prop := fnExactAuditGroupRow.holds Try.pinned (OpenSpec.ofChange fnExactAuditGroupSpec)

/-- ITS FALSE NEIGHBOUR: 'it returns false'. Refute it at one input. -/
def fnExactAuditGroupWrong : ChangeSpec := { name := "fnExactAuditGroup", fn := fun _ => fun
  | [d1, d2] => { results := [.lit (.bool false)], args := [d1, d2] }
  | _ => none }
def FnExactAuditGroupWrongFalsely : Prop := fnExactAuditGroupRow.holds Try.pinned (OpenSpec.ofChange fnExactAuditGroupWrong)

/-- 'laws.FnExactAuditGap': WHATEVER THE INPUT: true; the input reads as it did. -/
def fnExactAuditGapSpec : ChangeSpec := { name := "fnExactAuditGap", fn := fun _ => fun
  | [d1, d2, d3] => { results := [.lit (.bool true)], args := [d1, d2, d3] }
  | _ => none }
def fnExactAuditGapRow : OpenClaim := { program := "ytebehddkplmhiaa", sum := "cd4541a16525251b1c48f5274534cd2834e4be92d1557dc4e2debe953f8f0b0c", func := "loop.example/stint/laws.FnExactAuditGap", spec := "fnExactAuditGap", apart := false }
def FnExactAuditGapSaid : Prop := fnExactAuditGapRow.holds Try.pinned (OpenSpec.ofChange fnExactAuditGapSpec)

/-- ITS FALSE NEIGHBOUR: 'it returns false'. Refute it at one input. -/
def fnExactAuditGapWrong : ChangeSpec := { name := "fnExactAuditGap", fn := fun _ => fun
  | [d1, d2, d3] => { results := [.lit (.bool false)], args := [d1, d2, d3] }
  | _ => none }
def FnExactAuditGapWrongFalsely : Prop := fnExactAuditGapRow.holds Try.pinned (OpenSpec.ofChange fnExactAuditGapWrong)

/- THE SECOND FORM. 'bulk': how many values and letters a reading holds, each counted each time it is reached (what is shared counts as often as it is met; a slice's spare places count too). A statement '..UptoSaid' is the law's where the arguments, and the package variables that the reading takes, are together of bulk at most 1048576: NARROWER than '..Said'. Prove '..Said' where nothing that the law and all that it calls make is longer than what came in: it says more and counts as full. Else prove '..UptoSaid'. A law counts once. -/
mutual
def uptoBulk {H : Type} : DataW H → Nat
  | .lit (.string bytes) => bytes.length + 1
  | .lit _ => 1
  | .nil => 1
  | .ptr d => uptoBulk d + 1
  | .slice elems spare => uptoBulkAll elems + uptoBulkAll spare + 1
  | .agg parts => uptoBulkAll parts + 1
  | .iface _ d => uptoBulk d + 1
  | .map entries => uptoBulkEntries entries + 1
  | .held _ => 1
def uptoBulkAll {H : Type} : List (DataW H) → Nat
  | [] => 0
  | d :: r => uptoBulk d + uptoBulkAll r
def uptoBulkEntries {H : Type} : List (Lit × DataW H) → Nat
  | [] => 0
  | x :: r => uptoBulkEntry x + uptoBulkEntries r
def uptoBulkEntry {H : Type} : Lit × DataW H → Nat
  | (.string bytes, d) => bytes.length + uptoBulk d + 1
  | (_, d) => uptoBulk d + 1
 end
def uptoSmall : (H : Type) → List (DataW H) → Bool := fun _ ds => decide (uptoBulkAll ds ≤ 1048576)
def OpenSpec.upto (s : _root_.Go.ChangeSpec) : _root_.Go.OpenSpec := { _root_.Go.OpenSpec.ofChange s with cond := some uptoSmall }

/-- 'laws.FnExactAuditCpu', WHERE WHAT IT READS IS OF BULK AT MOST 1048576: true; the input reads as it did. -/
def fnExactAuditCpuUptoRow : OpenClaim := { program := "ytebehddkplmhiaa", sum := "cd4541a16525251b1c48f5274534cd2834e4be92d1557dc4e2debe953f8f0b0c", func := "loop.example/stint/laws.FnExactAuditCpu", spec := "fnExactAuditCpu", unfollowed := true, recurses := true, apart := false, narrowed := true }
def FnExactAuditCpuUptoSaid : Prop := fnExactAuditCpuUptoRow.holds Try.pinned (OpenSpec.upto fnExactAuditCpuSpec)

/-- 'laws.FnExactAuditTask', WHERE WHAT IT READS IS OF BULK AT MOST 1048576: true; the input reads as it did. -/
def fnExactAuditTaskUptoRow : OpenClaim := { program := "ytebehddkplmhiaa", sum := "cd4541a16525251b1c48f5274534cd2834e4be92d1557dc4e2debe953f8f0b0c", func := "loop.example/stint/laws.FnExactAuditTask", spec := "fnExactAuditTask", unfollowed := true, recurses := true, apart := false, narrowed := true }
def FnExactAuditTaskUptoSaid : Prop := fnExactAuditTaskUptoRow.holds Try.pinned (OpenSpec.upto fnExactAuditTaskSpec)

/-- 'laws.FnExactAuditGroup', WHERE WHAT IT READS IS OF BULK AT MOST 1048576: true; the input reads as it did. -/
def fnExactAuditGroupUptoRow : OpenClaim := { program := "ytebehddkplmhiaa", sum := "cd4541a16525251b1c48f5274534cd2834e4be92d1557dc4e2debe953f8f0b0c", func := "loop.example/stint/laws.FnExactAuditGroup", spec := "fnExactAuditGroup", unfollowed := true, recurses := true, apart := false, narrowed := true }
def FnExactAuditGroupUptoSaid : Prop := fnExactAuditGroupUptoRow.holds Try.pinned (OpenSpec.upto fnExactAuditGroupSpec)

/-- 'laws.FnExactAuditGap', WHERE WHAT IT READS IS OF BULK AT MOST 1048576: true; the input reads as it did. -/
def fnExactAuditGapUptoRow : OpenClaim := { program := "ytebehddkplmhiaa", sum := "cd4541a16525251b1c48f5274534cd2834e4be92d1557dc4e2debe953f8f0b0c", func := "loop.example/stint/laws.FnExactAuditGap", spec := "fnExactAuditGap", apart := false, narrowed := true }
def FnExactAuditGapUptoSaid : Prop := fnExactAuditGapUptoRow.holds Try.pinned (OpenSpec.upto fnExactAuditGapSpec)

end Rows
end Go.Proofs.Ytebehddkplmhiaa
