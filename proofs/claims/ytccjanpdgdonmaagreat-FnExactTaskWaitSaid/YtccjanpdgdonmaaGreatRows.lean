/-
  No cell of these rows narrows 'for every input' (looked for: loops, veiled, ifaces, maps, wideKeys, modest, calm, conditions, laid).
  DERIVED. THE GIVEN ROWS OF THIS SEAT. 6 by the template 'for every input the law returns true; each argument reads behind the call as it read before'; 0 by the template 'total and deterministic' (their statements: YtccjanpdgdonmaaGreatTotals.lean).
  GIVEN WITH THE SEED: the statements are not yours to turn. If you find one false, say at which input.
  Laid BY PROGRAM, IN A SANDBOX (cutbox-rows.mjs): the forced cells as the released guide's own fill.sh prints them over the translation d8239967d988b5b2… (all of the seat's roots in one cut). By AI agents, Wed Nov 11 2026. No macro, syntax, notation, axiom, sorry.
-/
import Derived.Test.YtccjanpdgdonmaaGreatChecked
import GoSem.Claim
import GoSem.ClaimJoined
import GoSem.ClaimMapViews
import Derived.JoinedTies
import Derived.KernelRfl
namespace Go.Proofs.YtccjanpdgdonmaaGreat
/- THE CELL 'sum', in the pinned program and in every row, IS THE sha256 OF THE DUMP (.gsa) THAT YtccjanpdgdonmaaGreatProg.lean LOADS. Nothing in Lean hashes anything: it is a label: what it is worth is what the hold of that sum in a sandbox is worth. -/
noncomputable def Tryz.pinned : Pinned := { name := "ytccjanpdgdonmaagreat", sum := "d8239967d988b5b232a342b0a2eded68df71f9275bddb56e7681e1a5ed636eb0", checked := Tryz.checked }
namespace Rows
def none {H : Type} : Left H := { results := [], args := [] }

/-- 'laws.FnExactGroupLag': WHATEVER THE INPUT: true; the input reads as it did. -/
def fnExactGroupLagSpec : ChangeSpec := { name := "fnExactGroupLag", fn := fun _ => fun
  | [d1, d2, d3] => { results := [.lit (.bool true)], args := [d1, d2, d3] }
  | _ => none }
def fnExactGroupLagRow : OpenClaim := { program := "ytccjanpdgdonmaagreat", sum := "d8239967d988b5b232a342b0a2eded68df71f9275bddb56e7681e1a5ed636eb0", func := "loop.example/stint/laws.FnExactGroupLag", spec := "fnExactGroupLag", unfollowed := true, recurses := true, plainKeys := false, apart := false }
def FnExactGroupLagSaid : Prop := fnExactGroupLagRow.holds Tryz.pinned (OpenSpec.ofChange fnExactGroupLagSpec)

/-- ITS FALSE NEIGHBOUR: 'it returns false'. Refute it at one input. -/
def fnExactGroupLagWrong : ChangeSpec := { name := "fnExactGroupLag", fn := fun _ => fun
  | [d1, d2, d3] => { results := [.lit (.bool false)], args := [d1, d2, d3] }
  | _ => none }
def FnExactGroupLagWrongFalsely : Prop := fnExactGroupLagRow.holds Tryz.pinned (OpenSpec.ofChange fnExactGroupLagWrong)

/-- 'laws.FnExactTaskLag': WHATEVER THE INPUT: true; the input reads as it did. -/
def fnExactTaskLagSpec : ChangeSpec := { name := "fnExactTaskLag", fn := fun _ => fun
  | [d1, d2] => { results := [.lit (.bool true)], args := [d1, d2] }
  | _ => none }
def fnExactTaskLagRow : OpenClaim := { program := "ytccjanpdgdonmaagreat", sum := "d8239967d988b5b232a342b0a2eded68df71f9275bddb56e7681e1a5ed636eb0", func := "loop.example/stint/laws.FnExactTaskLag", spec := "fnExactTaskLag", unfollowed := true, recurses := true, plainKeys := false, apart := false }
def FnExactTaskLagSaid : Prop := fnExactTaskLagRow.holds Tryz.pinned (OpenSpec.ofChange fnExactTaskLagSpec)

/-- ITS FALSE NEIGHBOUR: 'it returns false'. Refute it at one input. -/
def fnExactTaskLagWrong : ChangeSpec := { name := "fnExactTaskLag", fn := fun _ => fun
  | [d1, d2] => { results := [.lit (.bool false)], args := [d1, d2] }
  | _ => none }
def FnExactTaskLagWrongFalsely : Prop := fnExactTaskLagRow.holds Tryz.pinned (OpenSpec.ofChange fnExactTaskLagWrong)

/-- 'laws.FnExactGroupLeft': WHATEVER THE INPUT: true; the input reads as it did. -/
def fnExactGroupLeftSpec : ChangeSpec := { name := "fnExactGroupLeft", fn := fun _ => fun
  | [d1, d2] => { results := [.lit (.bool true)], args := [d1, d2] }
  | _ => none }
def fnExactGroupLeftRow : OpenClaim := { program := "ytccjanpdgdonmaagreat", sum := "d8239967d988b5b232a342b0a2eded68df71f9275bddb56e7681e1a5ed636eb0", func := "loop.example/stint/laws.FnExactGroupLeft", spec := "fnExactGroupLeft", unfollowed := true, recurses := true, plainKeys := false, apart := false }
def FnExactGroupLeftSaid : Prop := fnExactGroupLeftRow.holds Tryz.pinned (OpenSpec.ofChange fnExactGroupLeftSpec)

/-- ITS FALSE NEIGHBOUR: 'it returns false'. Refute it at one input. -/
def fnExactGroupLeftWrong : ChangeSpec := { name := "fnExactGroupLeft", fn := fun _ => fun
  | [d1, d2] => { results := [.lit (.bool false)], args := [d1, d2] }
  | _ => none }
def FnExactGroupLeftWrongFalsely : Prop := fnExactGroupLeftRow.holds Tryz.pinned (OpenSpec.ofChange fnExactGroupLeftWrong)

/-- 'laws.FnExactTaskShare': WHATEVER THE INPUT: true; the input reads as it did. -/
def fnExactTaskShareSpec : ChangeSpec := { name := "fnExactTaskShare", fn := fun _ => fun
  | [d1, d2] => { results := [.lit (.bool true)], args := [d1, d2] }
  | _ => none }
def fnExactTaskShareRow : OpenClaim := { program := "ytccjanpdgdonmaagreat", sum := "d8239967d988b5b232a342b0a2eded68df71f9275bddb56e7681e1a5ed636eb0", func := "loop.example/stint/laws.FnExactTaskShare", spec := "fnExactTaskShare", unfollowed := true, recurses := true, plainKeys := false, apart := false }
def FnExactTaskShareSaid : Prop := fnExactTaskShareRow.holds Tryz.pinned (OpenSpec.ofChange fnExactTaskShareSpec)

/-- ITS FALSE NEIGHBOUR: 'it returns false'. Refute it at one input. -/
def fnExactTaskShareWrong : ChangeSpec := { name := "fnExactTaskShare", fn := fun _ => fun
  | [d1, d2] => { results := [.lit (.bool false)], args := [d1, d2] }
  | _ => none }
def FnExactTaskShareWrongFalsely : Prop := fnExactTaskShareRow.holds Tryz.pinned (OpenSpec.ofChange fnExactTaskShareWrong)

/-- 'laws.FnExactTaskApart': WHATEVER THE INPUT: true; the input reads as it did. -/
def fnExactTaskApartSpec : ChangeSpec := { name := "fnExactTaskApart", fn := fun _ => fun
  | [d1, d2] => { results := [.lit (.bool true)], args := [d1, d2] }
  | _ => none }
def fnExactTaskApartRow : OpenClaim := { program := "ytccjanpdgdonmaagreat", sum := "d8239967d988b5b232a342b0a2eded68df71f9275bddb56e7681e1a5ed636eb0", func := "loop.example/stint/laws.FnExactTaskApart", spec := "fnExactTaskApart", unfollowed := true, recurses := true, plainKeys := false, apart := false }
def FnExactTaskApartSaid : Prop := fnExactTaskApartRow.holds Tryz.pinned (OpenSpec.ofChange fnExactTaskApartSpec)

/-- ITS FALSE NEIGHBOUR: 'it returns false'. Refute it at one input. -/
def fnExactTaskApartWrong : ChangeSpec := { name := "fnExactTaskApart", fn := fun _ => fun
  | [d1, d2] => { results := [.lit (.bool false)], args := [d1, d2] }
  | _ => none }
def FnExactTaskApartWrongFalsely : Prop := fnExactTaskApartRow.holds Tryz.pinned (OpenSpec.ofChange fnExactTaskApartWrong)

/-- 'laws.FnExactTaskWait': WHATEVER THE INPUT: true; the input reads as it did. -/
def fnExactTaskWaitSpec : ChangeSpec := { name := "fnExactTaskWait", fn := fun _ => fun
  | [d1, d2] => { results := [.lit (.bool true)], args := [d1, d2] }
  | _ => none }
def fnExactTaskWaitRow : OpenClaim := { program := "ytccjanpdgdonmaagreat", sum := "d8239967d988b5b232a342b0a2eded68df71f9275bddb56e7681e1a5ed636eb0", func := "loop.example/stint/laws.FnExactTaskWait", spec := "fnExactTaskWait", unfollowed := true, recurses := true, plainKeys := false, apart := false }
def FnExactTaskWaitSaid : Prop := fnExactTaskWaitRow.holds Tryz.pinned (OpenSpec.ofChange fnExactTaskWaitSpec)

/-- ITS FALSE NEIGHBOUR: 'it returns false'. Refute it at one input. -/
def fnExactTaskWaitWrong : ChangeSpec := { name := "fnExactTaskWait", fn := fun _ => fun
  | [d1, d2] => { results := [.lit (.bool false)], args := [d1, d2] }
  | _ => none }
def FnExactTaskWaitWrongFalsely : Prop := fnExactTaskWaitRow.holds Tryz.pinned (OpenSpec.ofChange fnExactTaskWaitWrong)

/- THE SECOND FORM. 'bulk': how many values and letters a reading holds, each counted each time it is reached (what is shared counts as often as it is met; a slice's spare places count too). A statement '..UptoSaid' is the law's where the arguments, and the package variables that the reading takes, are together of bulk at most 1048576: NARROWER than '..Said'. Prove '..Said' where nothing that the law and all that it calls make is longer than what came in: it says more and counts as full. Else prove '..UptoSaid'. A law counts once. -/
mutual
def uptoBulk {H : Type} : DataW H → Nat
  | .lit (.string bytes) => bytes.length + 1
  | .lit _ => 1
  | .nil => 1
  | .ptr d => uptoBulk d + 1
  | .slice elems spare => uptoBulkAll elems + uptoBulkAll spare + 1
  | .agg parts => uptoBulkAll parts + 1
  | .iface _ d => uptoBulk d + 1
  | .map entries => uptoBulkEntries entries + 1
  | .held _ => 1
def uptoBulkAll {H : Type} : List (DataW H) → Nat
  | [] => 0
  | d :: r => uptoBulk d + uptoBulkAll r
def uptoBulkEntries {H : Type} : List (Lit × DataW H) → Nat
  | [] => 0
  | x :: r => uptoBulkEntry x + uptoBulkEntries r
def uptoBulkEntry {H : Type} : Lit × DataW H → Nat
  | (.string bytes, d) => bytes.length + uptoBulk d + 1
  | (_, d) => uptoBulk d + 1
 end
def uptoSmall : (H : Type) → List (DataW H) → Bool := fun _ ds => decide (uptoBulkAll ds ≤ 1048576)
def OpenSpec.upto (s : _root_.Go.ChangeSpec) : _root_.Go.OpenSpec := { _root_.Go.OpenSpec.ofChange s with cond := some uptoSmall }

/-- 'laws.FnExactGroupLag', WHERE WHAT IT READS IS OF BULK AT MOST 1048576: true; the input reads as it did. -/
def fnExactGroupLagUptoRow : OpenClaim := { program := "ytccjanpdgdonmaagreat", sum := "d8239967d988b5b232a342b0a2eded68df71f9275bddb56e7681e1a5ed636eb0", func := "loop.example/stint/laws.FnExactGroupLag", spec := "fnExactGroupLag", unfollowed := true, recurses := true, plainKeys := false, apart := false, narrowed := true }
def FnExactGroupLagUptoSaid : Prop := fnExactGroupLagUptoRow.holds Tryz.pinned (OpenSpec.upto fnExactGroupLagSpec)

/-- 'laws.FnExactTaskLag', WHERE WHAT IT READS IS OF BULK AT MOST 1048576: true; the input reads as it did. -/
def fnExactTaskLagUptoRow : OpenClaim := { program := "ytccjanpdgdonmaagreat", sum := "d8239967d988b5b232a342b0a2eded68df71f9275bddb56e7681e1a5ed636eb0", func := "loop.example/stint/laws.FnExactTaskLag", spec := "fnExactTaskLag", unfollowed := true, recurses := true, plainKeys := false, apart := false, narrowed := true }
def FnExactTaskLagUptoSaid : Prop := fnExactTaskLagUptoRow.holds Tryz.pinned (OpenSpec.upto fnExactTaskLagSpec)

/-- 'laws.FnExactGroupLeft', WHERE WHAT IT READS IS OF BULK AT MOST 1048576: true; the input reads as it did. -/
def fnExactGroupLeftUptoRow : OpenClaim := { program := "ytccjanpdgdonmaagreat", sum := "d8239967d988b5b232a342b0a2eded68df71f9275bddb56e7681e1a5ed636eb0", func := "loop.example/stint/laws.FnExactGroupLeft", spec := "fnExactGroupLeft", unfollowed := true, recurses := true, plainKeys := false, apart := false, narrowed := true }
def FnExactGroupLeftUptoSaid : Prop := fnExactGroupLeftUptoRow.holds Tryz.pinned (OpenSpec.upto fnExactGroupLeftSpec)

/-- 'laws.FnExactTaskShare', WHERE WHAT IT READS IS OF BULK AT MOST 1048576: true; the input reads as it did. -/
def fnExactTaskShareUptoRow : OpenClaim := { program := "ytccjanpdgdonmaagreat", sum := "d8239967d988b5b232a342b0a2eded68df71f9275bddb56e7681e1a5ed636eb0", func := "loop.example/stint/laws.FnExactTaskShare", spec := "fnExactTaskShare", unfollowed := true, recurses := true, plainKeys := false, apart := false, narrowed := true }
def FnExactTaskShareUptoSaid : Prop := fnExactTaskShareUptoRow.holds Tryz.pinned (OpenSpec.upto fnExactTaskShareSpec)

/-- 'laws.FnExactTaskApart', WHERE WHAT IT READS IS OF BULK AT MOST 1048576: true; the input reads as it did. -/
def fnExactTaskApartUptoRow : OpenClaim := { program := "ytccjanpdgdonmaagreat", sum := "d8239967d988b5b232a342b0a2eded68df71f9275bddb56e7681e1a5ed636eb0", func := "loop.example/stint/laws.FnExactTaskApart", spec := "fnExactTaskApart", unfollowed := true, recurses := true, plainKeys := false, apart := false, narrowed := true }
def FnExactTaskApartUptoSaid : Prop := fnExactTaskApartUptoRow.holds Tryz.pinned (OpenSpec.upto fnExactTaskApartSpec)

/-- 'laws.FnExactTaskWait', WHERE WHAT IT READS IS OF BULK AT MOST 1048576: true; the input reads as it did. -/
def fnExactTaskWaitUptoRow : OpenClaim := { program := "ytccjanpdgdonmaagreat", sum := "d8239967d988b5b232a342b0a2eded68df71f9275bddb56e7681e1a5ed636eb0", func := "loop.example/stint/laws.FnExactTaskWait", spec := "fnExactTaskWait", unfollowed := true, recurses := true, plainKeys := false, apart := false, narrowed := true }
def FnExactTaskWaitUptoSaid : Prop := fnExactTaskWaitUptoRow.holds Tryz.pinned (OpenSpec.upto fnExactTaskWaitSpec)

end Rows
end Go.Proofs.YtccjanpdgdonmaaGreat
