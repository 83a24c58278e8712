/-
  No cell of these rows narrows 'for every input' (looked for: loops, veiled, ifaces, maps, wideKeys, modest, calm, conditions, laid).
  DERIVED. THE GIVEN ROWS OF THIS SEAT. 8 by the template 'for every input the law returns true; each argument reads behind the call as it read before'; 0 by the template 'total and deterministic' (their statements: YtemllddgefahfaaTotals.lean).
  GIVEN WITH THE SEED: the statements are not yours to turn. If you find one false, say at which input.
  Laid BY PROGRAM, IN A SANDBOX (cutbox-rows.mjs): the forced cells as the released guide's own fill.sh prints them over the translation db690df7b63808e3… (all of the seat's roots in one cut). By AI agents, Wed Nov 11 2026. No macro, syntax, notation, axiom, sorry.
-/
import Derived.Test.YtemllddgefahfaaChecked
import GoSem.Claim
import GoSem.ClaimJoined
import GoSem.ClaimMapViews
import Derived.JoinedTies
import Derived.KernelRfl
namespace Go.Proofs.Ytemllddgefahfaa
/- THE CELL 'sum', in the pinned program and in every row, IS THE sha256 OF THE DUMP (.gsa) THAT YtemllddgefahfaaProg.lean LOADS. Nothing in Lean hashes anything: it is a label: what it is worth is what the hold of that sum in a sandbox is worth. -/
noncomputable def Try.pinned : Pinned := { name := "ytemllddgefahfaa", sum := "db690df7b63808e39ce8ef09355ccc1c5497c08a90a6eadc7287f8b1cc57133f", checked := Try.checked }
namespace Rows
def none {H : Type} : Left H := { results := [], args := [] }

/-- 'partsynclaw01.ValueJudges': WHATEVER THE INPUT: true; the input reads as it did. -/
def valueJudgesSpec : ChangeSpec := { name := "valueJudges", fn := fun _ => fun
  | [d1, d2] => { results := [.lit (.bool true)], args := [d1, d2] }
  | _ => none }
def valueJudgesRow : OpenClaim := { program := "ytemllddgefahfaa", sum := "db690df7b63808e39ce8ef09355ccc1c5497c08a90a6eadc7287f8b1cc57133f", func := "partsync/partsynclaw01.ValueJudges", spec := "valueJudges", inPlace := ["internal/bytealg.abigen_runtime_cmpstring"], unfollowed := true, recurses := true, apart := false }
def ValueJudgesSaid : Prop := valueJudgesRow.holds Try.pinned (OpenSpec.ofChange valueJudgesSpec)

/-- ITS FALSE NEIGHBOUR: 'it returns false'. Refute it at one input. -/
def valueJudgesWrong : ChangeSpec := { name := "valueJudges", fn := fun _ => fun
  | [d1, d2] => { results := [.lit (.bool false)], args := [d1, d2] }
  | _ => none }
def ValueJudgesWrongFalsely : Prop := valueJudgesRow.holds Try.pinned (OpenSpec.ofChange valueJudgesWrong)

/-- 'partsynclaw01.ValueCompares': WHATEVER THE INPUT: true; the input reads as it did. -/
def valueComparesSpec : ChangeSpec := { name := "valueCompares", fn := fun _ => fun
  | [d1, d2, d3, d4] => { results := [.lit (.bool true)], args := [d1, d2, d3, d4] }
  | _ => none }
def valueComparesRow : OpenClaim := { program := "ytemllddgefahfaa", sum := "db690df7b63808e39ce8ef09355ccc1c5497c08a90a6eadc7287f8b1cc57133f", func := "partsync/partsynclaw01.ValueCompares", spec := "valueCompares", inPlace := ["internal/bytealg.abigen_runtime_cmpstring"], unfollowed := true, recurses := true, apart := false }
def ValueComparesSaid : Prop := valueComparesRow.holds Try.pinned (OpenSpec.ofChange valueComparesSpec)

/-- ITS FALSE NEIGHBOUR: 'it returns false'. Refute it at one input. -/
def valueComparesWrong : ChangeSpec := { name := "valueCompares", fn := fun _ => fun
  | [d1, d2, d3, d4] => { results := [.lit (.bool false)], args := [d1, d2, d3, d4] }
  | _ => none }
def ValueComparesWrongFalsely : Prop := valueComparesRow.holds Try.pinned (OpenSpec.ofChange valueComparesWrong)

/-- 'partsynclaw01.ValueNexts': WHATEVER THE INPUT: true; the input reads as it did. -/
def valueNextsSpec : ChangeSpec := { name := "valueNexts", fn := fun _ => fun
  | [d1, d2] => { results := [.lit (.bool true)], args := [d1, d2] }
  | _ => none }
def valueNextsRow : OpenClaim := { program := "ytemllddgefahfaa", sum := "db690df7b63808e39ce8ef09355ccc1c5497c08a90a6eadc7287f8b1cc57133f", func := "partsync/partsynclaw01.ValueNexts", spec := "valueNexts", inPlace := ["internal/bytealg.abigen_runtime_cmpstring"], unfollowed := true, recurses := true, apart := false }
def ValueNextsSaid : Prop := valueNextsRow.holds Try.pinned (OpenSpec.ofChange valueNextsSpec)

/-- ITS FALSE NEIGHBOUR: 'it returns false'. Refute it at one input. -/
def valueNextsWrong : ChangeSpec := { name := "valueNexts", fn := fun _ => fun
  | [d1, d2] => { results := [.lit (.bool false)], args := [d1, d2] }
  | _ => none }
def ValueNextsWrongFalsely : Prop := valueNextsRow.holds Try.pinned (OpenSpec.ofChange valueNextsWrong)

/-- 'partsynclaw01.ValueFirsts': WHATEVER THE INPUT: true; the input reads as it did. -/
def valueFirstsSpec : ChangeSpec := { name := "valueFirsts", fn := fun _ => fun
  | [d1, d2] => { results := [.lit (.bool true)], args := [d1, d2] }
  | _ => none }
def valueFirstsRow : OpenClaim := { program := "ytemllddgefahfaa", sum := "db690df7b63808e39ce8ef09355ccc1c5497c08a90a6eadc7287f8b1cc57133f", func := "partsync/partsynclaw01.ValueFirsts", spec := "valueFirsts", inPlace := ["internal/bytealg.abigen_runtime_cmpstring"], unfollowed := true, recurses := true, apart := false }
def ValueFirstsSaid : Prop := valueFirstsRow.holds Try.pinned (OpenSpec.ofChange valueFirstsSpec)

/-- ITS FALSE NEIGHBOUR: 'it returns false'. Refute it at one input. -/
def valueFirstsWrong : ChangeSpec := { name := "valueFirsts", fn := fun _ => fun
  | [d1, d2] => { results := [.lit (.bool false)], args := [d1, d2] }
  | _ => none }
def ValueFirstsWrongFalsely : Prop := valueFirstsRow.holds Try.pinned (OpenSpec.ofChange valueFirstsWrong)

/-- 'partsynclaw01.ValueRows': WHATEVER THE INPUT: true; the input reads as it did. -/
def valueRowsSpec : ChangeSpec := { name := "valueRows", fn := fun _ => fun
  | [d1, d2, d3] => { results := [.lit (.bool true)], args := [d1, d2, d3] }
  | _ => none }
def valueRowsRow : OpenClaim := { program := "ytemllddgefahfaa", sum := "db690df7b63808e39ce8ef09355ccc1c5497c08a90a6eadc7287f8b1cc57133f", func := "partsync/partsynclaw01.ValueRows", spec := "valueRows", inPlace := ["internal/bytealg.abigen_runtime_cmpstring"], unfollowed := true, recurses := true, apart := false }
def ValueRowsSaid : Prop := valueRowsRow.holds Try.pinned (OpenSpec.ofChange valueRowsSpec)

/-- ITS FALSE NEIGHBOUR: 'it returns false'. Refute it at one input. -/
def valueRowsWrong : ChangeSpec := { name := "valueRows", fn := fun _ => fun
  | [d1, d2, d3] => { results := [.lit (.bool false)], args := [d1, d2, d3] }
  | _ => none }
def ValueRowsWrongFalsely : Prop := valueRowsRow.holds Try.pinned (OpenSpec.ofChange valueRowsWrong)

/-- 'partsynclaw01.ValueOrders': WHATEVER THE INPUT: true; the input reads as it did. -/
def valueOrdersSpec : ChangeSpec := { name := "valueOrders", fn := fun _ => fun
  | [d1, d2] => { results := [.lit (.bool true)], args := [d1, d2] }
  | _ => none }
def valueOrdersRow : OpenClaim := { program := "ytemllddgefahfaa", sum := "db690df7b63808e39ce8ef09355ccc1c5497c08a90a6eadc7287f8b1cc57133f", func := "partsync/partsynclaw01.ValueOrders", spec := "valueOrders", inPlace := ["internal/bytealg.abigen_runtime_cmpstring"], unfollowed := true, recurses := true, apart := false }
def ValueOrdersSaid : Prop := valueOrdersRow.holds Try.pinned (OpenSpec.ofChange valueOrdersSpec)

/-- ITS FALSE NEIGHBOUR: 'it returns false'. Refute it at one input. -/
def valueOrdersWrong : ChangeSpec := { name := "valueOrders", fn := fun _ => fun
  | [d1, d2] => { results := [.lit (.bool false)], args := [d1, d2] }
  | _ => none }
def ValueOrdersWrongFalsely : Prop := valueOrdersRow.holds Try.pinned (OpenSpec.ofChange valueOrdersWrong)

/-- 'partsynclaw01.ValueFresh': WHATEVER THE INPUT: true; the input reads as it did. -/
def valueFreshSpec : ChangeSpec := { name := "valueFresh", fn := fun _ => fun
  | [d] => { results := [.lit (.bool true)], args := [d] }
  | _ => none }
def valueFreshRow : OpenClaim := { program := "ytemllddgefahfaa", sum := "db690df7b63808e39ce8ef09355ccc1c5497c08a90a6eadc7287f8b1cc57133f", func := "partsync/partsynclaw01.ValueFresh", spec := "valueFresh", inPlace := ["internal/bytealg.abigen_runtime_cmpstring"], unfollowed := true, recurses := true, apart := false }
def ValueFreshSaid : Prop := valueFreshRow.holds Try.pinned (OpenSpec.ofChange valueFreshSpec)

/-- ITS FALSE NEIGHBOUR: 'it returns false'. Refute it at one input. -/
def valueFreshWrong : ChangeSpec := { name := "valueFresh", fn := fun _ => fun
  | [d] => { results := [.lit (.bool false)], args := [d] }
  | _ => none }
def ValueFreshWrongFalsely : Prop := valueFreshRow.holds Try.pinned (OpenSpec.ofChange valueFreshWrong)

/-- 'partsynclaw01.ValueSets': WHATEVER THE INPUT: true; the input reads as it did. -/
def valueSetsSpec : ChangeSpec := { name := "valueSets", fn := fun _ => fun
  | [d1, d2, d3] => { results := [.lit (.bool true)], args := [d1, d2, d3] }
  | _ => none }
def valueSetsRow : OpenClaim := { program := "ytemllddgefahfaa", sum := "db690df7b63808e39ce8ef09355ccc1c5497c08a90a6eadc7287f8b1cc57133f", func := "partsync/partsynclaw01.ValueSets", spec := "valueSets", inPlace := ["internal/bytealg.abigen_runtime_cmpstring"], unfollowed := true, recurses := true, apart := false }
def ValueSetsSaid : Prop := valueSetsRow.holds Try.pinned (OpenSpec.ofChange valueSetsSpec)

/-- ITS FALSE NEIGHBOUR: 'it returns false'. Refute it at one input. -/
def valueSetsWrong : ChangeSpec := { name := "valueSets", fn := fun _ => fun
  | [d1, d2, d3] => { results := [.lit (.bool false)], args := [d1, d2, d3] }
  | _ => none }
def ValueSetsWrongFalsely : Prop := valueSetsRow.holds Try.pinned (OpenSpec.ofChange valueSetsWrong)

/- THE SECOND FORM. 'bulk': how many values and letters a reading holds, each counted each time it is reached (what is shared counts as often as it is met; a slice's spare places count too). A statement '..UptoSaid' is the law's where the arguments, and the package variables that the reading takes, are together of bulk at most 1048576: NARROWER than '..Said'. Prove '..Said' where nothing that the law and all that it calls make is longer than what came in: it says more and counts as full. Else prove '..UptoSaid'. A law counts once. -/
mutual
def uptoBulk {H : Type} : DataW H → Nat
  | .lit (.string bytes) => bytes.length + 1
  | .lit _ => 1
  | .nil => 1
  | .ptr d => uptoBulk d + 1
  | .slice elems spare => uptoBulkAll elems + uptoBulkAll spare + 1
  | .agg parts => uptoBulkAll parts + 1
  | .iface _ d => uptoBulk d + 1
  | .map entries => uptoBulkEntries entries + 1
  | .held _ => 1
def uptoBulkAll {H : Type} : List (DataW H) → Nat
  | [] => 0
  | d :: r => uptoBulk d + uptoBulkAll r
def uptoBulkEntries {H : Type} : List (Lit × DataW H) → Nat
  | [] => 0
  | x :: r => uptoBulkEntry x + uptoBulkEntries r
def uptoBulkEntry {H : Type} : Lit × DataW H → Nat
  | (.string bytes, d) => bytes.length + uptoBulk d + 1
  | (_, d) => uptoBulk d + 1
 end
def uptoSmall : (H : Type) → List (DataW H) → Bool := fun _ ds => decide (uptoBulkAll ds ≤ 1048576)
def OpenSpec.upto (s : _root_.Go.ChangeSpec) : _root_.Go.OpenSpec := { _root_.Go.OpenSpec.ofChange s with cond := some uptoSmall }

/-- 'partsynclaw01.ValueJudges', WHERE WHAT IT READS IS OF BULK AT MOST 1048576: true; the input reads as it did. -/
def valueJudgesUptoRow : OpenClaim := { program := "ytemllddgefahfaa", sum := "db690df7b63808e39ce8ef09355ccc1c5497c08a90a6eadc7287f8b1cc57133f", func := "partsync/partsynclaw01.ValueJudges", spec := "valueJudges", inPlace := ["internal/bytealg.abigen_runtime_cmpstring"], unfollowed := true, recurses := true, apart := false, narrowed := true }
def ValueJudgesUptoSaid : Prop := valueJudgesUptoRow.holds Try.pinned (OpenSpec.upto valueJudgesSpec)

/-- 'partsynclaw01.ValueCompares', WHERE WHAT IT READS IS OF BULK AT MOST 1048576: true; the input reads as it did. -/
def valueComparesUptoRow : OpenClaim := { program := "ytemllddgefahfaa", sum := "db690df7b63808e39ce8ef09355ccc1c5497c08a90a6eadc7287f8b1cc57133f", func := "partsync/partsynclaw01.ValueCompares", spec := "valueCompares", inPlace := ["internal/bytealg.abigen_runtime_cmpstring"], unfollowed := true, recurses := true, apart := false, narrowed := true }
def ValueComparesUptoSaid : Prop := valueComparesUptoRow.holds Try.pinned (OpenSpec.upto valueComparesSpec)

/-- 'partsynclaw01.ValueNexts', WHERE WHAT IT READS IS OF BULK AT MOST 1048576: true; the input reads as it did. -/
def valueNextsUptoRow : OpenClaim := { program := "ytemllddgefahfaa", sum := "db690df7b63808e39ce8ef09355ccc1c5497c08a90a6eadc7287f8b1cc57133f", func := "partsync/partsynclaw01.ValueNexts", spec := "valueNexts", inPlace := ["internal/bytealg.abigen_runtime_cmpstring"], unfollowed := true, recurses := true, apart := false, narrowed := true }
def ValueNextsUptoSaid : Prop := valueNextsUptoRow.holds Try.pinned (OpenSpec.upto valueNextsSpec)

/-- 'partsynclaw01.ValueFirsts', WHERE WHAT IT READS IS OF BULK AT MOST 1048576: true; the input reads as it did. -/
def valueFirstsUptoRow : OpenClaim := { program := "ytemllddgefahfaa", sum := "db690df7b63808e39ce8ef09355ccc1c5497c08a90a6eadc7287f8b1cc57133f", func := "partsync/partsynclaw01.ValueFirsts", spec := "valueFirsts", inPlace := ["internal/bytealg.abigen_runtime_cmpstring"], unfollowed := true, recurses := true, apart := false, narrowed := true }
def ValueFirstsUptoSaid : Prop := valueFirstsUptoRow.holds Try.pinned (OpenSpec.upto valueFirstsSpec)

/-- 'partsynclaw01.ValueRows', WHERE WHAT IT READS IS OF BULK AT MOST 1048576: true; the input reads as it did. -/
def valueRowsUptoRow : OpenClaim := { program := "ytemllddgefahfaa", sum := "db690df7b63808e39ce8ef09355ccc1c5497c08a90a6eadc7287f8b1cc57133f", func := "partsync/partsynclaw01.ValueRows", spec := "valueRows", inPlace := ["internal/bytealg.abigen_runtime_cmpstring"], unfollowed := true, recurses := true, apart := false, narrowed := true }
def ValueRowsUptoSaid : Prop := valueRowsUptoRow.holds Try.pinned (OpenSpec.upto valueRowsSpec)

/-- 'partsynclaw01.ValueOrders', WHERE WHAT IT READS IS OF BULK AT MOST 1048576: true; the input reads as it did. -/
def valueOrdersUptoRow : OpenClaim := { program := "ytemllddgefahfaa", sum := "db690df7b63808e39ce8ef09355ccc1c5497c08a90a6eadc7287f8b1cc57133f", func := "partsync/partsynclaw01.ValueOrders", spec := "valueOrders", inPlace := ["internal/bytealg.abigen_runtime_cmpstring"], unfollowed := true, recurses := true, apart := false, narrowed := true }
def ValueOrdersUptoSaid : Prop := valueOrdersUptoRow.holds Try.pinned (OpenSpec.upto valueOrdersSpec)

/-- 'partsynclaw01.ValueFresh', WHERE WHAT IT READS IS OF BULK AT MOST 1048576: true; the input reads as it did. -/
def valueFreshUptoRow : OpenClaim := { program := "ytemllddgefahfaa", sum := "db690df7b63808e39ce8ef09355ccc1c5497c08a90a6eadc7287f8b1cc57133f", func := "partsync/partsynclaw01.ValueFresh", spec := "valueFresh", inPlace := ["internal/bytealg.abigen_runtime_cmpstring"], unfollowed := true, recurses := true, apart := false, narrowed := true }
def ValueFreshUptoSaid : Prop := valueFreshUptoRow.holds Try.pinned (OpenSpec.upto valueFreshSpec)

/-- 'partsynclaw01.ValueSets', WHERE WHAT IT READS IS OF BULK AT MOST 1048576: true; the input reads as it did. -/
def valueSetsUptoRow : OpenClaim := { program := "ytemllddgefahfaa", sum := "db690df7b63808e39ce8ef09355ccc1c5497c08a90a6eadc7287f8b1cc57133f", func := "partsync/partsynclaw01.ValueSets", spec := "valueSets", inPlace := ["internal/bytealg.abigen_runtime_cmpstring"], unfollowed := true, recurses := true, apart := false, narrowed := true }
def ValueSetsUptoSaid : Prop := valueSetsUptoRow.holds Try.pinned (OpenSpec.upto valueSetsSpec)

end Rows
end Go.Proofs.Ytemllddgefahfaa
