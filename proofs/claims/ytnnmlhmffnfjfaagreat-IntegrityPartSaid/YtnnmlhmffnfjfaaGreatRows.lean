/-
  NARROWER THAN 'FOR EVERY INPUT', by the rows' own cells (each row's printed sentence says how): BoundsExact: loops.
  DERIVED. THE GIVEN ROWS OF THIS SEAT. 10 by the template 'for every input the law returns true; each argument reads behind the call as it read before'; 0 by the template 'total and deterministic' (their statements: YtnnmlhmffnfjfaaGreatTotals.lean).
  GIVEN WITH THE SEED: the statements are not yours to turn. If you find one false, say at which input.
  Laid BY PROGRAM, IN A SANDBOX (cutbox-rows.mjs): the forced cells as the released guide's own fill.sh prints them over the translation 970de1de8e698110… (all of the seat's roots in one cut). By AI agents, Wed Nov 11 2026. No macro, syntax, notation, axiom, sorry.
-/
import Derived.Test.YtnnmlhmffnfjfaaGreatChecked
import GoSem.Claim
import GoSem.ClaimJoined
import GoSem.ClaimMapViews
import Derived.JoinedTies
import Derived.KernelRfl
namespace Go.Proofs.YtnnmlhmffnfjfaaGreat
/- THE CELL 'sum', in the pinned program and in every row, IS THE sha256 OF THE DUMP (.gsa) THAT YtnnmlhmffnfjfaaGreatProg.lean LOADS. Nothing in Lean hashes anything: it is a label: what it is worth is what the hold of that sum in a sandbox is worth. -/
noncomputable def Tryz.pinned : Pinned := { name := "ytnnmlhmffnfjfaagreat", sum := "970de1de8e69811096719908e0d48bba4d12ef9abbae6ef644836500093f0fee", checked := Tryz.checked }
namespace Rows
def none {H : Type} : Left H := { results := [], args := [] }

/-- 'partsynclaw09.IntegrityFinds': WHATEVER THE INPUT: true; the input reads as it did. -/
def integrityFindsSpec : ChangeSpec := { name := "integrityFinds", fn := fun _ => fun
  | [d1, d2] => { results := [.lit (.bool true)], args := [d1, d2] }
  | _ => none }
def integrityFindsRow : OpenClaim := { program := "ytnnmlhmffnfjfaagreat", sum := "970de1de8e69811096719908e0d48bba4d12ef9abbae6ef644836500093f0fee", func := "partsync/partsynclaw09.IntegrityFinds", spec := "integrityFinds", inPlace := ["internal/bytealg.abigen_runtime_cmpstring"], unfollowed := true, recurses := true, plainKeys := false, apart := false }
def IntegrityFindsSaid : Prop := integrityFindsRow.holds Tryz.pinned (OpenSpec.ofChange integrityFindsSpec)

/-- ITS FALSE NEIGHBOUR: 'it returns false'. Refute it at one input. -/
def integrityFindsWrong : ChangeSpec := { name := "integrityFinds", fn := fun _ => fun
  | [d1, d2] => { results := [.lit (.bool false)], args := [d1, d2] }
  | _ => none }
def IntegrityFindsWrongFalsely : Prop := integrityFindsRow.holds Tryz.pinned (OpenSpec.ofChange integrityFindsWrong)

/-- 'partsynclaw09.IntegrityRechecks': WHATEVER THE INPUT: true; the input reads as it did. -/
def integrityRechecksSpec : ChangeSpec := { name := "integrityRechecks", fn := fun _ => fun
  | [d1, d2] => { results := [.lit (.bool true)], args := [d1, d2] }
  | _ => none }
def integrityRechecksRow : OpenClaim := { program := "ytnnmlhmffnfjfaagreat", sum := "970de1de8e69811096719908e0d48bba4d12ef9abbae6ef644836500093f0fee", func := "partsync/partsynclaw09.IntegrityRechecks", spec := "integrityRechecks", inPlace := ["internal/bytealg.abigen_runtime_cmpstring"], unfollowed := true, recurses := true, plainKeys := false, apart := false }
def IntegrityRechecksSaid : Prop := integrityRechecksRow.holds Tryz.pinned (OpenSpec.ofChange integrityRechecksSpec)

/-- ITS FALSE NEIGHBOUR: 'it returns false'. Refute it at one input. -/
def integrityRechecksWrong : ChangeSpec := { name := "integrityRechecks", fn := fun _ => fun
  | [d1, d2] => { results := [.lit (.bool false)], args := [d1, d2] }
  | _ => none }
def IntegrityRechecksWrongFalsely : Prop := integrityRechecksRow.holds Tryz.pinned (OpenSpec.ofChange integrityRechecksWrong)

/-- 'partsynclaw09.IntegrityKeeps': WHATEVER THE INPUT: true; the input reads as it did. -/
def integrityKeepsSpec : ChangeSpec := { name := "integrityKeeps", fn := fun _ => fun
  | [d] => { results := [.lit (.bool true)], args := [d] }
  | _ => none }
def integrityKeepsRow : OpenClaim := { program := "ytnnmlhmffnfjfaagreat", sum := "970de1de8e69811096719908e0d48bba4d12ef9abbae6ef644836500093f0fee", func := "partsync/partsynclaw09.IntegrityKeeps", spec := "integrityKeeps", inPlace := ["internal/bytealg.abigen_runtime_cmpstring"], unfollowed := true, recurses := true, plainKeys := false, apart := false }
def IntegrityKeepsSaid : Prop := integrityKeepsRow.holds Tryz.pinned (OpenSpec.ofChange integrityKeepsSpec)

/-- ITS FALSE NEIGHBOUR: 'it returns false'. Refute it at one input. -/
def integrityKeepsWrong : ChangeSpec := { name := "integrityKeeps", fn := fun _ => fun
  | [d] => { results := [.lit (.bool false)], args := [d] }
  | _ => none }
def IntegrityKeepsWrongFalsely : Prop := integrityKeepsRow.holds Tryz.pinned (OpenSpec.ofChange integrityKeepsWrong)

/-- 'partsynclaw09.IntegrityPart': WHATEVER THE INPUT: true; the input reads as it did. -/
def integrityPartSpec : ChangeSpec := { name := "integrityPart", fn := fun _ => fun
  | [d] => { results := [.lit (.bool true)], args := [d] }
  | _ => none }
def integrityPartRow : OpenClaim := { program := "ytnnmlhmffnfjfaagreat", sum := "970de1de8e69811096719908e0d48bba4d12ef9abbae6ef644836500093f0fee", func := "partsync/partsynclaw09.IntegrityPart", spec := "integrityPart", inPlace := ["internal/bytealg.abigen_runtime_cmpstring"], unfollowed := true, recurses := true, plainKeys := false, apart := false }
def IntegrityPartSaid : Prop := integrityPartRow.holds Tryz.pinned (OpenSpec.ofChange integrityPartSpec)

/-- ITS FALSE NEIGHBOUR: 'it returns false'. Refute it at one input. -/
def integrityPartWrong : ChangeSpec := { name := "integrityPart", fn := fun _ => fun
  | [d] => { results := [.lit (.bool false)], args := [d] }
  | _ => none }
def IntegrityPartWrongFalsely : Prop := integrityPartRow.holds Tryz.pinned (OpenSpec.ofChange integrityPartWrong)

/-- 'partsynclaw09.IntegrityRepairs': WHATEVER THE INPUT: true; the input reads as it did. -/
def integrityRepairsSpec : ChangeSpec := { name := "integrityRepairs", fn := fun _ => fun
  | [d] => { results := [.lit (.bool true)], args := [d] }
  | _ => none }
def integrityRepairsRow : OpenClaim := { program := "ytnnmlhmffnfjfaagreat", sum := "970de1de8e69811096719908e0d48bba4d12ef9abbae6ef644836500093f0fee", func := "partsync/partsynclaw09.IntegrityRepairs", spec := "integrityRepairs", inPlace := ["internal/bytealg.abigen_runtime_cmpstring"], unfollowed := true, recurses := true, plainKeys := false, apart := false }
def IntegrityRepairsSaid : Prop := integrityRepairsRow.holds Tryz.pinned (OpenSpec.ofChange integrityRepairsSpec)

/-- ITS FALSE NEIGHBOUR: 'it returns false'. Refute it at one input. -/
def integrityRepairsWrong : ChangeSpec := { name := "integrityRepairs", fn := fun _ => fun
  | [d] => { results := [.lit (.bool false)], args := [d] }
  | _ => none }
def IntegrityRepairsWrongFalsely : Prop := integrityRepairsRow.holds Tryz.pinned (OpenSpec.ofChange integrityRepairsWrong)

/-- 'partsynclaw06.BoundsExact': WHATEVER THE INPUT: true; the input reads as it did. -/
def boundsExactSpec : ChangeSpec := { name := "boundsExact", fn := fun _ => fun
  | [d1, d2, d3] => { results := [.lit (.bool true)], args := [d1, d2, d3] }
  | _ => none }
def boundsExactRow : OpenClaim := { program := "ytnnmlhmffnfjfaagreat", sum := "970de1de8e69811096719908e0d48bba4d12ef9abbae6ef644836500093f0fee", func := "partsync/partsynclaw06.BoundsExact", spec := "boundsExact", inPlace := ["internal/bytealg.abigen_runtime_cmpstring"], unfollowed := true, recurses := true, loops := true, plainKeys := false, apart := false }
def BoundsExactSaid : Prop := boundsExactRow.holds Tryz.pinned (OpenSpec.ofChange boundsExactSpec)

/-- ITS FALSE NEIGHBOUR: 'it returns false'. Refute it at one input. -/
def boundsExactWrong : ChangeSpec := { name := "boundsExact", fn := fun _ => fun
  | [d1, d2, d3] => { results := [.lit (.bool false)], args := [d1, d2, d3] }
  | _ => none }
def BoundsExactWrongFalsely : Prop := boundsExactRow.holds Tryz.pinned (OpenSpec.ofChange boundsExactWrong)

/-- 'partsynclaw06.BoundsEnclose': WHATEVER THE INPUT: true; the input reads as it did. -/
def boundsEncloseSpec : ChangeSpec := { name := "boundsEnclose", fn := fun _ => fun
  | [d] => { results := [.lit (.bool true)], args := [d] }
  | _ => none }
def boundsEncloseRow : OpenClaim := { program := "ytnnmlhmffnfjfaagreat", sum := "970de1de8e69811096719908e0d48bba4d12ef9abbae6ef644836500093f0fee", func := "partsync/partsynclaw06.BoundsEnclose", spec := "boundsEnclose", inPlace := ["internal/bytealg.abigen_runtime_cmpstring"], unfollowed := true, recurses := true, plainKeys := false, apart := false }
def BoundsEncloseSaid : Prop := boundsEncloseRow.holds Tryz.pinned (OpenSpec.ofChange boundsEncloseSpec)

/-- ITS FALSE NEIGHBOUR: 'it returns false'. Refute it at one input. -/
def boundsEncloseWrong : ChangeSpec := { name := "boundsEnclose", fn := fun _ => fun
  | [d] => { results := [.lit (.bool false)], args := [d] }
  | _ => none }
def BoundsEncloseWrongFalsely : Prop := boundsEncloseRow.holds Tryz.pinned (OpenSpec.ofChange boundsEncloseWrong)

/-- 'partsynclaw06.BoundsNegate': WHATEVER THE INPUT: true; the input reads as it did. -/
def boundsNegateSpec : ChangeSpec := { name := "boundsNegate", fn := fun _ => fun
  | [d] => { results := [.lit (.bool true)], args := [d] }
  | _ => none }
def boundsNegateRow : OpenClaim := { program := "ytnnmlhmffnfjfaagreat", sum := "970de1de8e69811096719908e0d48bba4d12ef9abbae6ef644836500093f0fee", func := "partsync/partsynclaw06.BoundsNegate", spec := "boundsNegate", inPlace := ["internal/bytealg.abigen_runtime_cmpstring"], unfollowed := true, recurses := true, plainKeys := false, apart := false }
def BoundsNegateSaid : Prop := boundsNegateRow.holds Tryz.pinned (OpenSpec.ofChange boundsNegateSpec)

/-- ITS FALSE NEIGHBOUR: 'it returns false'. Refute it at one input. -/
def boundsNegateWrong : ChangeSpec := { name := "boundsNegate", fn := fun _ => fun
  | [d] => { results := [.lit (.bool false)], args := [d] }
  | _ => none }
def BoundsNegateWrongFalsely : Prop := boundsNegateRow.holds Tryz.pinned (OpenSpec.ofChange boundsNegateWrong)

/-- 'partsynclaw06.BoundsJoins': WHATEVER THE INPUT: true; the input reads as it did. -/
def boundsJoinsSpec : ChangeSpec := { name := "boundsJoins", fn := fun _ => fun
  | [d] => { results := [.lit (.bool true)], args := [d] }
  | _ => none }
def boundsJoinsRow : OpenClaim := { program := "ytnnmlhmffnfjfaagreat", sum := "970de1de8e69811096719908e0d48bba4d12ef9abbae6ef644836500093f0fee", func := "partsync/partsynclaw06.BoundsJoins", spec := "boundsJoins", inPlace := ["internal/bytealg.abigen_runtime_cmpstring"], unfollowed := true, recurses := true, plainKeys := false, apart := false }
def BoundsJoinsSaid : Prop := boundsJoinsRow.holds Tryz.pinned (OpenSpec.ofChange boundsJoinsSpec)

/-- ITS FALSE NEIGHBOUR: 'it returns false'. Refute it at one input. -/
def boundsJoinsWrong : ChangeSpec := { name := "boundsJoins", fn := fun _ => fun
  | [d] => { results := [.lit (.bool false)], args := [d] }
  | _ => none }
def BoundsJoinsWrongFalsely : Prop := boundsJoinsRow.holds Tryz.pinned (OpenSpec.ofChange boundsJoinsWrong)

/-- 'partsynclaw06.BoundsMeet': WHATEVER THE INPUT: true; the input reads as it did. -/
def boundsMeetSpec : ChangeSpec := { name := "boundsMeet", fn := fun _ => fun
  | [d] => { results := [.lit (.bool true)], args := [d] }
  | _ => none }
def boundsMeetRow : OpenClaim := { program := "ytnnmlhmffnfjfaagreat", sum := "970de1de8e69811096719908e0d48bba4d12ef9abbae6ef644836500093f0fee", func := "partsync/partsynclaw06.BoundsMeet", spec := "boundsMeet", inPlace := ["internal/bytealg.abigen_runtime_cmpstring"], unfollowed := true, recurses := true, plainKeys := false, apart := false }
def BoundsMeetSaid : Prop := boundsMeetRow.holds Tryz.pinned (OpenSpec.ofChange boundsMeetSpec)

/-- ITS FALSE NEIGHBOUR: 'it returns false'. Refute it at one input. -/
def boundsMeetWrong : ChangeSpec := { name := "boundsMeet", fn := fun _ => fun
  | [d] => { results := [.lit (.bool false)], args := [d] }
  | _ => none }
def BoundsMeetWrongFalsely : Prop := boundsMeetRow.holds Tryz.pinned (OpenSpec.ofChange boundsMeetWrong)

/- THE SECOND FORM. 'bulk': how many values and letters a reading holds, each counted each time it is reached (what is shared counts as often as it is met; a slice's spare places count too). A statement '..UptoSaid' is the law's where the arguments, and the package variables that the reading takes, are together of bulk at most 1048576: NARROWER than '..Said'. Prove '..Said' where nothing that the law and all that it calls make is longer than what came in: it says more and counts as full. Else prove '..UptoSaid'. A law counts once. -/
mutual
def uptoBulk {H : Type} : DataW H → Nat
  | .lit (.string bytes) => bytes.length + 1
  | .lit _ => 1
  | .nil => 1
  | .ptr d => uptoBulk d + 1
  | .slice elems spare => uptoBulkAll elems + uptoBulkAll spare + 1
  | .agg parts => uptoBulkAll parts + 1
  | .iface _ d => uptoBulk d + 1
  | .map entries => uptoBulkEntries entries + 1
  | .held _ => 1
def uptoBulkAll {H : Type} : List (DataW H) → Nat
  | [] => 0
  | d :: r => uptoBulk d + uptoBulkAll r
def uptoBulkEntries {H : Type} : List (Lit × DataW H) → Nat
  | [] => 0
  | x :: r => uptoBulkEntry x + uptoBulkEntries r
def uptoBulkEntry {H : Type} : Lit × DataW H → Nat
  | (.string bytes, d) => bytes.length + uptoBulk d + 1
  | (_, d) => uptoBulk d + 1
 end
def uptoSmall : (H : Type) → List (DataW H) → Bool := fun _ ds => decide (uptoBulkAll ds ≤ 1048576)
def OpenSpec.upto (s : _root_.Go.ChangeSpec) : _root_.Go.OpenSpec := { _root_.Go.OpenSpec.ofChange s with cond := some uptoSmall }

/-- 'partsynclaw09.IntegrityFinds', WHERE WHAT IT READS IS OF BULK AT MOST 1048576: true; the input reads as it did. -/
def integrityFindsUptoRow : OpenClaim := { program := "ytnnmlhmffnfjfaagreat", sum := "970de1de8e69811096719908e0d48bba4d12ef9abbae6ef644836500093f0fee", func := "partsync/partsynclaw09.IntegrityFinds", spec := "integrityFinds", inPlace := ["internal/bytealg.abigen_runtime_cmpstring"], unfollowed := true, recurses := true, plainKeys := false, apart := false, narrowed := true }
def IntegrityFindsUptoSaid : Prop := integrityFindsUptoRow.holds Tryz.pinned (OpenSpec.upto integrityFindsSpec)

/-- 'partsynclaw09.IntegrityRechecks', WHERE WHAT IT READS IS OF BULK AT MOST 1048576: true; the input reads as it did. -/
def integrityRechecksUptoRow : OpenClaim := { program := "ytnnmlhmffnfjfaagreat", sum := "970de1de8e69811096719908e0d48bba4d12ef9abbae6ef644836500093f0fee", func := "partsync/partsynclaw09.IntegrityRechecks", spec := "integrityRechecks", inPlace := ["internal/bytealg.abigen_runtime_cmpstring"], unfollowed := true, recurses := true, plainKeys := false, apart := false, narrowed := true }
def IntegrityRechecksUptoSaid : Prop := integrityRechecksUptoRow.holds Tryz.pinned (OpenSpec.upto integrityRechecksSpec)

/-- 'partsynclaw09.IntegrityKeeps', WHERE WHAT IT READS IS OF BULK AT MOST 1048576: true; the input reads as it did. -/
def integrityKeepsUptoRow : OpenClaim := { program := "ytnnmlhmffnfjfaagreat", sum := "970de1de8e69811096719908e0d48bba4d12ef9abbae6ef644836500093f0fee", func := "partsync/partsynclaw09.IntegrityKeeps", spec := "integrityKeeps", inPlace := ["internal/bytealg.abigen_runtime_cmpstring"], unfollowed := true, recurses := true, plainKeys := false, apart := false, narrowed := true }
def IntegrityKeepsUptoSaid : Prop := integrityKeepsUptoRow.holds Tryz.pinned (OpenSpec.upto integrityKeepsSpec)

/-- 'partsynclaw09.IntegrityPart', WHERE WHAT IT READS IS OF BULK AT MOST 1048576: true; the input reads as it did. -/
def integrityPartUptoRow : OpenClaim := { program := "ytnnmlhmffnfjfaagreat", sum := "970de1de8e69811096719908e0d48bba4d12ef9abbae6ef644836500093f0fee", func := "partsync/partsynclaw09.IntegrityPart", spec := "integrityPart", inPlace := ["internal/bytealg.abigen_runtime_cmpstring"], unfollowed := true, recurses := true, plainKeys := false, apart := false, narrowed := true }
def IntegrityPartUptoSaid : Prop := integrityPartUptoRow.holds Tryz.pinned (OpenSpec.upto integrityPartSpec)

/-- 'partsynclaw09.IntegrityRepairs', WHERE WHAT IT READS IS OF BULK AT MOST 1048576: true; the input reads as it did. -/
def integrityRepairsUptoRow : OpenClaim := { program := "ytnnmlhmffnfjfaagreat", sum := "970de1de8e69811096719908e0d48bba4d12ef9abbae6ef644836500093f0fee", func := "partsync/partsynclaw09.IntegrityRepairs", spec := "integrityRepairs", inPlace := ["internal/bytealg.abigen_runtime_cmpstring"], unfollowed := true, recurses := true, plainKeys := false, apart := false, narrowed := true }
def IntegrityRepairsUptoSaid : Prop := integrityRepairsUptoRow.holds Tryz.pinned (OpenSpec.upto integrityRepairsSpec)

/-- 'partsynclaw06.BoundsExact', WHERE WHAT IT READS IS OF BULK AT MOST 1048576: true; the input reads as it did. -/
def boundsExactUptoRow : OpenClaim := { program := "ytnnmlhmffnfjfaagreat", sum := "970de1de8e69811096719908e0d48bba4d12ef9abbae6ef644836500093f0fee", func := "partsync/partsynclaw06.BoundsExact", spec := "boundsExact", inPlace := ["internal/bytealg.abigen_runtime_cmpstring"], unfollowed := true, recurses := true, loops := true, plainKeys := false, apart := false, narrowed := true }
def BoundsExactUptoSaid : Prop := boundsExactUptoRow.holds Tryz.pinned (OpenSpec.upto boundsExactSpec)

/-- 'partsynclaw06.BoundsEnclose', WHERE WHAT IT READS IS OF BULK AT MOST 1048576: true; the input reads as it did. -/
def boundsEncloseUptoRow : OpenClaim := { program := "ytnnmlhmffnfjfaagreat", sum := "970de1de8e69811096719908e0d48bba4d12ef9abbae6ef644836500093f0fee", func := "partsync/partsynclaw06.BoundsEnclose", spec := "boundsEnclose", inPlace := ["internal/bytealg.abigen_runtime_cmpstring"], unfollowed := true, recurses := true, plainKeys := false, apart := false, narrowed := true }
def BoundsEncloseUptoSaid : Prop := boundsEncloseUptoRow.holds Tryz.pinned (OpenSpec.upto boundsEncloseSpec)

/-- 'partsynclaw06.BoundsNegate', WHERE WHAT IT READS IS OF BULK AT MOST 1048576: true; the input reads as it did. -/
def boundsNegateUptoRow : OpenClaim := { program := "ytnnmlhmffnfjfaagreat", sum := "970de1de8e69811096719908e0d48bba4d12ef9abbae6ef644836500093f0fee", func := "partsync/partsynclaw06.BoundsNegate", spec := "boundsNegate", inPlace := ["internal/bytealg.abigen_runtime_cmpstring"], unfollowed := true, recurses := true, plainKeys := false, apart := false, narrowed := true }
def BoundsNegateUptoSaid : Prop := boundsNegateUptoRow.holds Tryz.pinned (OpenSpec.upto boundsNegateSpec)

/-- 'partsynclaw06.BoundsJoins', WHERE WHAT IT READS IS OF BULK AT MOST 1048576: true; the input reads as it did. -/
def boundsJoinsUptoRow : OpenClaim := { program := "ytnnmlhmffnfjfaagreat", sum := "970de1de8e69811096719908e0d48bba4d12ef9abbae6ef644836500093f0fee", func := "partsync/partsynclaw06.BoundsJoins", spec := "boundsJoins", inPlace := ["internal/bytealg.abigen_runtime_cmpstring"], unfollowed := true, recurses := true, plainKeys := false, apart := false, narrowed := true }
def BoundsJoinsUptoSaid : Prop := boundsJoinsUptoRow.holds Tryz.pinned (OpenSpec.upto boundsJoinsSpec)

/-- 'partsynclaw06.BoundsMeet', WHERE WHAT IT READS IS OF BULK AT MOST 1048576: true; the input reads as it did. -/
def boundsMeetUptoRow : OpenClaim := { program := "ytnnmlhmffnfjfaagreat", sum := "970de1de8e69811096719908e0d48bba4d12ef9abbae6ef644836500093f0fee", func := "partsync/partsynclaw06.BoundsMeet", spec := "boundsMeet", inPlace := ["internal/bytealg.abigen_runtime_cmpstring"], unfollowed := true, recurses := true, plainKeys := false, apart := false, narrowed := true }
def BoundsMeetUptoSaid : Prop := boundsMeetUptoRow.holds Tryz.pinned (OpenSpec.upto boundsMeetSpec)

end Rows
end Go.Proofs.YtnnmlhmffnfjfaaGreat
