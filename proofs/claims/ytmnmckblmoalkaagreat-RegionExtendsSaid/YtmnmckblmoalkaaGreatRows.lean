/-
  NARROWER THAN 'FOR EVERY INPUT', by the rows' own cells (each row's printed sentence says how): RegionProjects: loops · BoundsExact: loops.
  DERIVED. THE GIVEN ROWS OF THIS SEAT. 10 by the template 'for every input the law returns true; each argument reads behind the call as it read before'; 0 by the template 'total and deterministic' (their statements: YtmnmckblmoalkaaGreatTotals.lean).
  GIVEN WITH THE SEED: the statements are not yours to turn. If you find one false, say at which input.
  Laid BY PROGRAM, IN A SANDBOX (cutbox-rows.mjs): the forced cells as the released guide's own fill.sh prints them over the translation 006a180d541df547… (all of the seat's roots in one cut). By AI agents, Wed Nov 11 2026. No macro, syntax, notation, axiom, sorry.
-/
import Derived.Test.YtmnmckblmoalkaaGreatChecked
import GoSem.Claim
import GoSem.ClaimJoined
import GoSem.ClaimMapViews
import Derived.JoinedTies
import Derived.KernelRfl
namespace Go.Proofs.YtmnmckblmoalkaaGreat
/- THE CELL 'sum', in the pinned program and in every row, IS THE sha256 OF THE DUMP (.gsa) THAT YtmnmckblmoalkaaGreatProg.lean LOADS. Nothing in Lean hashes anything: it is a label: what it is worth is what the hold of that sum in a sandbox is worth. -/
noncomputable def Tryz.pinned : Pinned := { name := "ytmnmckblmoalkaagreat", sum := "006a180d541df5470f017ef1ab54faf734da2262ff74d6f113bbbe33c657d784", checked := Tryz.checked }
namespace Rows
def none {H : Type} : Left H := { results := [], args := [] }

/-- 'partsynclaw04.RegionComposes': WHATEVER THE INPUT: true; the input reads as it did. -/
def regionComposesSpec : ChangeSpec := { name := "regionComposes", fn := fun _ => fun
  | [d] => { results := [.lit (.bool true)], args := [d] }
  | _ => none }
def regionComposesRow : OpenClaim := { program := "ytmnmckblmoalkaagreat", sum := "006a180d541df5470f017ef1ab54faf734da2262ff74d6f113bbbe33c657d784", func := "partsync/partsynclaw04.RegionComposes", spec := "regionComposes", inPlace := ["internal/bytealg.abigen_runtime_cmpstring"], unfollowed := true, recurses := true, plainKeys := false, apart := false }
def RegionComposesSaid : Prop := regionComposesRow.holds Tryz.pinned (OpenSpec.ofChange regionComposesSpec)

/-- ITS FALSE NEIGHBOUR: 'it returns false'. Refute it at one input. -/
def regionComposesWrong : ChangeSpec := { name := "regionComposes", fn := fun _ => fun
  | [d] => { results := [.lit (.bool false)], args := [d] }
  | _ => none }
def RegionComposesWrongFalsely : Prop := regionComposesRow.holds Tryz.pinned (OpenSpec.ofChange regionComposesWrong)

/-- 'partsynclaw04.RegionIdentity': WHATEVER THE INPUT: true; the input reads as it did. -/
def regionIdentitySpec : ChangeSpec := { name := "regionIdentity", fn := fun _ => fun
  | [d] => { results := [.lit (.bool true)], args := [d] }
  | _ => none }
def regionIdentityRow : OpenClaim := { program := "ytmnmckblmoalkaagreat", sum := "006a180d541df5470f017ef1ab54faf734da2262ff74d6f113bbbe33c657d784", func := "partsync/partsynclaw04.RegionIdentity", spec := "regionIdentity", inPlace := ["internal/bytealg.abigen_runtime_cmpstring"], unfollowed := true, recurses := true, plainKeys := false, apart := false }
def RegionIdentitySaid : Prop := regionIdentityRow.holds Tryz.pinned (OpenSpec.ofChange regionIdentitySpec)

/-- ITS FALSE NEIGHBOUR: 'it returns false'. Refute it at one input. -/
def regionIdentityWrong : ChangeSpec := { name := "regionIdentity", fn := fun _ => fun
  | [d] => { results := [.lit (.bool false)], args := [d] }
  | _ => none }
def RegionIdentityWrongFalsely : Prop := regionIdentityRow.holds Tryz.pinned (OpenSpec.ofChange regionIdentityWrong)

/-- 'partsynclaw04.RegionProjects': WHATEVER THE INPUT: true; the input reads as it did. -/
def regionProjectsSpec : ChangeSpec := { name := "regionProjects", fn := fun _ => fun
  | [d1, d2, d3, d4] => { results := [.lit (.bool true)], args := [d1, d2, d3, d4] }
  | _ => none }
def regionProjectsRow : OpenClaim := { program := "ytmnmckblmoalkaagreat", sum := "006a180d541df5470f017ef1ab54faf734da2262ff74d6f113bbbe33c657d784", func := "partsync/partsynclaw04.RegionProjects", spec := "regionProjects", inPlace := ["internal/bytealg.abigen_runtime_cmpstring"], unfollowed := true, recurses := true, loops := true, plainKeys := false, apart := false }
def RegionProjectsSaid : Prop := regionProjectsRow.holds Tryz.pinned (OpenSpec.ofChange regionProjectsSpec)

/-- ITS FALSE NEIGHBOUR: 'it returns false'. Refute it at one input. -/
def regionProjectsWrong : ChangeSpec := { name := "regionProjects", fn := fun _ => fun
  | [d1, d2, d3, d4] => { results := [.lit (.bool false)], args := [d1, d2, d3, d4] }
  | _ => none }
def RegionProjectsWrongFalsely : Prop := regionProjectsRow.holds Tryz.pinned (OpenSpec.ofChange regionProjectsWrong)

/-- 'partsynclaw04.RegionGalois': WHATEVER THE INPUT: true; the input reads as it did. -/
def regionGaloisSpec : ChangeSpec := { name := "regionGalois", fn := fun _ => fun
  | [d] => { results := [.lit (.bool true)], args := [d] }
  | _ => none }
def regionGaloisRow : OpenClaim := { program := "ytmnmckblmoalkaagreat", sum := "006a180d541df5470f017ef1ab54faf734da2262ff74d6f113bbbe33c657d784", func := "partsync/partsynclaw04.RegionGalois", spec := "regionGalois", inPlace := ["internal/bytealg.abigen_runtime_cmpstring"], unfollowed := true, recurses := true, plainKeys := false, apart := false }
def RegionGaloisSaid : Prop := regionGaloisRow.holds Tryz.pinned (OpenSpec.ofChange regionGaloisSpec)

/-- ITS FALSE NEIGHBOUR: 'it returns false'. Refute it at one input. -/
def regionGaloisWrong : ChangeSpec := { name := "regionGalois", fn := fun _ => fun
  | [d] => { results := [.lit (.bool false)], args := [d] }
  | _ => none }
def RegionGaloisWrongFalsely : Prop := regionGaloisRow.holds Tryz.pinned (OpenSpec.ofChange regionGaloisWrong)

/-- 'partsynclaw04.RegionExtends': WHATEVER THE INPUT: true; the input reads as it did. -/
def regionExtendsSpec : ChangeSpec := { name := "regionExtends", fn := fun _ => fun
  | [d] => { results := [.lit (.bool true)], args := [d] }
  | _ => none }
def regionExtendsRow : OpenClaim := { program := "ytmnmckblmoalkaagreat", sum := "006a180d541df5470f017ef1ab54faf734da2262ff74d6f113bbbe33c657d784", func := "partsync/partsynclaw04.RegionExtends", spec := "regionExtends", inPlace := ["internal/bytealg.abigen_runtime_cmpstring"], unfollowed := true, recurses := true, plainKeys := false, apart := false }
def RegionExtendsSaid : Prop := regionExtendsRow.holds Tryz.pinned (OpenSpec.ofChange regionExtendsSpec)

/-- ITS FALSE NEIGHBOUR: 'it returns false'. Refute it at one input. -/
def regionExtendsWrong : ChangeSpec := { name := "regionExtends", fn := fun _ => fun
  | [d] => { results := [.lit (.bool false)], args := [d] }
  | _ => none }
def RegionExtendsWrongFalsely : Prop := regionExtendsRow.holds Tryz.pinned (OpenSpec.ofChange regionExtendsWrong)

/-- 'partsynclaw06.BoundsExact': WHATEVER THE INPUT: true; the input reads as it did. -/
def boundsExactSpec : ChangeSpec := { name := "boundsExact", fn := fun _ => fun
  | [d1, d2, d3] => { results := [.lit (.bool true)], args := [d1, d2, d3] }
  | _ => none }
def boundsExactRow : OpenClaim := { program := "ytmnmckblmoalkaagreat", sum := "006a180d541df5470f017ef1ab54faf734da2262ff74d6f113bbbe33c657d784", func := "partsync/partsynclaw06.BoundsExact", spec := "boundsExact", inPlace := ["internal/bytealg.abigen_runtime_cmpstring"], unfollowed := true, recurses := true, loops := true, plainKeys := false, apart := false }
def BoundsExactSaid : Prop := boundsExactRow.holds Tryz.pinned (OpenSpec.ofChange boundsExactSpec)

/-- ITS FALSE NEIGHBOUR: 'it returns false'. Refute it at one input. -/
def boundsExactWrong : ChangeSpec := { name := "boundsExact", fn := fun _ => fun
  | [d1, d2, d3] => { results := [.lit (.bool false)], args := [d1, d2, d3] }
  | _ => none }
def BoundsExactWrongFalsely : Prop := boundsExactRow.holds Tryz.pinned (OpenSpec.ofChange boundsExactWrong)

/-- 'partsynclaw06.BoundsEnclose': WHATEVER THE INPUT: true; the input reads as it did. -/
def boundsEncloseSpec : ChangeSpec := { name := "boundsEnclose", fn := fun _ => fun
  | [d] => { results := [.lit (.bool true)], args := [d] }
  | _ => none }
def boundsEncloseRow : OpenClaim := { program := "ytmnmckblmoalkaagreat", sum := "006a180d541df5470f017ef1ab54faf734da2262ff74d6f113bbbe33c657d784", func := "partsync/partsynclaw06.BoundsEnclose", spec := "boundsEnclose", inPlace := ["internal/bytealg.abigen_runtime_cmpstring"], unfollowed := true, recurses := true, plainKeys := false, apart := false }
def BoundsEncloseSaid : Prop := boundsEncloseRow.holds Tryz.pinned (OpenSpec.ofChange boundsEncloseSpec)

/-- ITS FALSE NEIGHBOUR: 'it returns false'. Refute it at one input. -/
def boundsEncloseWrong : ChangeSpec := { name := "boundsEnclose", fn := fun _ => fun
  | [d] => { results := [.lit (.bool false)], args := [d] }
  | _ => none }
def BoundsEncloseWrongFalsely : Prop := boundsEncloseRow.holds Tryz.pinned (OpenSpec.ofChange boundsEncloseWrong)

/-- 'partsynclaw06.BoundsNegate': WHATEVER THE INPUT: true; the input reads as it did. -/
def boundsNegateSpec : ChangeSpec := { name := "boundsNegate", fn := fun _ => fun
  | [d] => { results := [.lit (.bool true)], args := [d] }
  | _ => none }
def boundsNegateRow : OpenClaim := { program := "ytmnmckblmoalkaagreat", sum := "006a180d541df5470f017ef1ab54faf734da2262ff74d6f113bbbe33c657d784", func := "partsync/partsynclaw06.BoundsNegate", spec := "boundsNegate", inPlace := ["internal/bytealg.abigen_runtime_cmpstring"], unfollowed := true, recurses := true, plainKeys := false, apart := false }
def BoundsNegateSaid : Prop := boundsNegateRow.holds Tryz.pinned (OpenSpec.ofChange boundsNegateSpec)

/-- ITS FALSE NEIGHBOUR: 'it returns false'. Refute it at one input. -/
def boundsNegateWrong : ChangeSpec := { name := "boundsNegate", fn := fun _ => fun
  | [d] => { results := [.lit (.bool false)], args := [d] }
  | _ => none }
def BoundsNegateWrongFalsely : Prop := boundsNegateRow.holds Tryz.pinned (OpenSpec.ofChange boundsNegateWrong)

/-- 'partsynclaw06.BoundsJoins': WHATEVER THE INPUT: true; the input reads as it did. -/
def boundsJoinsSpec : ChangeSpec := { name := "boundsJoins", fn := fun _ => fun
  | [d] => { results := [.lit (.bool true)], args := [d] }
  | _ => none }
def boundsJoinsRow : OpenClaim := { program := "ytmnmckblmoalkaagreat", sum := "006a180d541df5470f017ef1ab54faf734da2262ff74d6f113bbbe33c657d784", func := "partsync/partsynclaw06.BoundsJoins", spec := "boundsJoins", inPlace := ["internal/bytealg.abigen_runtime_cmpstring"], unfollowed := true, recurses := true, plainKeys := false, apart := false }
def BoundsJoinsSaid : Prop := boundsJoinsRow.holds Tryz.pinned (OpenSpec.ofChange boundsJoinsSpec)

/-- ITS FALSE NEIGHBOUR: 'it returns false'. Refute it at one input. -/
def boundsJoinsWrong : ChangeSpec := { name := "boundsJoins", fn := fun _ => fun
  | [d] => { results := [.lit (.bool false)], args := [d] }
  | _ => none }
def BoundsJoinsWrongFalsely : Prop := boundsJoinsRow.holds Tryz.pinned (OpenSpec.ofChange boundsJoinsWrong)

/-- 'partsynclaw06.BoundsMeet': WHATEVER THE INPUT: true; the input reads as it did. -/
def boundsMeetSpec : ChangeSpec := { name := "boundsMeet", fn := fun _ => fun
  | [d] => { results := [.lit (.bool true)], args := [d] }
  | _ => none }
def boundsMeetRow : OpenClaim := { program := "ytmnmckblmoalkaagreat", sum := "006a180d541df5470f017ef1ab54faf734da2262ff74d6f113bbbe33c657d784", func := "partsync/partsynclaw06.BoundsMeet", spec := "boundsMeet", inPlace := ["internal/bytealg.abigen_runtime_cmpstring"], unfollowed := true, recurses := true, plainKeys := false, apart := false }
def BoundsMeetSaid : Prop := boundsMeetRow.holds Tryz.pinned (OpenSpec.ofChange boundsMeetSpec)

/-- ITS FALSE NEIGHBOUR: 'it returns false'. Refute it at one input. -/
def boundsMeetWrong : ChangeSpec := { name := "boundsMeet", fn := fun _ => fun
  | [d] => { results := [.lit (.bool false)], args := [d] }
  | _ => none }
def BoundsMeetWrongFalsely : Prop := boundsMeetRow.holds Tryz.pinned (OpenSpec.ofChange boundsMeetWrong)

/- THE SECOND FORM. 'bulk': how many values and letters a reading holds, each counted each time it is reached (what is shared counts as often as it is met; a slice's spare places count too). A statement '..UptoSaid' is the law's where the arguments, and the package variables that the reading takes, are together of bulk at most 1048576: NARROWER than '..Said'. Prove '..Said' where nothing that the law and all that it calls make is longer than what came in: it says more and counts as full. Else prove '..UptoSaid'. A law counts once. -/
mutual
def uptoBulk {H : Type} : DataW H → Nat
  | .lit (.string bytes) => bytes.length + 1
  | .lit _ => 1
  | .nil => 1
  | .ptr d => uptoBulk d + 1
  | .slice elems spare => uptoBulkAll elems + uptoBulkAll spare + 1
  | .agg parts => uptoBulkAll parts + 1
  | .iface _ d => uptoBulk d + 1
  | .map entries => uptoBulkEntries entries + 1
  | .held _ => 1
def uptoBulkAll {H : Type} : List (DataW H) → Nat
  | [] => 0
  | d :: r => uptoBulk d + uptoBulkAll r
def uptoBulkEntries {H : Type} : List (Lit × DataW H) → Nat
  | [] => 0
  | x :: r => uptoBulkEntry x + uptoBulkEntries r
def uptoBulkEntry {H : Type} : Lit × DataW H → Nat
  | (.string bytes, d) => bytes.length + uptoBulk d + 1
  | (_, d) => uptoBulk d + 1
 end
def uptoSmall : (H : Type) → List (DataW H) → Bool := fun _ ds => decide (uptoBulkAll ds ≤ 1048576)
def OpenSpec.upto (s : _root_.Go.ChangeSpec) : _root_.Go.OpenSpec := { _root_.Go.OpenSpec.ofChange s with cond := some uptoSmall }

/-- 'partsynclaw04.RegionComposes', WHERE WHAT IT READS IS OF BULK AT MOST 1048576: true; the input reads as it did. -/
def regionComposesUptoRow : OpenClaim := { program := "ytmnmckblmoalkaagreat", sum := "006a180d541df5470f017ef1ab54faf734da2262ff74d6f113bbbe33c657d784", func := "partsync/partsynclaw04.RegionComposes", spec := "regionComposes", inPlace := ["internal/bytealg.abigen_runtime_cmpstring"], unfollowed := true, recurses := true, plainKeys := false, apart := false, narrowed := true }
def RegionComposesUptoSaid : Prop := regionComposesUptoRow.holds Tryz.pinned (OpenSpec.upto regionComposesSpec)

/-- 'partsynclaw04.RegionIdentity', WHERE WHAT IT READS IS OF BULK AT MOST 1048576: true; the input reads as it did. -/
def regionIdentityUptoRow : OpenClaim := { program := "ytmnmckblmoalkaagreat", sum := "006a180d541df5470f017ef1ab54faf734da2262ff74d6f113bbbe33c657d784", func := "partsync/partsynclaw04.RegionIdentity", spec := "regionIdentity", inPlace := ["internal/bytealg.abigen_runtime_cmpstring"], unfollowed := true, recurses := true, plainKeys := false, apart := false, narrowed := true }
def RegionIdentityUptoSaid : Prop := regionIdentityUptoRow.holds Tryz.pinned (OpenSpec.upto regionIdentitySpec)

/-- 'partsynclaw04.RegionProjects', WHERE WHAT IT READS IS OF BULK AT MOST 1048576: true; the input reads as it did. -/
def regionProjectsUptoRow : OpenClaim := { program := "ytmnmckblmoalkaagreat", sum := "006a180d541df5470f017ef1ab54faf734da2262ff74d6f113bbbe33c657d784", func := "partsync/partsynclaw04.RegionProjects", spec := "regionProjects", inPlace := ["internal/bytealg.abigen_runtime_cmpstring"], unfollowed := true, recurses := true, loops := true, plainKeys := false, apart := false, narrowed := true }
def RegionProjectsUptoSaid : Prop := regionProjectsUptoRow.holds Tryz.pinned (OpenSpec.upto regionProjectsSpec)

/-- 'partsynclaw04.RegionGalois', WHERE WHAT IT READS IS OF BULK AT MOST 1048576: true; the input reads as it did. -/
def regionGaloisUptoRow : OpenClaim := { program := "ytmnmckblmoalkaagreat", sum := "006a180d541df5470f017ef1ab54faf734da2262ff74d6f113bbbe33c657d784", func := "partsync/partsynclaw04.RegionGalois", spec := "regionGalois", inPlace := ["internal/bytealg.abigen_runtime_cmpstring"], unfollowed := true, recurses := true, plainKeys := false, apart := false, narrowed := true }
def RegionGaloisUptoSaid : Prop := regionGaloisUptoRow.holds Tryz.pinned (OpenSpec.upto regionGaloisSpec)

/-- 'partsynclaw04.RegionExtends', WHERE WHAT IT READS IS OF BULK AT MOST 1048576: true; the input reads as it did. -/
def regionExtendsUptoRow : OpenClaim := { program := "ytmnmckblmoalkaagreat", sum := "006a180d541df5470f017ef1ab54faf734da2262ff74d6f113bbbe33c657d784", func := "partsync/partsynclaw04.RegionExtends", spec := "regionExtends", inPlace := ["internal/bytealg.abigen_runtime_cmpstring"], unfollowed := true, recurses := true, plainKeys := false, apart := false, narrowed := true }
def RegionExtendsUptoSaid : Prop := regionExtendsUptoRow.holds Tryz.pinned (OpenSpec.upto regionExtendsSpec)

/-- 'partsynclaw06.BoundsExact', WHERE WHAT IT READS IS OF BULK AT MOST 1048576: true; the input reads as it did. -/
def boundsExactUptoRow : OpenClaim := { program := "ytmnmckblmoalkaagreat", sum := "006a180d541df5470f017ef1ab54faf734da2262ff74d6f113bbbe33c657d784", func := "partsync/partsynclaw06.BoundsExact", spec := "boundsExact", inPlace := ["internal/bytealg.abigen_runtime_cmpstring"], unfollowed := true, recurses := true, loops := true, plainKeys := false, apart := false, narrowed := true }
def BoundsExactUptoSaid : Prop := boundsExactUptoRow.holds Tryz.pinned (OpenSpec.upto boundsExactSpec)

/-- 'partsynclaw06.BoundsEnclose', WHERE WHAT IT READS IS OF BULK AT MOST 1048576: true; the input reads as it did. -/
def boundsEncloseUptoRow : OpenClaim := { program := "ytmnmckblmoalkaagreat", sum := "006a180d541df5470f017ef1ab54faf734da2262ff74d6f113bbbe33c657d784", func := "partsync/partsynclaw06.BoundsEnclose", spec := "boundsEnclose", inPlace := ["internal/bytealg.abigen_runtime_cmpstring"], unfollowed := true, recurses := true, plainKeys := false, apart := false, narrowed := true }
def BoundsEncloseUptoSaid : Prop := boundsEncloseUptoRow.holds Tryz.pinned (OpenSpec.upto boundsEncloseSpec)

/-- 'partsynclaw06.BoundsNegate', WHERE WHAT IT READS IS OF BULK AT MOST 1048576: true; the input reads as it did. -/
def boundsNegateUptoRow : OpenClaim := { program := "ytmnmckblmoalkaagreat", sum := "006a180d541df5470f017ef1ab54faf734da2262ff74d6f113bbbe33c657d784", func := "partsync/partsynclaw06.BoundsNegate", spec := "boundsNegate", inPlace := ["internal/bytealg.abigen_runtime_cmpstring"], unfollowed := true, recurses := true, plainKeys := false, apart := false, narrowed := true }
def BoundsNegateUptoSaid : Prop := boundsNegateUptoRow.holds Tryz.pinned (OpenSpec.upto boundsNegateSpec)

/-- 'partsynclaw06.BoundsJoins', WHERE WHAT IT READS IS OF BULK AT MOST 1048576: true; the input reads as it did. -/
def boundsJoinsUptoRow : OpenClaim := { program := "ytmnmckblmoalkaagreat", sum := "006a180d541df5470f017ef1ab54faf734da2262ff74d6f113bbbe33c657d784", func := "partsync/partsynclaw06.BoundsJoins", spec := "boundsJoins", inPlace := ["internal/bytealg.abigen_runtime_cmpstring"], unfollowed := true, recurses := true, plainKeys := false, apart := false, narrowed := true }
def BoundsJoinsUptoSaid : Prop := boundsJoinsUptoRow.holds Tryz.pinned (OpenSpec.upto boundsJoinsSpec)

/-- 'partsynclaw06.BoundsMeet', WHERE WHAT IT READS IS OF BULK AT MOST 1048576: true; the input reads as it did. -/
def boundsMeetUptoRow : OpenClaim := { program := "ytmnmckblmoalkaagreat", sum := "006a180d541df5470f017ef1ab54faf734da2262ff74d6f113bbbe33c657d784", func := "partsync/partsynclaw06.BoundsMeet", spec := "boundsMeet", inPlace := ["internal/bytealg.abigen_runtime_cmpstring"], unfollowed := true, recurses := true, plainKeys := false, apart := false, narrowed := true }
def BoundsMeetUptoSaid : Prop := boundsMeetUptoRow.holds Tryz.pinned (OpenSpec.upto boundsMeetSpec)

end Rows
end Go.Proofs.YtmnmckblmoalkaaGreat
