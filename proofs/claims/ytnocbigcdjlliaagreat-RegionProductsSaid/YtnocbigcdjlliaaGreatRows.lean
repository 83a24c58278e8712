/-
  NARROWER THAN 'FOR EVERY INPUT', by the rows' own cells (each row's printed sentence says how): RegionCombines: loops · RegionForms: loops · RegionProducts: loops · RegionProjects: loops.
  DERIVED. THE GIVEN ROWS OF THIS SEAT. 13 by the template 'for every input the law returns true; each argument reads behind the call as it read before'; 0 by the template 'total and deterministic' (their statements: YtnocbigcdjlliaaGreatTotals.lean).
  GIVEN WITH THE SEED: the statements are not yours to turn. If you find one false, say at which input.
  Laid BY PROGRAM, IN A SANDBOX (cutbox-rows.mjs): the forced cells as the released guide's own fill.sh prints them over the translation c4dceef64483e30e… (all of the seat's roots in one cut). By AI agents, Wed Nov 11 2026. No macro, syntax, notation, axiom, sorry.
-/
import Derived.Test.YtnocbigcdjlliaaGreatChecked
import GoSem.Claim
import GoSem.ClaimJoined
import GoSem.ClaimMapViews
import Derived.JoinedTies
import Derived.KernelRfl
namespace Go.Proofs.YtnocbigcdjlliaaGreat
/- THE CELL 'sum', in the pinned program and in every row, IS THE sha256 OF THE DUMP (.gsa) THAT YtnocbigcdjlliaaGreatProg.lean LOADS. Nothing in Lean hashes anything: it is a label: what it is worth is what the hold of that sum in a sandbox is worth. -/
noncomputable def Tryz.pinned : Pinned := { name := "ytnocbigcdjlliaagreat", sum := "c4dceef64483e30e21fb758d6e81a58dc22f3138b01ecfd0122ef5590fda5010", checked := Tryz.checked }
namespace Rows
def none {H : Type} : Left H := { results := [], args := [] }

/-- 'partsynclaw04.RegionOnce': WHATEVER THE INPUT: true; the input reads as it did. -/
def regionOnceSpec : ChangeSpec := { name := "regionOnce", fn := fun _ => fun
  | [d] => { results := [.lit (.bool true)], args := [d] }
  | _ => none }
def regionOnceRow : OpenClaim := { program := "ytnocbigcdjlliaagreat", sum := "c4dceef64483e30e21fb758d6e81a58dc22f3138b01ecfd0122ef5590fda5010", func := "partsync/partsynclaw04.RegionOnce", spec := "regionOnce", inPlace := ["internal/bytealg.abigen_runtime_cmpstring"], unfollowed := true, recurses := true, plainKeys := false, apart := false }
def RegionOnceSaid : Prop := regionOnceRow.holds Tryz.pinned (OpenSpec.ofChange regionOnceSpec)

/-- ITS FALSE NEIGHBOUR: 'it returns false'. Refute it at one input. -/
def regionOnceWrong : ChangeSpec := { name := "regionOnce", fn := fun _ => fun
  | [d] => { results := [.lit (.bool false)], args := [d] }
  | _ => none }
def RegionOnceWrongFalsely : Prop := regionOnceRow.holds Tryz.pinned (OpenSpec.ofChange regionOnceWrong)

/-- 'partsynclaw04.RegionAlgebra': WHATEVER THE INPUT: true; the input reads as it did. -/
def regionAlgebraSpec : ChangeSpec := { name := "regionAlgebra", fn := fun _ => fun
  | [d] => { results := [.lit (.bool true)], args := [d] }
  | _ => none }
def regionAlgebraRow : OpenClaim := { program := "ytnocbigcdjlliaagreat", sum := "c4dceef64483e30e21fb758d6e81a58dc22f3138b01ecfd0122ef5590fda5010", func := "partsync/partsynclaw04.RegionAlgebra", spec := "regionAlgebra", inPlace := ["internal/bytealg.abigen_runtime_cmpstring"], unfollowed := true, recurses := true, plainKeys := false, apart := false }
def RegionAlgebraSaid : Prop := regionAlgebraRow.holds Tryz.pinned (OpenSpec.ofChange regionAlgebraSpec)

/-- ITS FALSE NEIGHBOUR: 'it returns false'. Refute it at one input. -/
def regionAlgebraWrong : ChangeSpec := { name := "regionAlgebra", fn := fun _ => fun
  | [d] => { results := [.lit (.bool false)], args := [d] }
  | _ => none }
def RegionAlgebraWrongFalsely : Prop := regionAlgebraRow.holds Tryz.pinned (OpenSpec.ofChange regionAlgebraWrong)

/-- 'partsynclaw04.RegionMorgan': WHATEVER THE INPUT: true; the input reads as it did. -/
def regionMorganSpec : ChangeSpec := { name := "regionMorgan", fn := fun _ => fun
  | [d] => { results := [.lit (.bool true)], args := [d] }
  | _ => none }
def regionMorganRow : OpenClaim := { program := "ytnocbigcdjlliaagreat", sum := "c4dceef64483e30e21fb758d6e81a58dc22f3138b01ecfd0122ef5590fda5010", func := "partsync/partsynclaw04.RegionMorgan", spec := "regionMorgan", inPlace := ["internal/bytealg.abigen_runtime_cmpstring"], unfollowed := true, recurses := true, plainKeys := false, apart := false }
def RegionMorganSaid : Prop := regionMorganRow.holds Tryz.pinned (OpenSpec.ofChange regionMorganSpec)

/-- ITS FALSE NEIGHBOUR: 'it returns false'. Refute it at one input. -/
def regionMorganWrong : ChangeSpec := { name := "regionMorgan", fn := fun _ => fun
  | [d] => { results := [.lit (.bool false)], args := [d] }
  | _ => none }
def RegionMorganWrongFalsely : Prop := regionMorganRow.holds Tryz.pinned (OpenSpec.ofChange regionMorganWrong)

/-- 'partsynclaw04.RegionCombines': WHATEVER THE INPUT: true; the input reads as it did. -/
def regionCombinesSpec : ChangeSpec := { name := "regionCombines", fn := fun _ => fun
  | [d1, d2] => { results := [.lit (.bool true)], args := [d1, d2] }
  | _ => none }
def regionCombinesRow : OpenClaim := { program := "ytnocbigcdjlliaagreat", sum := "c4dceef64483e30e21fb758d6e81a58dc22f3138b01ecfd0122ef5590fda5010", func := "partsync/partsynclaw04.RegionCombines", spec := "regionCombines", inPlace := ["internal/bytealg.abigen_runtime_cmpstring"], unfollowed := true, recurses := true, loops := true, plainKeys := false, apart := false }
def RegionCombinesSaid : Prop := regionCombinesRow.holds Tryz.pinned (OpenSpec.ofChange regionCombinesSpec)

/-- ITS FALSE NEIGHBOUR: 'it returns false'. Refute it at one input. -/
def regionCombinesWrong : ChangeSpec := { name := "regionCombines", fn := fun _ => fun
  | [d1, d2] => { results := [.lit (.bool false)], args := [d1, d2] }
  | _ => none }
def RegionCombinesWrongFalsely : Prop := regionCombinesRow.holds Tryz.pinned (OpenSpec.ofChange regionCombinesWrong)

/-- 'partsynclaw04.RegionForms': WHATEVER THE INPUT: true; the input reads as it did. -/
def regionFormsSpec : ChangeSpec := { name := "regionForms", fn := fun _ => fun
  | [d1, d2, d3] => { results := [.lit (.bool true)], args := [d1, d2, d3] }
  | _ => none }
def regionFormsRow : OpenClaim := { program := "ytnocbigcdjlliaagreat", sum := "c4dceef64483e30e21fb758d6e81a58dc22f3138b01ecfd0122ef5590fda5010", func := "partsync/partsynclaw04.RegionForms", spec := "regionForms", inPlace := ["internal/bytealg.abigen_runtime_cmpstring"], unfollowed := true, recurses := true, loops := true, plainKeys := false, apart := false }
def RegionFormsSaid : Prop := regionFormsRow.holds Tryz.pinned (OpenSpec.ofChange regionFormsSpec)

/-- ITS FALSE NEIGHBOUR: 'it returns false'. Refute it at one input. -/
def regionFormsWrong : ChangeSpec := { name := "regionForms", fn := fun _ => fun
  | [d1, d2, d3] => { results := [.lit (.bool false)], args := [d1, d2, d3] }
  | _ => none }
def RegionFormsWrongFalsely : Prop := regionFormsRow.holds Tryz.pinned (OpenSpec.ofChange regionFormsWrong)

/-- 'partsynclaw04.RegionComposes': WHATEVER THE INPUT: true; the input reads as it did. -/
def regionComposesSpec : ChangeSpec := { name := "regionComposes", fn := fun _ => fun
  | [d] => { results := [.lit (.bool true)], args := [d] }
  | _ => none }
def regionComposesRow : OpenClaim := { program := "ytnocbigcdjlliaagreat", sum := "c4dceef64483e30e21fb758d6e81a58dc22f3138b01ecfd0122ef5590fda5010", func := "partsync/partsynclaw04.RegionComposes", spec := "regionComposes", inPlace := ["internal/bytealg.abigen_runtime_cmpstring"], unfollowed := true, recurses := true, plainKeys := false, apart := false }
def RegionComposesSaid : Prop := regionComposesRow.holds Tryz.pinned (OpenSpec.ofChange regionComposesSpec)

/-- ITS FALSE NEIGHBOUR: 'it returns false'. Refute it at one input. -/
def regionComposesWrong : ChangeSpec := { name := "regionComposes", fn := fun _ => fun
  | [d] => { results := [.lit (.bool false)], args := [d] }
  | _ => none }
def RegionComposesWrongFalsely : Prop := regionComposesRow.holds Tryz.pinned (OpenSpec.ofChange regionComposesWrong)

/-- 'partsynclaw04.RegionProducts': WHATEVER THE INPUT: true; the input reads as it did. -/
def regionProductsSpec : ChangeSpec := { name := "regionProducts", fn := fun _ => fun
  | [d1, d2] => { results := [.lit (.bool true)], args := [d1, d2] }
  | _ => none }
def regionProductsRow : OpenClaim := { program := "ytnocbigcdjlliaagreat", sum := "c4dceef64483e30e21fb758d6e81a58dc22f3138b01ecfd0122ef5590fda5010", func := "partsync/partsynclaw04.RegionProducts", spec := "regionProducts", inPlace := ["internal/bytealg.abigen_runtime_cmpstring"], unfollowed := true, recurses := true, loops := true, plainKeys := false, apart := false }
def RegionProductsSaid : Prop := regionProductsRow.holds Tryz.pinned (OpenSpec.ofChange regionProductsSpec)

/-- ITS FALSE NEIGHBOUR: 'it returns false'. Refute it at one input. -/
def regionProductsWrong : ChangeSpec := { name := "regionProducts", fn := fun _ => fun
  | [d1, d2] => { results := [.lit (.bool false)], args := [d1, d2] }
  | _ => none }
def RegionProductsWrongFalsely : Prop := regionProductsRow.holds Tryz.pinned (OpenSpec.ofChange regionProductsWrong)

/-- 'partsynclaw04.RegionPoints': WHATEVER THE INPUT: true; the input reads as it did. -/
def regionPointsSpec : ChangeSpec := { name := "regionPoints", fn := fun _ => fun
  | [d] => { results := [.lit (.bool true)], args := [d] }
  | _ => none }
def regionPointsRow : OpenClaim := { program := "ytnocbigcdjlliaagreat", sum := "c4dceef64483e30e21fb758d6e81a58dc22f3138b01ecfd0122ef5590fda5010", func := "partsync/partsynclaw04.RegionPoints", spec := "regionPoints", inPlace := ["internal/bytealg.abigen_runtime_cmpstring"], unfollowed := true, recurses := true, plainKeys := false, apart := false }
def RegionPointsSaid : Prop := regionPointsRow.holds Tryz.pinned (OpenSpec.ofChange regionPointsSpec)

/-- ITS FALSE NEIGHBOUR: 'it returns false'. Refute it at one input. -/
def regionPointsWrong : ChangeSpec := { name := "regionPoints", fn := fun _ => fun
  | [d] => { results := [.lit (.bool false)], args := [d] }
  | _ => none }
def RegionPointsWrongFalsely : Prop := regionPointsRow.holds Tryz.pinned (OpenSpec.ofChange regionPointsWrong)

/-- 'partsynclaw04.RegionIdentity': WHATEVER THE INPUT: true; the input reads as it did. -/
def regionIdentitySpec : ChangeSpec := { name := "regionIdentity", fn := fun _ => fun
  | [d] => { results := [.lit (.bool true)], args := [d] }
  | _ => none }
def regionIdentityRow : OpenClaim := { program := "ytnocbigcdjlliaagreat", sum := "c4dceef64483e30e21fb758d6e81a58dc22f3138b01ecfd0122ef5590fda5010", func := "partsync/partsynclaw04.RegionIdentity", spec := "regionIdentity", inPlace := ["internal/bytealg.abigen_runtime_cmpstring"], unfollowed := true, recurses := true, plainKeys := false, apart := false }
def RegionIdentitySaid : Prop := regionIdentityRow.holds Tryz.pinned (OpenSpec.ofChange regionIdentitySpec)

/-- ITS FALSE NEIGHBOUR: 'it returns false'. Refute it at one input. -/
def regionIdentityWrong : ChangeSpec := { name := "regionIdentity", fn := fun _ => fun
  | [d] => { results := [.lit (.bool false)], args := [d] }
  | _ => none }
def RegionIdentityWrongFalsely : Prop := regionIdentityRow.holds Tryz.pinned (OpenSpec.ofChange regionIdentityWrong)

/-- 'partsynclaw04.RegionProjects': WHATEVER THE INPUT: true; the input reads as it did. -/
def regionProjectsSpec : ChangeSpec := { name := "regionProjects", fn := fun _ => fun
  | [d1, d2, d3, d4] => { results := [.lit (.bool true)], args := [d1, d2, d3, d4] }
  | _ => none }
def regionProjectsRow : OpenClaim := { program := "ytnocbigcdjlliaagreat", sum := "c4dceef64483e30e21fb758d6e81a58dc22f3138b01ecfd0122ef5590fda5010", func := "partsync/partsynclaw04.RegionProjects", spec := "regionProjects", inPlace := ["internal/bytealg.abigen_runtime_cmpstring"], unfollowed := true, recurses := true, loops := true, plainKeys := false, apart := false }
def RegionProjectsSaid : Prop := regionProjectsRow.holds Tryz.pinned (OpenSpec.ofChange regionProjectsSpec)

/-- ITS FALSE NEIGHBOUR: 'it returns false'. Refute it at one input. -/
def regionProjectsWrong : ChangeSpec := { name := "regionProjects", fn := fun _ => fun
  | [d1, d2, d3, d4] => { results := [.lit (.bool false)], args := [d1, d2, d3, d4] }
  | _ => none }
def RegionProjectsWrongFalsely : Prop := regionProjectsRow.holds Tryz.pinned (OpenSpec.ofChange regionProjectsWrong)

/-- 'partsynclaw04.RegionMakes': WHATEVER THE INPUT: true; the input reads as it did. -/
def regionMakesSpec : ChangeSpec := { name := "regionMakes", fn := fun _ => fun
  | [d1, d2, d3] => { results := [.lit (.bool true)], args := [d1, d2, d3] }
  | _ => none }
def regionMakesRow : OpenClaim := { program := "ytnocbigcdjlliaagreat", sum := "c4dceef64483e30e21fb758d6e81a58dc22f3138b01ecfd0122ef5590fda5010", func := "partsync/partsynclaw04.RegionMakes", spec := "regionMakes", inPlace := ["internal/bytealg.abigen_runtime_cmpstring"], unfollowed := true, recurses := true, plainKeys := false, apart := false }
def RegionMakesSaid : Prop := regionMakesRow.holds Tryz.pinned (OpenSpec.ofChange regionMakesSpec)

/-- ITS FALSE NEIGHBOUR: 'it returns false'. Refute it at one input. -/
def regionMakesWrong : ChangeSpec := { name := "regionMakes", fn := fun _ => fun
  | [d1, d2, d3] => { results := [.lit (.bool false)], args := [d1, d2, d3] }
  | _ => none }
def RegionMakesWrongFalsely : Prop := regionMakesRow.holds Tryz.pinned (OpenSpec.ofChange regionMakesWrong)

/-- 'partsynclaw04.RegionGalois': WHATEVER THE INPUT: true; the input reads as it did. -/
def regionGaloisSpec : ChangeSpec := { name := "regionGalois", fn := fun _ => fun
  | [d] => { results := [.lit (.bool true)], args := [d] }
  | _ => none }
def regionGaloisRow : OpenClaim := { program := "ytnocbigcdjlliaagreat", sum := "c4dceef64483e30e21fb758d6e81a58dc22f3138b01ecfd0122ef5590fda5010", func := "partsync/partsynclaw04.RegionGalois", spec := "regionGalois", inPlace := ["internal/bytealg.abigen_runtime_cmpstring"], unfollowed := true, recurses := true, plainKeys := false, apart := false }
def RegionGaloisSaid : Prop := regionGaloisRow.holds Tryz.pinned (OpenSpec.ofChange regionGaloisSpec)

/-- ITS FALSE NEIGHBOUR: 'it returns false'. Refute it at one input. -/
def regionGaloisWrong : ChangeSpec := { name := "regionGalois", fn := fun _ => fun
  | [d] => { results := [.lit (.bool false)], args := [d] }
  | _ => none }
def RegionGaloisWrongFalsely : Prop := regionGaloisRow.holds Tryz.pinned (OpenSpec.ofChange regionGaloisWrong)

/-- 'partsynclaw04.RegionExtends': WHATEVER THE INPUT: true; the input reads as it did. -/
def regionExtendsSpec : ChangeSpec := { name := "regionExtends", fn := fun _ => fun
  | [d] => { results := [.lit (.bool true)], args := [d] }
  | _ => none }
def regionExtendsRow : OpenClaim := { program := "ytnocbigcdjlliaagreat", sum := "c4dceef64483e30e21fb758d6e81a58dc22f3138b01ecfd0122ef5590fda5010", func := "partsync/partsynclaw04.RegionExtends", spec := "regionExtends", inPlace := ["internal/bytealg.abigen_runtime_cmpstring"], unfollowed := true, recurses := true, plainKeys := false, apart := false }
def RegionExtendsSaid : Prop := regionExtendsRow.holds Tryz.pinned (OpenSpec.ofChange regionExtendsSpec)

/-- ITS FALSE NEIGHBOUR: 'it returns false'. Refute it at one input. -/
def regionExtendsWrong : ChangeSpec := { name := "regionExtends", fn := fun _ => fun
  | [d] => { results := [.lit (.bool false)], args := [d] }
  | _ => none }
def RegionExtendsWrongFalsely : Prop := regionExtendsRow.holds Tryz.pinned (OpenSpec.ofChange regionExtendsWrong)

/- THE SECOND FORM. 'bulk': how many values and letters a reading holds, each counted each time it is reached (what is shared counts as often as it is met; a slice's spare places count too). A statement '..UptoSaid' is the law's where the arguments, and the package variables that the reading takes, are together of bulk at most 1048576: NARROWER than '..Said'. Prove '..Said' where nothing that the law and all that it calls make is longer than what came in: it says more and counts as full. Else prove '..UptoSaid'. A law counts once. -/
mutual
def uptoBulk {H : Type} : DataW H → Nat
  | .lit (.string bytes) => bytes.length + 1
  | .lit _ => 1
  | .nil => 1
  | .ptr d => uptoBulk d + 1
  | .slice elems spare => uptoBulkAll elems + uptoBulkAll spare + 1
  | .agg parts => uptoBulkAll parts + 1
  | .iface _ d => uptoBulk d + 1
  | .map entries => uptoBulkEntries entries + 1
  | .held _ => 1
def uptoBulkAll {H : Type} : List (DataW H) → Nat
  | [] => 0
  | d :: r => uptoBulk d + uptoBulkAll r
def uptoBulkEntries {H : Type} : List (Lit × DataW H) → Nat
  | [] => 0
  | x :: r => uptoBulkEntry x + uptoBulkEntries r
def uptoBulkEntry {H : Type} : Lit × DataW H → Nat
  | (.string bytes, d) => bytes.length + uptoBulk d + 1
  | (_, d) => uptoBulk d + 1
 end
def uptoSmall : (H : Type) → List (DataW H) → Bool := fun _ ds => decide (uptoBulkAll ds ≤ 1048576)
def OpenSpec.upto (s : _root_.Go.ChangeSpec) : _root_.Go.OpenSpec := { _root_.Go.OpenSpec.ofChange s with cond := some uptoSmall }

/-- 'partsynclaw04.RegionOnce', WHERE WHAT IT READS IS OF BULK AT MOST 1048576: true; the input reads as it did. -/
def regionOnceUptoRow : OpenClaim := { program := "ytnocbigcdjlliaagreat", sum := "c4dceef64483e30e21fb758d6e81a58dc22f3138b01ecfd0122ef5590fda5010", func := "partsync/partsynclaw04.RegionOnce", spec := "regionOnce", inPlace := ["internal/bytealg.abigen_runtime_cmpstring"], unfollowed := true, recurses := true, plainKeys := false, apart := false, narrowed := true }
def RegionOnceUptoSaid : Prop := regionOnceUptoRow.holds Tryz.pinned (OpenSpec.upto regionOnceSpec)

/-- 'partsynclaw04.RegionAlgebra', WHERE WHAT IT READS IS OF BULK AT MOST 1048576: true; the input reads as it did. -/
def regionAlgebraUptoRow : OpenClaim := { program := "ytnocbigcdjlliaagreat", sum := "c4dceef64483e30e21fb758d6e81a58dc22f3138b01ecfd0122ef5590fda5010", func := "partsync/partsynclaw04.RegionAlgebra", spec := "regionAlgebra", inPlace := ["internal/bytealg.abigen_runtime_cmpstring"], unfollowed := true, recurses := true, plainKeys := false, apart := false, narrowed := true }
def RegionAlgebraUptoSaid : Prop := regionAlgebraUptoRow.holds Tryz.pinned (OpenSpec.upto regionAlgebraSpec)

/-- 'partsynclaw04.RegionMorgan', WHERE WHAT IT READS IS OF BULK AT MOST 1048576: true; the input reads as it did. -/
def regionMorganUptoRow : OpenClaim := { program := "ytnocbigcdjlliaagreat", sum := "c4dceef64483e30e21fb758d6e81a58dc22f3138b01ecfd0122ef5590fda5010", func := "partsync/partsynclaw04.RegionMorgan", spec := "regionMorgan", inPlace := ["internal/bytealg.abigen_runtime_cmpstring"], unfollowed := true, recurses := true, plainKeys := false, apart := false, narrowed := true }
def RegionMorganUptoSaid : Prop := regionMorganUptoRow.holds Tryz.pinned (OpenSpec.upto regionMorganSpec)

/-- 'partsynclaw04.RegionCombines', WHERE WHAT IT READS IS OF BULK AT MOST 1048576: true; the input reads as it did. -/
def regionCombinesUptoRow : OpenClaim := { program := "ytnocbigcdjlliaagreat", sum := "c4dceef64483e30e21fb758d6e81a58dc22f3138b01ecfd0122ef5590fda5010", func := "partsync/partsynclaw04.RegionCombines", spec := "regionCombines", inPlace := ["internal/bytealg.abigen_runtime_cmpstring"], unfollowed := true, recurses := true, loops := true, plainKeys := false, apart := false, narrowed := true }
def RegionCombinesUptoSaid : Prop := regionCombinesUptoRow.holds Tryz.pinned (OpenSpec.upto regionCombinesSpec)

/-- 'partsynclaw04.RegionForms', WHERE WHAT IT READS IS OF BULK AT MOST 1048576: true; the input reads as it did. -/
def regionFormsUptoRow : OpenClaim := { program := "ytnocbigcdjlliaagreat", sum := "c4dceef64483e30e21fb758d6e81a58dc22f3138b01ecfd0122ef5590fda5010", func := "partsync/partsynclaw04.RegionForms", spec := "regionForms", inPlace := ["internal/bytealg.abigen_runtime_cmpstring"], unfollowed := true, recurses := true, loops := true, plainKeys := false, apart := false, narrowed := true }
def RegionFormsUptoSaid : Prop := regionFormsUptoRow.holds Tryz.pinned (OpenSpec.upto regionFormsSpec)

/-- 'partsynclaw04.RegionComposes', WHERE WHAT IT READS IS OF BULK AT MOST 1048576: true; the input reads as it did. -/
def regionComposesUptoRow : OpenClaim := { program := "ytnocbigcdjlliaagreat", sum := "c4dceef64483e30e21fb758d6e81a58dc22f3138b01ecfd0122ef5590fda5010", func := "partsync/partsynclaw04.RegionComposes", spec := "regionComposes", inPlace := ["internal/bytealg.abigen_runtime_cmpstring"], unfollowed := true, recurses := true, plainKeys := false, apart := false, narrowed := true }
def RegionComposesUptoSaid : Prop := regionComposesUptoRow.holds Tryz.pinned (OpenSpec.upto regionComposesSpec)

/-- 'partsynclaw04.RegionProducts', WHERE WHAT IT READS IS OF BULK AT MOST 1048576: true; the input reads as it did. -/
def regionProductsUptoRow : OpenClaim := { program := "ytnocbigcdjlliaagreat", sum := "c4dceef64483e30e21fb758d6e81a58dc22f3138b01ecfd0122ef5590fda5010", func := "partsync/partsynclaw04.RegionProducts", spec := "regionProducts", inPlace := ["internal/bytealg.abigen_runtime_cmpstring"], unfollowed := true, recurses := true, loops := true, plainKeys := false, apart := false, narrowed := true }
def RegionProductsUptoSaid : Prop := regionProductsUptoRow.holds Tryz.pinned (OpenSpec.upto regionProductsSpec)

/-- 'partsynclaw04.RegionPoints', WHERE WHAT IT READS IS OF BULK AT MOST 1048576: true; the input reads as it did. -/
def regionPointsUptoRow : OpenClaim := { program := "ytnocbigcdjlliaagreat", sum := "c4dceef64483e30e21fb758d6e81a58dc22f3138b01ecfd0122ef5590fda5010", func := "partsync/partsynclaw04.RegionPoints", spec := "regionPoints", inPlace := ["internal/bytealg.abigen_runtime_cmpstring"], unfollowed := true, recurses := true, plainKeys := false, apart := false, narrowed := true }
def RegionPointsUptoSaid : Prop := regionPointsUptoRow.holds Tryz.pinned (OpenSpec.upto regionPointsSpec)

/-- 'partsynclaw04.RegionIdentity', WHERE WHAT IT READS IS OF BULK AT MOST 1048576: true; the input reads as it did. -/
def regionIdentityUptoRow : OpenClaim := { program := "ytnocbigcdjlliaagreat", sum := "c4dceef64483e30e21fb758d6e81a58dc22f3138b01ecfd0122ef5590fda5010", func := "partsync/partsynclaw04.RegionIdentity", spec := "regionIdentity", inPlace := ["internal/bytealg.abigen_runtime_cmpstring"], unfollowed := true, recurses := true, plainKeys := false, apart := false, narrowed := true }
def RegionIdentityUptoSaid : Prop := regionIdentityUptoRow.holds Tryz.pinned (OpenSpec.upto regionIdentitySpec)

/-- 'partsynclaw04.RegionProjects', WHERE WHAT IT READS IS OF BULK AT MOST 1048576: true; the input reads as it did. -/
def regionProjectsUptoRow : OpenClaim := { program := "ytnocbigcdjlliaagreat", sum := "c4dceef64483e30e21fb758d6e81a58dc22f3138b01ecfd0122ef5590fda5010", func := "partsync/partsynclaw04.RegionProjects", spec := "regionProjects", inPlace := ["internal/bytealg.abigen_runtime_cmpstring"], unfollowed := true, recurses := true, loops := true, plainKeys := false, apart := false, narrowed := true }
def RegionProjectsUptoSaid : Prop := regionProjectsUptoRow.holds Tryz.pinned (OpenSpec.upto regionProjectsSpec)

/-- 'partsynclaw04.RegionMakes', WHERE WHAT IT READS IS OF BULK AT MOST 1048576: true; the input reads as it did. -/
def regionMakesUptoRow : OpenClaim := { program := "ytnocbigcdjlliaagreat", sum := "c4dceef64483e30e21fb758d6e81a58dc22f3138b01ecfd0122ef5590fda5010", func := "partsync/partsynclaw04.RegionMakes", spec := "regionMakes", inPlace := ["internal/bytealg.abigen_runtime_cmpstring"], unfollowed := true, recurses := true, plainKeys := false, apart := false, narrowed := true }
def RegionMakesUptoSaid : Prop := regionMakesUptoRow.holds Tryz.pinned (OpenSpec.upto regionMakesSpec)

/-- 'partsynclaw04.RegionGalois', WHERE WHAT IT READS IS OF BULK AT MOST 1048576: true; the input reads as it did. -/
def regionGaloisUptoRow : OpenClaim := { program := "ytnocbigcdjlliaagreat", sum := "c4dceef64483e30e21fb758d6e81a58dc22f3138b01ecfd0122ef5590fda5010", func := "partsync/partsynclaw04.RegionGalois", spec := "regionGalois", inPlace := ["internal/bytealg.abigen_runtime_cmpstring"], unfollowed := true, recurses := true, plainKeys := false, apart := false, narrowed := true }
def RegionGaloisUptoSaid : Prop := regionGaloisUptoRow.holds Tryz.pinned (OpenSpec.upto regionGaloisSpec)

/-- 'partsynclaw04.RegionExtends', WHERE WHAT IT READS IS OF BULK AT MOST 1048576: true; the input reads as it did. -/
def regionExtendsUptoRow : OpenClaim := { program := "ytnocbigcdjlliaagreat", sum := "c4dceef64483e30e21fb758d6e81a58dc22f3138b01ecfd0122ef5590fda5010", func := "partsync/partsynclaw04.RegionExtends", spec := "regionExtends", inPlace := ["internal/bytealg.abigen_runtime_cmpstring"], unfollowed := true, recurses := true, plainKeys := false, apart := false, narrowed := true }
def RegionExtendsUptoSaid : Prop := regionExtendsUptoRow.holds Tryz.pinned (OpenSpec.upto regionExtendsSpec)

end Rows
end Go.Proofs.YtnocbigcdjlliaaGreat
