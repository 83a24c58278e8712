/-
  No cell of these rows narrows 'for every input' (looked for: loops, veiled, ifaces, maps, wideKeys, modest, calm, conditions, laid).
  DERIVED. THE GIVEN ROWS OF THIS SEAT. 3 by the template 'for every input the law returns true; each argument reads behind the call as it read before'; 0 by the template 'total and deterministic' (their statements: YtponkkljlbifmaaGreatTotals.lean).
  GIVEN WITH THE SEED: the statements are not yours to turn. If you find one false, say at which input.
  Laid BY PROGRAM, IN A SANDBOX (cutbox-rows.mjs): the forced cells as the released guide's own fill.sh prints them over the translation 0f5397fce8613ac8… (all of the seat's roots in one cut). By AI agents, Wed Nov 11 2026. No macro, syntax, notation, axiom, sorry.
-/
import Derived.Test.YtponkkljlbifmaaGreatChecked
import GoSem.Claim
import GoSem.ClaimJoined
import GoSem.ClaimMapViews
import Derived.JoinedTies
import Derived.KernelRfl
namespace Go.Proofs.YtponkkljlbifmaaGreat
/- THE CELL 'sum', in the pinned program and in every row, IS THE sha256 OF THE DUMP (.gsa) THAT YtponkkljlbifmaaGreatProg.lean LOADS. Nothing in Lean hashes anything: it is a label: what it is worth is what the hold of that sum in a sandbox is worth. -/
noncomputable def Tryz.pinned : Pinned := { name := "ytponkkljlbifmaagreat", sum := "0f5397fce8613ac87c6bb35d5db84c96981dee885dd898978cc48418e5935834", checked := Tryz.checked }
namespace Rows
def none {H : Type} : Left H := { results := [], args := [] }

/-- 'partsynclaw09.IntegrityFinds': WHATEVER THE INPUT: true; the input reads as it did. -/
def integrityFindsSpec : ChangeSpec := { name := "integrityFinds", fn := fun _ => fun
  | [d1, d2] => { results := [.lit (.bool true)], args := [d1, d2] }
  | _ => none }
def integrityFindsRow : OpenClaim := { program := "ytponkkljlbifmaagreat", sum := "0f5397fce8613ac87c6bb35d5db84c96981dee885dd898978cc48418e5935834", func := "partsync/partsynclaw09.IntegrityFinds", spec := "integrityFinds", inPlace := ["internal/bytealg.abigen_runtime_cmpstring"], unfollowed := true, recurses := true, apart := false }
def IntegrityFindsSaid : Prop := integrityFindsRow.holds Tryz.pinned (OpenSpec.ofChange integrityFindsSpec)

/-- ITS FALSE NEIGHBOUR: 'it returns false'. Refute it at one input. -/
def integrityFindsWrong : ChangeSpec := { name := "integrityFinds", fn := fun _ => fun
  | [d1, d2] => { results := [.lit (.bool false)], args := [d1, d2] }
  | _ => none }
def IntegrityFindsWrongFalsely : Prop := integrityFindsRow.holds Tryz.pinned (OpenSpec.ofChange integrityFindsWrong)

/-- 'partsynclaw09.IntegrityRechecks': WHATEVER THE INPUT: true; the input reads as it did. -/
def integrityRechecksSpec : ChangeSpec := { name := "integrityRechecks", fn := fun _ => fun
  | [d1, d2] => { results := [.lit (.bool true)], args := [d1, d2] }
  | _ => none }
def integrityRechecksRow : OpenClaim := { program := "ytponkkljlbifmaagreat", sum := "0f5397fce8613ac87c6bb35d5db84c96981dee885dd898978cc48418e5935834", func := "partsync/partsynclaw09.IntegrityRechecks", spec := "integrityRechecks", inPlace := ["internal/bytealg.abigen_runtime_cmpstring"], unfollowed := true, recurses := true, apart := false }
def IntegrityRechecksSaid : Prop := integrityRechecksRow.holds Tryz.pinned (OpenSpec.ofChange integrityRechecksSpec)

/-- ITS FALSE NEIGHBOUR: 'it returns false'. Refute it at one input. -/
def integrityRechecksWrong : ChangeSpec := { name := "integrityRechecks", fn := fun _ => fun
  | [d1, d2] => { results := [.lit (.bool false)], args := [d1, d2] }
  | _ => none }
def IntegrityRechecksWrongFalsely : Prop := integrityRechecksRow.holds Tryz.pinned (OpenSpec.ofChange integrityRechecksWrong)

/-- 'partsynclaw09.IntegrityKeeps': WHATEVER THE INPUT: true; the input reads as it did. -/
def integrityKeepsSpec : ChangeSpec := { name := "integrityKeeps", fn := fun _ => fun
  | [d] => { results := [.lit (.bool true)], args := [d] }
  | _ => none }
def integrityKeepsRow : OpenClaim := { program := "ytponkkljlbifmaagreat", sum := "0f5397fce8613ac87c6bb35d5db84c96981dee885dd898978cc48418e5935834", func := "partsync/partsynclaw09.IntegrityKeeps", spec := "integrityKeeps", inPlace := ["internal/bytealg.abigen_runtime_cmpstring"], unfollowed := true, recurses := true, apart := false }
def IntegrityKeepsSaid : Prop := integrityKeepsRow.holds Tryz.pinned (OpenSpec.ofChange integrityKeepsSpec)

/-- ITS FALSE NEIGHBOUR: 'it returns false'. Refute it at one input. -/
def integrityKeepsWrong : ChangeSpec := { name := "integrityKeeps", fn := fun _ => fun
  | [d] => { results := [.lit (.bool false)], args := [d] }
  | _ => none }
def IntegrityKeepsWrongFalsely : Prop := integrityKeepsRow.holds Tryz.pinned (OpenSpec.ofChange integrityKeepsWrong)

/- THE SECOND FORM. 'bulk': how many values and letters a reading holds, each counted each time it is reached (what is shared counts as often as it is met; a slice's spare places count too). A statement '..UptoSaid' is the law's where the arguments, and the package variables that the reading takes, are together of bulk at most 1048576: NARROWER than '..Said'. Prove '..Said' where nothing that the law and all that it calls make is longer than what came in: it says more and counts as full. Else prove '..UptoSaid'. A law counts once. -/
mutual
def uptoBulk {H : Type} : DataW H → Nat
  | .lit (.string bytes) => bytes.length + 1
  | .lit _ => 1
  | .nil => 1
  | .ptr d => uptoBulk d + 1
  | .slice elems spare => uptoBulkAll elems + uptoBulkAll spare + 1
  | .agg parts => uptoBulkAll parts + 1
  | .iface _ d => uptoBulk d + 1
  | .map entries => uptoBulkEntries entries + 1
  | .held _ => 1
def uptoBulkAll {H : Type} : List (DataW H) → Nat
  | [] => 0
  | d :: r => uptoBulk d + uptoBulkAll r
def uptoBulkEntries {H : Type} : List (Lit × DataW H) → Nat
  | [] => 0
  | x :: r => uptoBulkEntry x + uptoBulkEntries r
def uptoBulkEntry {H : Type} : Lit × DataW H → Nat
  | (.string bytes, d) => bytes.length + uptoBulk d + 1
  | (_, d) => uptoBulk d + 1
 end
def uptoSmall : (H : Type) → List (DataW H) → Bool := fun _ ds => decide (uptoBulkAll ds ≤ 1048576)
def OpenSpec.upto (s : _root_.Go.ChangeSpec) : _root_.Go.OpenSpec := { _root_.Go.OpenSpec.ofChange s with cond := some uptoSmall }

/-- 'partsynclaw09.IntegrityFinds', WHERE WHAT IT READS IS OF BULK AT MOST 1048576: true; the input reads as it did. -/
def integrityFindsUptoRow : OpenClaim := { program := "ytponkkljlbifmaagreat", sum := "0f5397fce8613ac87c6bb35d5db84c96981dee885dd898978cc48418e5935834", func := "partsync/partsynclaw09.IntegrityFinds", spec := "integrityFinds", inPlace := ["internal/bytealg.abigen_runtime_cmpstring"], unfollowed := true, recurses := true, apart := false, narrowed := true }
def IntegrityFindsUptoSaid : Prop := integrityFindsUptoRow.holds Tryz.pinned (OpenSpec.upto integrityFindsSpec)

/-- 'partsynclaw09.IntegrityRechecks', WHERE WHAT IT READS IS OF BULK AT MOST 1048576: true; the input reads as it did. -/
def integrityRechecksUptoRow : OpenClaim := { program := "ytponkkljlbifmaagreat", sum := "0f5397fce8613ac87c6bb35d5db84c96981dee885dd898978cc48418e5935834", func := "partsync/partsynclaw09.IntegrityRechecks", spec := "integrityRechecks", inPlace := ["internal/bytealg.abigen_runtime_cmpstring"], unfollowed := true, recurses := true, apart := false, narrowed := true }
def IntegrityRechecksUptoSaid : Prop := integrityRechecksUptoRow.holds Tryz.pinned (OpenSpec.upto integrityRechecksSpec)

/-- 'partsynclaw09.IntegrityKeeps', WHERE WHAT IT READS IS OF BULK AT MOST 1048576: true; the input reads as it did. -/
def integrityKeepsUptoRow : OpenClaim := { program := "ytponkkljlbifmaagreat", sum := "0f5397fce8613ac87c6bb35d5db84c96981dee885dd898978cc48418e5935834", func := "partsync/partsynclaw09.IntegrityKeeps", spec := "integrityKeeps", inPlace := ["internal/bytealg.abigen_runtime_cmpstring"], unfollowed := true, recurses := true, apart := false, narrowed := true }
def IntegrityKeepsUptoSaid : Prop := integrityKeepsUptoRow.holds Tryz.pinned (OpenSpec.upto integrityKeepsSpec)

end Rows
end Go.Proofs.YtponkkljlbifmaaGreat
