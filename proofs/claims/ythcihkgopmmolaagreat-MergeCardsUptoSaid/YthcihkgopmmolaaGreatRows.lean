/-
  No cell of these rows narrows 'for every input' (looked for: loops, veiled, ifaces, maps, wideKeys, modest, calm, conditions, laid).
  DERIVED. THE GIVEN ROWS OF THIS SEAT. 5 by the template 'for every input the law returns true; each argument reads behind the call as it read before'; 0 by the template 'total and deterministic' (their statements: YthcihkgopmmolaaGreatTotals.lean).
  GIVEN WITH THE SEED: the statements are not yours to turn. If you find one false, say at which input.
  Laid BY PROGRAM, IN A SANDBOX (cutbox-rows.mjs): the forced cells as the released guide's own fill.sh prints them over the translation 781baed447d75ac4… (all of the seat's roots in one cut). By AI agents, Wed Nov 11 2026. No macro, syntax, notation, axiom, sorry.
-/
import Derived.Test.YthcihkgopmmolaaGreatChecked
import GoSem.Claim
import GoSem.ClaimJoined
import GoSem.ClaimMapViews
import Derived.JoinedTies
import Derived.KernelRfl
namespace Go.Proofs.YthcihkgopmmolaaGreat
/- THE CELL 'sum', in the pinned program and in every row, IS THE sha256 OF THE DUMP (.gsa) THAT YthcihkgopmmolaaGreatProg.lean LOADS. Nothing in Lean hashes anything: it is a label: what it is worth is what the hold of that sum in a sandbox is worth. -/
noncomputable def Tryz.pinned : Pinned := { name := "ythcihkgopmmolaagreat", sum := "781baed447d75ac40756ae3ef4f2f2e0cbfa808c0841a7ac54af53c3de2c7304", checked := Tryz.checked }
namespace Rows
def none {H : Type} : Left H := { results := [], args := [] }

/-- 'catchwordlaw11.MergeTables': WHATEVER THE INPUT: true; the input reads as it did. -/
def mergeTablesSpec : ChangeSpec := { name := "mergeTables", fn := fun _ => fun
  | [d1, d2, d3] => { results := [.lit (.bool true)], args := [d1, d2, d3] }
  | _ => none }
def mergeTablesRow : OpenClaim := { program := "ythcihkgopmmolaagreat", sum := "781baed447d75ac40756ae3ef4f2f2e0cbfa808c0841a7ac54af53c3de2c7304", func := "catchword/catchwordlaw11.MergeTables", spec := "mergeTables", inPlace := ["internal/bytealg.abigen_runtime_cmpstring"], unfollowed := true, recurses := true, plainKeys := false, apart := false }
def MergeTablesSaid : Prop := mergeTablesRow.holds Tryz.pinned (OpenSpec.ofChange mergeTablesSpec)

/-- ITS FALSE NEIGHBOUR: 'it returns false'. Refute it at one input. -/
def mergeTablesWrong : ChangeSpec := { name := "mergeTables", fn := fun _ => fun
  | [d1, d2, d3] => { results := [.lit (.bool false)], args := [d1, d2, d3] }
  | _ => none }
def MergeTablesWrongFalsely : Prop := mergeTablesRow.holds Tryz.pinned (OpenSpec.ofChange mergeTablesWrong)

/-- 'catchwordlaw11.MergeCards': WHATEVER THE INPUT: true; the input reads as it did. -/
def mergeCardsSpec : ChangeSpec := { name := "mergeCards", fn := fun _ => fun
  | [d1, d2, d3, d4, d5] => { results := [.lit (.bool true)], args := [d1, d2, d3, d4, d5] }
  | _ => none }
def mergeCardsRow : OpenClaim := { program := "ythcihkgopmmolaagreat", sum := "781baed447d75ac40756ae3ef4f2f2e0cbfa808c0841a7ac54af53c3de2c7304", func := "catchword/catchwordlaw11.MergeCards", spec := "mergeCards", inPlace := ["internal/bytealg.abigen_runtime_cmpstring"], unfollowed := true, recurses := true, plainKeys := false, apart := false }
def MergeCardsSaid : Prop := mergeCardsRow.holds Tryz.pinned (OpenSpec.ofChange mergeCardsSpec)

/-- ITS FALSE NEIGHBOUR: 'it returns false'. Refute it at one input. -/
def mergeCardsWrong : ChangeSpec := { name := "mergeCards", fn := fun _ => fun
  | [d1, d2, d3, d4, d5] => { results := [.lit (.bool false)], args := [d1, d2, d3, d4, d5] }
  | _ => none }
def MergeCardsWrongFalsely : Prop := mergeCardsRow.holds Tryz.pinned (OpenSpec.ofChange mergeCardsWrong)

/-- 'catchwordlaw11.MergeTurned': WHATEVER THE INPUT: true; the input reads as it did. -/
def mergeTurnedSpec : ChangeSpec := { name := "mergeTurned", fn := fun _ => fun
  | [d1, d2, d3, d4] => { results := [.lit (.bool true)], args := [d1, d2, d3, d4] }
  | _ => none }
def mergeTurnedRow : OpenClaim := { program := "ythcihkgopmmolaagreat", sum := "781baed447d75ac40756ae3ef4f2f2e0cbfa808c0841a7ac54af53c3de2c7304", func := "catchword/catchwordlaw11.MergeTurned", spec := "mergeTurned", inPlace := ["internal/bytealg.abigen_runtime_cmpstring"], unfollowed := true, recurses := true, plainKeys := false, apart := false }
def MergeTurnedSaid : Prop := mergeTurnedRow.holds Tryz.pinned (OpenSpec.ofChange mergeTurnedSpec)

/-- ITS FALSE NEIGHBOUR: 'it returns false'. Refute it at one input. -/
def mergeTurnedWrong : ChangeSpec := { name := "mergeTurned", fn := fun _ => fun
  | [d1, d2, d3, d4] => { results := [.lit (.bool false)], args := [d1, d2, d3, d4] }
  | _ => none }
def MergeTurnedWrongFalsely : Prop := mergeTurnedRow.holds Tryz.pinned (OpenSpec.ofChange mergeTurnedWrong)

/-- 'catchwordlaw11.MergeTwice': WHATEVER THE INPUT: true; the input reads as it did. -/
def mergeTwiceSpec : ChangeSpec := { name := "mergeTwice", fn := fun _ => fun
  | [d1, d2, d3, d4] => { results := [.lit (.bool true)], args := [d1, d2, d3, d4] }
  | _ => none }
def mergeTwiceRow : OpenClaim := { program := "ythcihkgopmmolaagreat", sum := "781baed447d75ac40756ae3ef4f2f2e0cbfa808c0841a7ac54af53c3de2c7304", func := "catchword/catchwordlaw11.MergeTwice", spec := "mergeTwice", inPlace := ["internal/bytealg.abigen_runtime_cmpstring"], unfollowed := true, recurses := true, plainKeys := false, apart := false }
def MergeTwiceSaid : Prop := mergeTwiceRow.holds Tryz.pinned (OpenSpec.ofChange mergeTwiceSpec)

/-- ITS FALSE NEIGHBOUR: 'it returns false'. Refute it at one input. -/
def mergeTwiceWrong : ChangeSpec := { name := "mergeTwice", fn := fun _ => fun
  | [d1, d2, d3, d4] => { results := [.lit (.bool false)], args := [d1, d2, d3, d4] }
  | _ => none }
def MergeTwiceWrongFalsely : Prop := mergeTwiceRow.holds Tryz.pinned (OpenSpec.ofChange mergeTwiceWrong)

/-- 'catchwordlaw11.MergeOne': WHATEVER THE INPUT: true; the input reads as it did. -/
def mergeOneSpec : ChangeSpec := { name := "mergeOne", fn := fun _ => fun
  | [d] => { results := [.lit (.bool true)], args := [d] }
  | _ => none }
def mergeOneRow : OpenClaim := { program := "ythcihkgopmmolaagreat", sum := "781baed447d75ac40756ae3ef4f2f2e0cbfa808c0841a7ac54af53c3de2c7304", func := "catchword/catchwordlaw11.MergeOne", spec := "mergeOne", inPlace := ["internal/bytealg.abigen_runtime_cmpstring"], unfollowed := true, recurses := true, plainKeys := false, apart := false }
def MergeOneSaid : Prop := mergeOneRow.holds Tryz.pinned (OpenSpec.ofChange mergeOneSpec)

/-- ITS FALSE NEIGHBOUR: 'it returns false'. Refute it at one input. -/
def mergeOneWrong : ChangeSpec := { name := "mergeOne", fn := fun _ => fun
  | [d] => { results := [.lit (.bool false)], args := [d] }
  | _ => none }
def MergeOneWrongFalsely : Prop := mergeOneRow.holds Tryz.pinned (OpenSpec.ofChange mergeOneWrong)

/- THE SECOND FORM. 'bulk': how many values and letters a reading holds, each counted each time it is reached (what is shared counts as often as it is met; a slice's spare places count too). A statement '..UptoSaid' is the law's where the arguments, and the package variables that the reading takes, are together of bulk at most 1048576: NARROWER than '..Said'. Prove '..Said' where nothing that the law and all that it calls make is longer than what came in: it says more and counts as full. Else prove '..UptoSaid'. A law counts once. -/
mutual
def uptoBulk {H : Type} : DataW H → Nat
  | .lit (.string bytes) => bytes.length + 1
  | .lit _ => 1
  | .nil => 1
  | .ptr d => uptoBulk d + 1
  | .slice elems spare => uptoBulkAll elems + uptoBulkAll spare + 1
  | .agg parts => uptoBulkAll parts + 1
  | .iface _ d => uptoBulk d + 1
  | .map entries => uptoBulkEntries entries + 1
  | .held _ => 1
def uptoBulkAll {H : Type} : List (DataW H) → Nat
  | [] => 0
  | d :: r => uptoBulk d + uptoBulkAll r
def uptoBulkEntries {H : Type} : List (Lit × DataW H) → Nat
  | [] => 0
  | x :: r => uptoBulkEntry x + uptoBulkEntries r
def uptoBulkEntry {H : Type} : Lit × DataW H → Nat
  | (.string bytes, d) => bytes.length + uptoBulk d + 1
  | (_, d) => uptoBulk d + 1
 end
def uptoSmall : (H : Type) → List (DataW H) → Bool := fun _ ds => decide (uptoBulkAll ds ≤ 1048576)
def OpenSpec.upto (s : _root_.Go.ChangeSpec) : _root_.Go.OpenSpec := { _root_.Go.OpenSpec.ofChange s with cond := some uptoSmall }

/-- 'catchwordlaw11.MergeTables', WHERE WHAT IT READS IS OF BULK AT MOST 1048576: true; the input reads as it did. -/
def mergeTablesUptoRow : OpenClaim := { program := "ythcihkgopmmolaagreat", sum := "781baed447d75ac40756ae3ef4f2f2e0cbfa808c0841a7ac54af53c3de2c7304", func := "catchword/catchwordlaw11.MergeTables", spec := "mergeTables", inPlace := ["internal/bytealg.abigen_runtime_cmpstring"], unfollowed := true, recurses := true, plainKeys := false, apart := false, narrowed := true }
def MergeTablesUptoSaid : Prop := mergeTablesUptoRow.holds Tryz.pinned (OpenSpec.upto mergeTablesSpec)

/-- 'catchwordlaw11.MergeCards', WHERE WHAT IT READS IS OF BULK AT MOST 1048576: true; the input reads as it did. -/
def mergeCardsUptoRow : OpenClaim := { program := "ythcihkgopmmolaagreat", sum := "781baed447d75ac40756ae3ef4f2f2e0cbfa808c0841a7ac54af53c3de2c7304", func := "catchword/catchwordlaw11.MergeCards", spec := "mergeCards", inPlace := ["internal/bytealg.abigen_runtime_cmpstring"], unfollowed := true, recurses := true, plainKeys := false, apart := false, narrowed := true }
def MergeCardsUptoSaid : Prop := mergeCardsUptoRow.holds Tryz.pinned (OpenSpec.upto mergeCardsSpec)

/-- 'catchwordlaw11.MergeTurned', WHERE WHAT IT READS IS OF BULK AT MOST 1048576: true; the input reads as it did. -/
def mergeTurnedUptoRow : OpenClaim := { program := "ythcihkgopmmolaagreat", sum := "781baed447d75ac40756ae3ef4f2f2e0cbfa808c0841a7ac54af53c3de2c7304", func := "catchword/catchwordlaw11.MergeTurned", spec := "mergeTurned", inPlace := ["internal/bytealg.abigen_runtime_cmpstring"], unfollowed := true, recurses := true, plainKeys := false, apart := false, narrowed := true }
def MergeTurnedUptoSaid : Prop := mergeTurnedUptoRow.holds Tryz.pinned (OpenSpec.upto mergeTurnedSpec)

/-- 'catchwordlaw11.MergeTwice', WHERE WHAT IT READS IS OF BULK AT MOST 1048576: true; the input reads as it did. -/
def mergeTwiceUptoRow : OpenClaim := { program := "ythcihkgopmmolaagreat", sum := "781baed447d75ac40756ae3ef4f2f2e0cbfa808c0841a7ac54af53c3de2c7304", func := "catchword/catchwordlaw11.MergeTwice", spec := "mergeTwice", inPlace := ["internal/bytealg.abigen_runtime_cmpstring"], unfollowed := true, recurses := true, plainKeys := false, apart := false, narrowed := true }
def MergeTwiceUptoSaid : Prop := mergeTwiceUptoRow.holds Tryz.pinned (OpenSpec.upto mergeTwiceSpec)

/-- 'catchwordlaw11.MergeOne', WHERE WHAT IT READS IS OF BULK AT MOST 1048576: true; the input reads as it did. -/
def mergeOneUptoRow : OpenClaim := { program := "ythcihkgopmmolaagreat", sum := "781baed447d75ac40756ae3ef4f2f2e0cbfa808c0841a7ac54af53c3de2c7304", func := "catchword/catchwordlaw11.MergeOne", spec := "mergeOne", inPlace := ["internal/bytealg.abigen_runtime_cmpstring"], unfollowed := true, recurses := true, plainKeys := false, apart := false, narrowed := true }
def MergeOneUptoSaid : Prop := mergeOneUptoRow.holds Tryz.pinned (OpenSpec.upto mergeOneSpec)

end Rows
end Go.Proofs.YthcihkgopmmolaaGreat
