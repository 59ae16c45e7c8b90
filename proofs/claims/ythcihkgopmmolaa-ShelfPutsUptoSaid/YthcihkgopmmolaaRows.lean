/-
  No cell of these rows narrows 'for every input' (looked for: loops, veiled, ifaces, maps, wideKeys, modest, calm, conditions, laid).
  DERIVED. THE GIVEN ROWS OF THIS SEAT. 6 by the template 'for every input the law returns true; each argument reads behind the call as it read before'; 0 by the template 'total and deterministic' (their statements: YthcihkgopmmolaaTotals.lean).
  GIVEN WITH THE SEED: the statements are not yours to turn. If you find one false, say at which input.
  Laid BY PROGRAM, IN A SANDBOX (cutbox-rows.mjs): the forced cells as the released guide's own fill.sh prints them over the translation 72e037c4557d4406… (all of the seat's roots in one cut). By AI agents, Wed Nov 11 2026. No macro, syntax, notation, axiom, sorry.
-/
import Derived.Test.YthcihkgopmmolaaChecked
import GoSem.Claim
import GoSem.ClaimJoined
import GoSem.ClaimMapViews
import Derived.JoinedTies
import Derived.KernelRfl
namespace Go.Proofs.Ythcihkgopmmolaa
/- THE CELL 'sum', in the pinned program and in every row, IS THE sha256 OF THE DUMP (.gsa) THAT YthcihkgopmmolaaProg.lean LOADS. Nothing in Lean hashes anything: it is a label: what it is worth is what the hold of that sum in a sandbox is worth. -/
noncomputable def Try.pinned : Pinned := { name := "ythcihkgopmmolaa", sum := "72e037c4557d44063179382674342a9b44ed9ac242f2be4c05c68147881209fc", checked := Try.checked }
namespace Rows
def none {H : Type} : Left H := { results := [], args := [] }

/-- 'catchwordlaw13.ShelfTells': WHATEVER THE INPUT: true; the input reads as it did. -/
def shelfTellsSpec : ChangeSpec := { name := "shelfTells", fn := fun _ => fun
  | [d1, d2, d3] => { results := [.lit (.bool true)], args := [d1, d2, d3] }
  | _ => none }
def shelfTellsRow : OpenClaim := { program := "ythcihkgopmmolaa", sum := "72e037c4557d44063179382674342a9b44ed9ac242f2be4c05c68147881209fc", func := "catchword/catchwordlaw13.ShelfTells", spec := "shelfTells", inPlace := ["internal/bytealg.abigen_runtime_cmpstring", "slices.overlaps[catchword/api.Card]"], unfollowed := true, recurses := true, apart := false }
def ShelfTellsSaid : Prop := shelfTellsRow.holds Try.pinned (OpenSpec.ofChange shelfTellsSpec)

/-- ITS FALSE NEIGHBOUR: 'it returns false'. Refute it at one input. -/
def shelfTellsWrong : ChangeSpec := { name := "shelfTells", fn := fun _ => fun
  | [d1, d2, d3] => { results := [.lit (.bool false)], args := [d1, d2, d3] }
  | _ => none }
def ShelfTellsWrongFalsely : Prop := shelfTellsRow.holds Try.pinned (OpenSpec.ofChange shelfTellsWrong)

/-- 'catchwordlaw13.ShelfDoes': WHATEVER THE INPUT: true; the input reads as it did. -/
def shelfDoesSpec : ChangeSpec := { name := "shelfDoes", fn := fun _ => fun
  | [d1, d2, d3] => { results := [.lit (.bool true)], args := [d1, d2, d3] }
  | _ => none }
def shelfDoesRow : OpenClaim := { program := "ythcihkgopmmolaa", sum := "72e037c4557d44063179382674342a9b44ed9ac242f2be4c05c68147881209fc", func := "catchword/catchwordlaw13.ShelfDoes", spec := "shelfDoes", inPlace := ["internal/bytealg.abigen_runtime_cmpstring", "slices.overlaps[catchword/api.Card]"], unfollowed := true, recurses := true, apart := false }
def ShelfDoesSaid : Prop := shelfDoesRow.holds Try.pinned (OpenSpec.ofChange shelfDoesSpec)

/-- ITS FALSE NEIGHBOUR: 'it returns false'. Refute it at one input. -/
def shelfDoesWrong : ChangeSpec := { name := "shelfDoes", fn := fun _ => fun
  | [d1, d2, d3] => { results := [.lit (.bool false)], args := [d1, d2, d3] }
  | _ => none }
def ShelfDoesWrongFalsely : Prop := shelfDoesRow.holds Try.pinned (OpenSpec.ofChange shelfDoesWrong)

/-- 'catchwordlaw13.ShelfPuts': WHATEVER THE INPUT: true; the input reads as it did. -/
def shelfPutsSpec : ChangeSpec := { name := "shelfPuts", fn := fun _ => fun
  | [d1, d2, d3] => { results := [.lit (.bool true)], args := [d1, d2, d3] }
  | _ => none }
def shelfPutsRow : OpenClaim := { program := "ythcihkgopmmolaa", sum := "72e037c4557d44063179382674342a9b44ed9ac242f2be4c05c68147881209fc", func := "catchword/catchwordlaw13.ShelfPuts", spec := "shelfPuts", inPlace := ["internal/bytealg.abigen_runtime_cmpstring", "slices.overlaps[catchword/api.Card]"], unfollowed := true, recurses := true, apart := false }
def ShelfPutsSaid : Prop := shelfPutsRow.holds Try.pinned (OpenSpec.ofChange shelfPutsSpec)

/-- ITS FALSE NEIGHBOUR: 'it returns false'. Refute it at one input. -/
def shelfPutsWrong : ChangeSpec := { name := "shelfPuts", fn := fun _ => fun
  | [d1, d2, d3] => { results := [.lit (.bool false)], args := [d1, d2, d3] }
  | _ => none }
def ShelfPutsWrongFalsely : Prop := shelfPutsRow.holds Try.pinned (OpenSpec.ofChange shelfPutsWrong)

/-- 'catchwordlaw13.ShelfOrder': WHATEVER THE INPUT: true; the input reads as it did. -/
def shelfOrderSpec : ChangeSpec := { name := "shelfOrder", fn := fun _ => fun
  | [d1, d2, d3] => { results := [.lit (.bool true)], args := [d1, d2, d3] }
  | _ => none }
def shelfOrderRow : OpenClaim := { program := "ythcihkgopmmolaa", sum := "72e037c4557d44063179382674342a9b44ed9ac242f2be4c05c68147881209fc", func := "catchword/catchwordlaw13.ShelfOrder", spec := "shelfOrder", inPlace := ["internal/bytealg.abigen_runtime_cmpstring", "slices.overlaps[catchword/api.Card]"], unfollowed := true, recurses := true, apart := false }
def ShelfOrderSaid : Prop := shelfOrderRow.holds Try.pinned (OpenSpec.ofChange shelfOrderSpec)

/-- ITS FALSE NEIGHBOUR: 'it returns false'. Refute it at one input. -/
def shelfOrderWrong : ChangeSpec := { name := "shelfOrder", fn := fun _ => fun
  | [d1, d2, d3] => { results := [.lit (.bool false)], args := [d1, d2, d3] }
  | _ => none }
def ShelfOrderWrongFalsely : Prop := shelfOrderRow.holds Try.pinned (OpenSpec.ofChange shelfOrderWrong)

/-- 'catchwordlaw13.ShelfKeys': WHATEVER THE INPUT: true; the input reads as it did. -/
def shelfKeysSpec : ChangeSpec := { name := "shelfKeys", fn := fun _ => fun
  | [d] => { results := [.lit (.bool true)], args := [d] }
  | _ => none }
def shelfKeysRow : OpenClaim := { program := "ythcihkgopmmolaa", sum := "72e037c4557d44063179382674342a9b44ed9ac242f2be4c05c68147881209fc", func := "catchword/catchwordlaw13.ShelfKeys", spec := "shelfKeys", inPlace := ["internal/bytealg.abigen_runtime_cmpstring", "slices.overlaps[catchword/api.Card]"], unfollowed := true, recurses := true, apart := false }
def ShelfKeysSaid : Prop := shelfKeysRow.holds Try.pinned (OpenSpec.ofChange shelfKeysSpec)

/-- ITS FALSE NEIGHBOUR: 'it returns false'. Refute it at one input. -/
def shelfKeysWrong : ChangeSpec := { name := "shelfKeys", fn := fun _ => fun
  | [d] => { results := [.lit (.bool false)], args := [d] }
  | _ => none }
def ShelfKeysWrongFalsely : Prop := shelfKeysRow.holds Try.pinned (OpenSpec.ofChange shelfKeysWrong)

/-- 'catchwordlaw13.ShelfStays': WHATEVER THE INPUT: true; the input reads as it did. -/
def shelfStaysSpec : ChangeSpec := { name := "shelfStays", fn := fun _ => fun
  | [d1, d2, d3] => { results := [.lit (.bool true)], args := [d1, d2, d3] }
  | _ => none }
def shelfStaysRow : OpenClaim := { program := "ythcihkgopmmolaa", sum := "72e037c4557d44063179382674342a9b44ed9ac242f2be4c05c68147881209fc", func := "catchword/catchwordlaw13.ShelfStays", spec := "shelfStays", inPlace := ["internal/bytealg.abigen_runtime_cmpstring", "slices.overlaps[catchword/api.Card]"], unfollowed := true, recurses := true, apart := false }
def ShelfStaysSaid : Prop := shelfStaysRow.holds Try.pinned (OpenSpec.ofChange shelfStaysSpec)

/-- ITS FALSE NEIGHBOUR: 'it returns false'. Refute it at one input. -/
def shelfStaysWrong : ChangeSpec := { name := "shelfStays", fn := fun _ => fun
  | [d1, d2, d3] => { results := [.lit (.bool false)], args := [d1, d2, d3] }
  | _ => none }
def ShelfStaysWrongFalsely : Prop := shelfStaysRow.holds Try.pinned (OpenSpec.ofChange shelfStaysWrong)

/- THE SECOND FORM. 'bulk': how many values and letters a reading holds, each counted each time it is reached (what is shared counts as often as it is met; a slice's spare places count too). A statement '..UptoSaid' is the law's where the arguments, and the package variables that the reading takes, are together of bulk at most 1048576: NARROWER than '..Said'. Prove '..Said' where nothing that the law and all that it calls make is longer than what came in: it says more and counts as full. Else prove '..UptoSaid'. A law counts once. -/
mutual
def uptoBulk {H : Type} : DataW H → Nat
  | .lit (.string bytes) => bytes.length + 1
  | .lit _ => 1
  | .nil => 1
  | .ptr d => uptoBulk d + 1
  | .slice elems spare => uptoBulkAll elems + uptoBulkAll spare + 1
  | .agg parts => uptoBulkAll parts + 1
  | .iface _ d => uptoBulk d + 1
  | .map entries => uptoBulkEntries entries + 1
  | .held _ => 1
def uptoBulkAll {H : Type} : List (DataW H) → Nat
  | [] => 0
  | d :: r => uptoBulk d + uptoBulkAll r
def uptoBulkEntries {H : Type} : List (Lit × DataW H) → Nat
  | [] => 0
  | x :: r => uptoBulkEntry x + uptoBulkEntries r
def uptoBulkEntry {H : Type} : Lit × DataW H → Nat
  | (.string bytes, d) => bytes.length + uptoBulk d + 1
  | (_, d) => uptoBulk d + 1
 end
def uptoSmall : (H : Type) → List (DataW H) → Bool := fun _ ds => decide (uptoBulkAll ds ≤ 1048576)
def OpenSpec.upto (s : _root_.Go.ChangeSpec) : _root_.Go.OpenSpec := { _root_.Go.OpenSpec.ofChange s with cond := some uptoSmall }

/-- 'catchwordlaw13.ShelfTells', WHERE WHAT IT READS IS OF BULK AT MOST 1048576: true; the input reads as it did. -/
def shelfTellsUptoRow : OpenClaim := { program := "ythcihkgopmmolaa", sum := "72e037c4557d44063179382674342a9b44ed9ac242f2be4c05c68147881209fc", func := "catchword/catchwordlaw13.ShelfTells", spec := "shelfTells", inPlace := ["internal/bytealg.abigen_runtime_cmpstring", "slices.overlaps[catchword/api.Card]"], unfollowed := true, recurses := true, apart := false, narrowed := true }
def ShelfTellsUptoSaid : Prop := shelfTellsUptoRow.holds Try.pinned (OpenSpec.upto shelfTellsSpec)

/-- 'catchwordlaw13.ShelfDoes', WHERE WHAT IT READS IS OF BULK AT MOST 1048576: true; the input reads as it did. -/
def shelfDoesUptoRow : OpenClaim := { program := "ythcihkgopmmolaa", sum := "72e037c4557d44063179382674342a9b44ed9ac242f2be4c05c68147881209fc", func := "catchword/catchwordlaw13.ShelfDoes", spec := "shelfDoes", inPlace := ["internal/bytealg.abigen_runtime_cmpstring", "slices.overlaps[catchword/api.Card]"], unfollowed := true, recurses := true, apart := false, narrowed := true }
def ShelfDoesUptoSaid : Prop := shelfDoesUptoRow.holds Try.pinned (OpenSpec.upto shelfDoesSpec)

/-- 'catchwordlaw13.ShelfPuts', WHERE WHAT IT READS IS OF BULK AT MOST 1048576: true; the input reads as it did. -/
def shelfPutsUptoRow : OpenClaim := { program := "ythcihkgopmmolaa", sum := "72e037c4557d44063179382674342a9b44ed9ac242f2be4c05c68147881209fc", func := "catchword/catchwordlaw13.ShelfPuts", spec := "shelfPuts", inPlace := ["internal/bytealg.abigen_runtime_cmpstring", "slices.overlaps[catchword/api.Card]"], unfollowed := true, recurses := true, apart := false, narrowed := true }
def ShelfPutsUptoSaid : Prop := shelfPutsUptoRow.holds Try.pinned (OpenSpec.upto shelfPutsSpec)

/-- 'catchwordlaw13.ShelfOrder', WHERE WHAT IT READS IS OF BULK AT MOST 1048576: true; the input reads as it did. -/
def shelfOrderUptoRow : OpenClaim := { program := "ythcihkgopmmolaa", sum := "72e037c4557d44063179382674342a9b44ed9ac242f2be4c05c68147881209fc", func := "catchword/catchwordlaw13.ShelfOrder", spec := "shelfOrder", inPlace := ["internal/bytealg.abigen_runtime_cmpstring", "slices.overlaps[catchword/api.Card]"], unfollowed := true, recurses := true, apart := false, narrowed := true }
def ShelfOrderUptoSaid : Prop := shelfOrderUptoRow.holds Try.pinned (OpenSpec.upto shelfOrderSpec)

/-- 'catchwordlaw13.ShelfKeys', WHERE WHAT IT READS IS OF BULK AT MOST 1048576: true; the input reads as it did. -/
def shelfKeysUptoRow : OpenClaim := { program := "ythcihkgopmmolaa", sum := "72e037c4557d44063179382674342a9b44ed9ac242f2be4c05c68147881209fc", func := "catchword/catchwordlaw13.ShelfKeys", spec := "shelfKeys", inPlace := ["internal/bytealg.abigen_runtime_cmpstring", "slices.overlaps[catchword/api.Card]"], unfollowed := true, recurses := true, apart := false, narrowed := true }
def ShelfKeysUptoSaid : Prop := shelfKeysUptoRow.holds Try.pinned (OpenSpec.upto shelfKeysSpec)

/-- 'catchwordlaw13.ShelfStays', WHERE WHAT IT READS IS OF BULK AT MOST 1048576: true; the input reads as it did. -/
def shelfStaysUptoRow : OpenClaim := { program := "ythcihkgopmmolaa", sum := "72e037c4557d44063179382674342a9b44ed9ac242f2be4c05c68147881209fc", func := "catchword/catchwordlaw13.ShelfStays", spec := "shelfStays", inPlace := ["internal/bytealg.abigen_runtime_cmpstring", "slices.overlaps[catchword/api.Card]"], unfollowed := true, recurses := true, apart := false, narrowed := true }
def ShelfStaysUptoSaid : Prop := shelfStaysUptoRow.holds Try.pinned (OpenSpec.upto shelfStaysSpec)

end Rows
end Go.Proofs.Ythcihkgopmmolaa
