/-
  No cell of these rows narrows 'for every input' (looked for: loops, veiled, ifaces, maps, wideKeys, modest, calm, conditions, laid).
  DERIVED. THE GIVEN ROWS OF THIS SEAT. 11 by the template 'for every input the law returns true; each argument reads behind the call as it read before'; 0 by the template 'total and deterministic' (their statements: YthpnnkoaomekfaaTotals.lean).
  GIVEN WITH THE SEED: the statements are not yours to turn. If you find one false, say at which input.
  Laid BY PROGRAM, IN A SANDBOX (cutbox-rows.mjs): the forced cells as the released guide's own fill.sh prints them over the translation 9a145a9f0b380014… (all of the seat's roots in one cut). By AI agents, Wed Nov 11 2026. No macro, syntax, notation, axiom, sorry.
-/
import Derived.Test.YthpnnkoaomekfaaChecked
import GoSem.Claim
import GoSem.ClaimJoined
import GoSem.ClaimMapViews
import Derived.JoinedTies
import Derived.KernelRfl
namespace Go.Proofs.Ythpnnkoaomekfaa
/- THE CELL 'sum', in the pinned program and in every row, IS THE sha256 OF THE DUMP (.gsa) THAT YthpnnkoaomekfaaProg.lean LOADS. Nothing in Lean hashes anything: it is a label: what it is worth is what the hold of that sum in a sandbox is worth. -/
noncomputable def Try.pinned : Pinned := { name := "ythpnnkoaomekfaa", sum := "9a145a9f0b38001419193c7f366ab416028147520577a6a0f9625fa32be00d33", checked := Try.checked }
namespace Rows
def none {H : Type} : Left H := { results := [], args := [] }

/-- 'catchwordlaw12.PolicyTells': WHATEVER THE INPUT: true; the input reads as it did. -/
def policyTellsSpec : ChangeSpec := { name := "policyTells", fn := fun _ => fun
  | [d1, d2, d3] => { results := [.lit (.bool true)], args := [d1, d2, d3] }
  | _ => none }
def policyTellsRow : OpenClaim := { program := "ythpnnkoaomekfaa", sum := "9a145a9f0b38001419193c7f366ab416028147520577a6a0f9625fa32be00d33", func := "catchword/catchwordlaw12.PolicyTells", spec := "policyTells", unfollowed := true, recurses := true, plainKeys := false, apart := false }
def PolicyTellsSaid : Prop := policyTellsRow.holds Try.pinned (OpenSpec.ofChange policyTellsSpec)

/-- ITS FALSE NEIGHBOUR: 'it returns false'. Refute it at one input. -/
def policyTellsWrong : ChangeSpec := { name := "policyTells", fn := fun _ => fun
  | [d1, d2, d3] => { results := [.lit (.bool false)], args := [d1, d2, d3] }
  | _ => none }
def PolicyTellsWrongFalsely : Prop := policyTellsRow.holds Try.pinned (OpenSpec.ofChange policyTellsWrong)

/-- 'catchwordlaw12.PolicyIdle': WHATEVER THE INPUT: true; the input reads as it did. -/
def policyIdleSpec : ChangeSpec := { name := "policyIdle", fn := fun _ => fun
  | [d1, d2, d3] => { results := [.lit (.bool true)], args := [d1, d2, d3] }
  | _ => none }
def policyIdleRow : OpenClaim := { program := "ythpnnkoaomekfaa", sum := "9a145a9f0b38001419193c7f366ab416028147520577a6a0f9625fa32be00d33", func := "catchword/catchwordlaw12.PolicyIdle", spec := "policyIdle", unfollowed := true, recurses := true, plainKeys := false, apart := false }
def PolicyIdleSaid : Prop := policyIdleRow.holds Try.pinned (OpenSpec.ofChange policyIdleSpec)

/-- ITS FALSE NEIGHBOUR: 'it returns false'. Refute it at one input. -/
def policyIdleWrong : ChangeSpec := { name := "policyIdle", fn := fun _ => fun
  | [d1, d2, d3] => { results := [.lit (.bool false)], args := [d1, d2, d3] }
  | _ => none }
def PolicyIdleWrongFalsely : Prop := policyIdleRow.holds Try.pinned (OpenSpec.ofChange policyIdleWrong)

/-- 'catchwordlaw12.PolicyMost': WHATEVER THE INPUT: true; the input reads as it did. -/
def policyMostSpec : ChangeSpec := { name := "policyMost", fn := fun _ => fun
  | [d1, d2] => { results := [.lit (.bool true)], args := [d1, d2] }
  | _ => none }
def policyMostRow : OpenClaim := { program := "ythpnnkoaomekfaa", sum := "9a145a9f0b38001419193c7f366ab416028147520577a6a0f9625fa32be00d33", func := "catchword/catchwordlaw12.PolicyMost", spec := "policyMost", unfollowed := true, recurses := true, plainKeys := false, apart := false }
def PolicyMostSaid : Prop := policyMostRow.holds Try.pinned (OpenSpec.ofChange policyMostSpec)

/-- ITS FALSE NEIGHBOUR: 'it returns false'. Refute it at one input. -/
def policyMostWrong : ChangeSpec := { name := "policyMost", fn := fun _ => fun
  | [d1, d2] => { results := [.lit (.bool false)], args := [d1, d2] }
  | _ => none }
def PolicyMostWrongFalsely : Prop := policyMostRow.holds Try.pinned (OpenSpec.ofChange policyMostWrong)

/-- 'catchwordlaw12.PolicyEnds': WHATEVER THE INPUT: true; the input reads as it did. -/
def policyEndsSpec : ChangeSpec := { name := "policyEnds", fn := fun _ => fun
  | [d1, d2, d3] => { results := [.lit (.bool true)], args := [d1, d2, d3] }
  | _ => none }
def policyEndsRow : OpenClaim := { program := "ythpnnkoaomekfaa", sum := "9a145a9f0b38001419193c7f366ab416028147520577a6a0f9625fa32be00d33", func := "catchword/catchwordlaw12.PolicyEnds", spec := "policyEnds", unfollowed := true, recurses := true, plainKeys := false, apart := false }
def PolicyEndsSaid : Prop := policyEndsRow.holds Try.pinned (OpenSpec.ofChange policyEndsSpec)

/-- ITS FALSE NEIGHBOUR: 'it returns false'. Refute it at one input. -/
def policyEndsWrong : ChangeSpec := { name := "policyEnds", fn := fun _ => fun
  | [d1, d2, d3] => { results := [.lit (.bool false)], args := [d1, d2, d3] }
  | _ => none }
def PolicyEndsWrongFalsely : Prop := policyEndsRow.holds Try.pinned (OpenSpec.ofChange policyEndsWrong)

/-- 'catchwordlaw12.PolicyForce': WHATEVER THE INPUT: true; the input reads as it did. -/
def policyForceSpec : ChangeSpec := { name := "policyForce", fn := fun _ => fun
  | [d1, d2] => { results := [.lit (.bool true)], args := [d1, d2] }
  | _ => none }
def policyForceRow : OpenClaim := { program := "ythpnnkoaomekfaa", sum := "9a145a9f0b38001419193c7f366ab416028147520577a6a0f9625fa32be00d33", func := "catchword/catchwordlaw12.PolicyForce", spec := "policyForce", unfollowed := true, recurses := true, plainKeys := false, apart := false }
def PolicyForceSaid : Prop := policyForceRow.holds Try.pinned (OpenSpec.ofChange policyForceSpec)

/-- ITS FALSE NEIGHBOUR: 'it returns false'. Refute it at one input. -/
def policyForceWrong : ChangeSpec := { name := "policyForce", fn := fun _ => fun
  | [d1, d2] => { results := [.lit (.bool false)], args := [d1, d2] }
  | _ => none }
def PolicyForceWrongFalsely : Prop := policyForceRow.holds Try.pinned (OpenSpec.ofChange policyForceWrong)

/-- 'catchwordlaw12.PolicyKeeps': WHATEVER THE INPUT: true; the input reads as it did. -/
def policyKeepsSpec : ChangeSpec := { name := "policyKeeps", fn := fun _ => fun
  | [d1, d2] => { results := [.lit (.bool true)], args := [d1, d2] }
  | _ => none }
def policyKeepsRow : OpenClaim := { program := "ythpnnkoaomekfaa", sum := "9a145a9f0b38001419193c7f366ab416028147520577a6a0f9625fa32be00d33", func := "catchword/catchwordlaw12.PolicyKeeps", spec := "policyKeeps", unfollowed := true, recurses := true, plainKeys := false, apart := false }
def PolicyKeepsSaid : Prop := policyKeepsRow.holds Try.pinned (OpenSpec.ofChange policyKeepsSpec)

/-- ITS FALSE NEIGHBOUR: 'it returns false'. Refute it at one input. -/
def policyKeepsWrong : ChangeSpec := { name := "policyKeeps", fn := fun _ => fun
  | [d1, d2] => { results := [.lit (.bool false)], args := [d1, d2] }
  | _ => none }
def PolicyKeepsWrongFalsely : Prop := policyKeepsRow.holds Try.pinned (OpenSpec.ofChange policyKeepsWrong)

/-- 'catchwordlaw08.SegBuilds': WHATEVER THE INPUT: true; the input reads as it did. -/
def segBuildsSpec : ChangeSpec := { name := "segBuilds", fn := fun _ => fun
  | [d1, d2, d3, d4] => { results := [.lit (.bool true)], args := [d1, d2, d3, d4] }
  | _ => none }
def segBuildsRow : OpenClaim := { program := "ythpnnkoaomekfaa", sum := "9a145a9f0b38001419193c7f366ab416028147520577a6a0f9625fa32be00d33", func := "catchword/catchwordlaw08.SegBuilds", spec := "segBuilds", inPlace := ["internal/bytealg.abigen_runtime_cmpstring"], unfollowed := true, recurses := true, plainKeys := false, apart := false }
def SegBuildsSaid : Prop := segBuildsRow.holds Try.pinned (OpenSpec.ofChange segBuildsSpec)

/-- ITS FALSE NEIGHBOUR: 'it returns false'. Refute it at one input. -/
def segBuildsWrong : ChangeSpec := { name := "segBuilds", fn := fun _ => fun
  | [d1, d2, d3, d4] => { results := [.lit (.bool false)], args := [d1, d2, d3, d4] }
  | _ => none }
def SegBuildsWrongFalsely : Prop := segBuildsRow.holds Try.pinned (OpenSpec.ofChange segBuildsWrong)

/-- 'catchwordlaw08.SegBack': WHATEVER THE INPUT: true; the input reads as it did. -/
def segBackSpec : ChangeSpec := { name := "segBack", fn := fun _ => fun
  | [d1, d2] => { results := [.lit (.bool true)], args := [d1, d2] }
  | _ => none }
def segBackRow : OpenClaim := { program := "ythpnnkoaomekfaa", sum := "9a145a9f0b38001419193c7f366ab416028147520577a6a0f9625fa32be00d33", func := "catchword/catchwordlaw08.SegBack", spec := "segBack", inPlace := ["internal/bytealg.abigen_runtime_cmpstring"], unfollowed := true, recurses := true, plainKeys := false, apart := false }
def SegBackSaid : Prop := segBackRow.holds Try.pinned (OpenSpec.ofChange segBackSpec)

/-- ITS FALSE NEIGHBOUR: 'it returns false'. Refute it at one input. -/
def segBackWrong : ChangeSpec := { name := "segBack", fn := fun _ => fun
  | [d1, d2] => { results := [.lit (.bool false)], args := [d1, d2] }
  | _ => none }
def SegBackWrongFalsely : Prop := segBackRow.holds Try.pinned (OpenSpec.ofChange segBackWrong)

/-- 'catchwordlaw08.SegHas': WHATEVER THE INPUT: true; the input reads as it did. -/
def segHasSpec : ChangeSpec := { name := "segHas", fn := fun _ => fun
  | [d1, d2, d3, d4] => { results := [.lit (.bool true)], args := [d1, d2, d3, d4] }
  | _ => none }
def segHasRow : OpenClaim := { program := "ythpnnkoaomekfaa", sum := "9a145a9f0b38001419193c7f366ab416028147520577a6a0f9625fa32be00d33", func := "catchword/catchwordlaw08.SegHas", spec := "segHas", inPlace := ["internal/bytealg.abigen_runtime_cmpstring"], unfollowed := true, recurses := true, plainKeys := false, apart := false }
def SegHasSaid : Prop := segHasRow.holds Try.pinned (OpenSpec.ofChange segHasSpec)

/-- ITS FALSE NEIGHBOUR: 'it returns false'. Refute it at one input. -/
def segHasWrong : ChangeSpec := { name := "segHas", fn := fun _ => fun
  | [d1, d2, d3, d4] => { results := [.lit (.bool false)], args := [d1, d2, d3, d4] }
  | _ => none }
def SegHasWrongFalsely : Prop := segHasRow.holds Try.pinned (OpenSpec.ofChange segHasWrong)

/-- 'catchwordlaw08.SegOrder': WHATEVER THE INPUT: true; the input reads as it did. -/
def segOrderSpec : ChangeSpec := { name := "segOrder", fn := fun _ => fun
  | [d1, d2, d3] => { results := [.lit (.bool true)], args := [d1, d2, d3] }
  | _ => none }
def segOrderRow : OpenClaim := { program := "ythpnnkoaomekfaa", sum := "9a145a9f0b38001419193c7f366ab416028147520577a6a0f9625fa32be00d33", func := "catchword/catchwordlaw08.SegOrder", spec := "segOrder", inPlace := ["internal/bytealg.abigen_runtime_cmpstring"], unfollowed := true, recurses := true, plainKeys := false, apart := false }
def SegOrderSaid : Prop := segOrderRow.holds Try.pinned (OpenSpec.ofChange segOrderSpec)

/-- ITS FALSE NEIGHBOUR: 'it returns false'. Refute it at one input. -/
def segOrderWrong : ChangeSpec := { name := "segOrder", fn := fun _ => fun
  | [d1, d2, d3] => { results := [.lit (.bool false)], args := [d1, d2, d3] }
  | _ => none }
def SegOrderWrongFalsely : Prop := segOrderRow.holds Try.pinned (OpenSpec.ofChange segOrderWrong)

/-- 'catchwordlaw17.PhraseWords': WHATEVER THE INPUT: true; the input reads as it did. -/
def phraseWordsSpec : ChangeSpec := { name := "phraseWords", fn := fun _ => fun
  | [d1, d2, d3, d4] => { results := [.lit (.bool true)], args := [d1, d2, d3, d4] }
  | _ => none }
def phraseWordsRow : OpenClaim := { program := "ythpnnkoaomekfaa", sum := "9a145a9f0b38001419193c7f366ab416028147520577a6a0f9625fa32be00d33", func := "catchword/catchwordlaw17.PhraseWords", spec := "phraseWords", inPlace := ["internal/bytealg.abigen_runtime_cmpstring"], unfollowed := true, recurses := true, plainKeys := false, apart := false }
def PhraseWordsSaid : Prop := phraseWordsRow.holds Try.pinned (OpenSpec.ofChange phraseWordsSpec)

/-- ITS FALSE NEIGHBOUR: 'it returns false'. Refute it at one input. -/
def phraseWordsWrong : ChangeSpec := { name := "phraseWords", fn := fun _ => fun
  | [d1, d2, d3, d4] => { results := [.lit (.bool false)], args := [d1, d2, d3, d4] }
  | _ => none }
def PhraseWordsWrongFalsely : Prop := phraseWordsRow.holds Try.pinned (OpenSpec.ofChange phraseWordsWrong)

/- THE SECOND FORM. 'bulk': how many values and letters a reading holds, each counted each time it is reached (what is shared counts as often as it is met; a slice's spare places count too). A statement '..UptoSaid' is the law's where the arguments, and the package variables that the reading takes, are together of bulk at most 1048576: NARROWER than '..Said'. Prove '..Said' where nothing that the law and all that it calls make is longer than what came in: it says more and counts as full. Else prove '..UptoSaid'. A law counts once. -/
mutual
def uptoBulk {H : Type} : DataW H → Nat
  | .lit (.string bytes) => bytes.length + 1
  | .lit _ => 1
  | .nil => 1
  | .ptr d => uptoBulk d + 1
  | .slice elems spare => uptoBulkAll elems + uptoBulkAll spare + 1
  | .agg parts => uptoBulkAll parts + 1
  | .iface _ d => uptoBulk d + 1
  | .map entries => uptoBulkEntries entries + 1
  | .held _ => 1
def uptoBulkAll {H : Type} : List (DataW H) → Nat
  | [] => 0
  | d :: r => uptoBulk d + uptoBulkAll r
def uptoBulkEntries {H : Type} : List (Lit × DataW H) → Nat
  | [] => 0
  | x :: r => uptoBulkEntry x + uptoBulkEntries r
def uptoBulkEntry {H : Type} : Lit × DataW H → Nat
  | (.string bytes, d) => bytes.length + uptoBulk d + 1
  | (_, d) => uptoBulk d + 1
 end
def uptoSmall : (H : Type) → List (DataW H) → Bool := fun _ ds => decide (uptoBulkAll ds ≤ 1048576)
def OpenSpec.upto (s : _root_.Go.ChangeSpec) : _root_.Go.OpenSpec := { _root_.Go.OpenSpec.ofChange s with cond := some uptoSmall }

/-- 'catchwordlaw12.PolicyTells', WHERE WHAT IT READS IS OF BULK AT MOST 1048576: true; the input reads as it did. -/
def policyTellsUptoRow : OpenClaim := { program := "ythpnnkoaomekfaa", sum := "9a145a9f0b38001419193c7f366ab416028147520577a6a0f9625fa32be00d33", func := "catchword/catchwordlaw12.PolicyTells", spec := "policyTells", unfollowed := true, recurses := true, plainKeys := false, apart := false, narrowed := true }
def PolicyTellsUptoSaid : Prop := policyTellsUptoRow.holds Try.pinned (OpenSpec.upto policyTellsSpec)

/-- 'catchwordlaw12.PolicyIdle', WHERE WHAT IT READS IS OF BULK AT MOST 1048576: true; the input reads as it did. -/
def policyIdleUptoRow : OpenClaim := { program := "ythpnnkoaomekfaa", sum := "9a145a9f0b38001419193c7f366ab416028147520577a6a0f9625fa32be00d33", func := "catchword/catchwordlaw12.PolicyIdle", spec := "policyIdle", unfollowed := true, recurses := true, plainKeys := false, apart := false, narrowed := true }
def PolicyIdleUptoSaid : Prop := policyIdleUptoRow.holds Try.pinned (OpenSpec.upto policyIdleSpec)

/-- 'catchwordlaw12.PolicyMost', WHERE WHAT IT READS IS OF BULK AT MOST 1048576: true; the input reads as it did. -/
def policyMostUptoRow : OpenClaim := { program := "ythpnnkoaomekfaa", sum := "9a145a9f0b38001419193c7f366ab416028147520577a6a0f9625fa32be00d33", func := "catchword/catchwordlaw12.PolicyMost", spec := "policyMost", unfollowed := true, recurses := true, plainKeys := false, apart := false, narrowed := true }
def PolicyMostUptoSaid : Prop := policyMostUptoRow.holds Try.pinned (OpenSpec.upto policyMostSpec)

/-- 'catchwordlaw12.PolicyEnds', WHERE WHAT IT READS IS OF BULK AT MOST 1048576: true; the input reads as it did. -/
def policyEndsUptoRow : OpenClaim := { program := "ythpnnkoaomekfaa", sum := "9a145a9f0b38001419193c7f366ab416028147520577a6a0f9625fa32be00d33", func := "catchword/catchwordlaw12.PolicyEnds", spec := "policyEnds", unfollowed := true, recurses := true, plainKeys := false, apart := false, narrowed := true }
def PolicyEndsUptoSaid : Prop := policyEndsUptoRow.holds Try.pinned (OpenSpec.upto policyEndsSpec)

/-- 'catchwordlaw12.PolicyForce', WHERE WHAT IT READS IS OF BULK AT MOST 1048576: true; the input reads as it did. -/
def policyForceUptoRow : OpenClaim := { program := "ythpnnkoaomekfaa", sum := "9a145a9f0b38001419193c7f366ab416028147520577a6a0f9625fa32be00d33", func := "catchword/catchwordlaw12.PolicyForce", spec := "policyForce", unfollowed := true, recurses := true, plainKeys := false, apart := false, narrowed := true }
def PolicyForceUptoSaid : Prop := policyForceUptoRow.holds Try.pinned (OpenSpec.upto policyForceSpec)

/-- 'catchwordlaw12.PolicyKeeps', WHERE WHAT IT READS IS OF BULK AT MOST 1048576: true; the input reads as it did. -/
def policyKeepsUptoRow : OpenClaim := { program := "ythpnnkoaomekfaa", sum := "9a145a9f0b38001419193c7f366ab416028147520577a6a0f9625fa32be00d33", func := "catchword/catchwordlaw12.PolicyKeeps", spec := "policyKeeps", unfollowed := true, recurses := true, plainKeys := false, apart := false, narrowed := true }
def PolicyKeepsUptoSaid : Prop := policyKeepsUptoRow.holds Try.pinned (OpenSpec.upto policyKeepsSpec)

/-- 'catchwordlaw08.SegBuilds', WHERE WHAT IT READS IS OF BULK AT MOST 1048576: true; the input reads as it did. -/
def segBuildsUptoRow : OpenClaim := { program := "ythpnnkoaomekfaa", sum := "9a145a9f0b38001419193c7f366ab416028147520577a6a0f9625fa32be00d33", func := "catchword/catchwordlaw08.SegBuilds", spec := "segBuilds", inPlace := ["internal/bytealg.abigen_runtime_cmpstring"], unfollowed := true, recurses := true, plainKeys := false, apart := false, narrowed := true }
def SegBuildsUptoSaid : Prop := segBuildsUptoRow.holds Try.pinned (OpenSpec.upto segBuildsSpec)

/-- 'catchwordlaw08.SegBack', WHERE WHAT IT READS IS OF BULK AT MOST 1048576: true; the input reads as it did. -/
def segBackUptoRow : OpenClaim := { program := "ythpnnkoaomekfaa", sum := "9a145a9f0b38001419193c7f366ab416028147520577a6a0f9625fa32be00d33", func := "catchword/catchwordlaw08.SegBack", spec := "segBack", inPlace := ["internal/bytealg.abigen_runtime_cmpstring"], unfollowed := true, recurses := true, plainKeys := false, apart := false, narrowed := true }
def SegBackUptoSaid : Prop := segBackUptoRow.holds Try.pinned (OpenSpec.upto segBackSpec)

/-- 'catchwordlaw08.SegHas', WHERE WHAT IT READS IS OF BULK AT MOST 1048576: true; the input reads as it did. -/
def segHasUptoRow : OpenClaim := { program := "ythpnnkoaomekfaa", sum := "9a145a9f0b38001419193c7f366ab416028147520577a6a0f9625fa32be00d33", func := "catchword/catchwordlaw08.SegHas", spec := "segHas", inPlace := ["internal/bytealg.abigen_runtime_cmpstring"], unfollowed := true, recurses := true, plainKeys := false, apart := false, narrowed := true }
def SegHasUptoSaid : Prop := segHasUptoRow.holds Try.pinned (OpenSpec.upto segHasSpec)

/-- 'catchwordlaw08.SegOrder', WHERE WHAT IT READS IS OF BULK AT MOST 1048576: true; the input reads as it did. -/
def segOrderUptoRow : OpenClaim := { program := "ythpnnkoaomekfaa", sum := "9a145a9f0b38001419193c7f366ab416028147520577a6a0f9625fa32be00d33", func := "catchword/catchwordlaw08.SegOrder", spec := "segOrder", inPlace := ["internal/bytealg.abigen_runtime_cmpstring"], unfollowed := true, recurses := true, plainKeys := false, apart := false, narrowed := true }
def SegOrderUptoSaid : Prop := segOrderUptoRow.holds Try.pinned (OpenSpec.upto segOrderSpec)

/-- 'catchwordlaw17.PhraseWords', WHERE WHAT IT READS IS OF BULK AT MOST 1048576: true; the input reads as it did. -/
def phraseWordsUptoRow : OpenClaim := { program := "ythpnnkoaomekfaa", sum := "9a145a9f0b38001419193c7f366ab416028147520577a6a0f9625fa32be00d33", func := "catchword/catchwordlaw17.PhraseWords", spec := "phraseWords", inPlace := ["internal/bytealg.abigen_runtime_cmpstring"], unfollowed := true, recurses := true, plainKeys := false, apart := false, narrowed := true }
def PhraseWordsUptoSaid : Prop := phraseWordsUptoRow.holds Try.pinned (OpenSpec.upto phraseWordsSpec)

end Rows
end Go.Proofs.Ythpnnkoaomekfaa
