/-
  No cell of these rows narrows 'for every input' (looked for: loops, veiled, ifaces, maps, wideKeys, modest, calm, conditions, laid).
  DERIVED. THE GIVEN ROWS OF THIS SEAT. 11 by the template 'for every input the law returns true; each argument reads behind the call as it read before'; 0 by the template 'total and deterministic' (their statements: YtbodcpinpomobaaTotals.lean).
  GIVEN WITH THE SEED: the statements are not yours to turn. If you find one false, say at which input.
  Laid BY PROGRAM, IN A SANDBOX (cutbox-rows.mjs): the forced cells as the released guide's own fill.sh prints them over the translation 0b15730fa482f661… (all of the seat's roots in one cut). By AI agents, Wed Nov 11 2026. No macro, syntax, notation, axiom, sorry.
-/
import Derived.Test.YtbodcpinpomobaaChecked
import GoSem.Claim
import GoSem.ClaimJoined
import GoSem.ClaimMapViews
import Derived.JoinedTies
import Derived.KernelRfl
namespace Go.Proofs.Ytbodcpinpomobaa
/- THE CELL 'sum', in the pinned program and in every row, IS THE sha256 OF THE DUMP (.gsa) THAT YtbodcpinpomobaaProg.lean LOADS. Nothing in Lean hashes anything: it is a label: what it is worth is what the hold of that sum in a sandbox is worth. -/
noncomputable def Try.pinned : Pinned := { name := "ytbodcpinpomobaa", sum := "0b15730fa482f661d31e685759df334319fc153fa1295fed9ec4824895d4ade4", checked := Try.checked }
namespace Rows
def none {H : Type} : Left H := { results := [], args := [] }

/-- 'catchwordlaw17.PhraseTells': WHATEVER THE INPUT: true; the input reads as it did. -/
def phraseTellsSpec : ChangeSpec := { name := "phraseTells", fn := fun _ => fun
  | [d] => { results := [.lit (.bool true)], args := [d] }
  | _ => none }
def phraseTellsRow : OpenClaim := { program := "ytbodcpinpomobaa", sum := "0b15730fa482f661d31e685759df334319fc153fa1295fed9ec4824895d4ade4", func := "catchword/catchwordlaw17.PhraseTells", spec := "phraseTells", unfollowed := true, recurses := true, apart := false }
def PhraseTellsSaid : Prop := phraseTellsRow.holds Try.pinned (OpenSpec.ofChange phraseTellsSpec)

/-- ITS FALSE NEIGHBOUR: 'it returns false'. Refute it at one input. -/
def phraseTellsWrong : ChangeSpec := { name := "phraseTells", fn := fun _ => fun
  | [d] => { results := [.lit (.bool false)], args := [d] }
  | _ => none }
def PhraseTellsWrongFalsely : Prop := phraseTellsRow.holds Try.pinned (OpenSpec.ofChange phraseTellsWrong)

/-- 'catchwordlaw17.PhraseParts': WHATEVER THE INPUT: true; the input reads as it did. -/
def phrasePartsSpec : ChangeSpec := { name := "phraseParts", fn := fun _ => fun
  | [d1, d2] => { results := [.lit (.bool true)], args := [d1, d2] }
  | _ => none }
def phrasePartsRow : OpenClaim := { program := "ytbodcpinpomobaa", sum := "0b15730fa482f661d31e685759df334319fc153fa1295fed9ec4824895d4ade4", func := "catchword/catchwordlaw17.PhraseParts", spec := "phraseParts", unfollowed := true, recurses := true, apart := false }
def PhrasePartsSaid : Prop := phrasePartsRow.holds Try.pinned (OpenSpec.ofChange phrasePartsSpec)

/-- ITS FALSE NEIGHBOUR: 'it returns false'. Refute it at one input. -/
def phrasePartsWrong : ChangeSpec := { name := "phraseParts", fn := fun _ => fun
  | [d1, d2] => { results := [.lit (.bool false)], args := [d1, d2] }
  | _ => none }
def PhrasePartsWrongFalsely : Prop := phrasePartsRow.holds Try.pinned (OpenSpec.ofChange phrasePartsWrong)

/-- 'catchwordlaw17.PhraseOne': WHATEVER THE INPUT: true; the input reads as it did. -/
def phraseOneSpec : ChangeSpec := { name := "phraseOne", fn := fun _ => fun
  | [d1, d2, d3] => { results := [.lit (.bool true)], args := [d1, d2, d3] }
  | _ => none }
def phraseOneRow : OpenClaim := { program := "ytbodcpinpomobaa", sum := "0b15730fa482f661d31e685759df334319fc153fa1295fed9ec4824895d4ade4", func := "catchword/catchwordlaw17.PhraseOne", spec := "phraseOne", unfollowed := true, recurses := true, apart := false }
def PhraseOneSaid : Prop := phraseOneRow.holds Try.pinned (OpenSpec.ofChange phraseOneSpec)

/-- ITS FALSE NEIGHBOUR: 'it returns false'. Refute it at one input. -/
def phraseOneWrong : ChangeSpec := { name := "phraseOne", fn := fun _ => fun
  | [d1, d2, d3] => { results := [.lit (.bool false)], args := [d1, d2, d3] }
  | _ => none }
def PhraseOneWrongFalsely : Prop := phraseOneRow.holds Try.pinned (OpenSpec.ofChange phraseOneWrong)

/-- 'catchwordlaw17.PhraseLess': WHATEVER THE INPUT: true; the input reads as it did. -/
def phraseLessSpec : ChangeSpec := { name := "phraseLess", fn := fun _ => fun
  | [d1, d2, d3] => { results := [.lit (.bool true)], args := [d1, d2, d3] }
  | _ => none }
def phraseLessRow : OpenClaim := { program := "ytbodcpinpomobaa", sum := "0b15730fa482f661d31e685759df334319fc153fa1295fed9ec4824895d4ade4", func := "catchword/catchwordlaw17.PhraseLess", spec := "phraseLess", unfollowed := true, recurses := true, apart := false }
def PhraseLessSaid : Prop := phraseLessRow.holds Try.pinned (OpenSpec.ofChange phraseLessSpec)

/-- ITS FALSE NEIGHBOUR: 'it returns false'. Refute it at one input. -/
def phraseLessWrong : ChangeSpec := { name := "phraseLess", fn := fun _ => fun
  | [d1, d2, d3] => { results := [.lit (.bool false)], args := [d1, d2, d3] }
  | _ => none }
def PhraseLessWrongFalsely : Prop := phraseLessRow.holds Try.pinned (OpenSpec.ofChange phraseLessWrong)

/-- 'catchwordlaw17.PhraseAlive': WHATEVER THE INPUT: true; the input reads as it did. -/
def phraseAliveSpec : ChangeSpec := { name := "phraseAlive", fn := fun _ => fun
  | [d1, d2, d3] => { results := [.lit (.bool true)], args := [d1, d2, d3] }
  | _ => none }
def phraseAliveRow : OpenClaim := { program := "ytbodcpinpomobaa", sum := "0b15730fa482f661d31e685759df334319fc153fa1295fed9ec4824895d4ade4", func := "catchword/catchwordlaw17.PhraseAlive", spec := "phraseAlive", unfollowed := true, recurses := true, apart := false }
def PhraseAliveSaid : Prop := phraseAliveRow.holds Try.pinned (OpenSpec.ofChange phraseAliveSpec)

/-- ITS FALSE NEIGHBOUR: 'it returns false'. Refute it at one input. -/
def phraseAliveWrong : ChangeSpec := { name := "phraseAlive", fn := fun _ => fun
  | [d1, d2, d3] => { results := [.lit (.bool false)], args := [d1, d2, d3] }
  | _ => none }
def PhraseAliveWrongFalsely : Prop := phraseAliveRow.holds Try.pinned (OpenSpec.ofChange phraseAliveWrong)

/-- 'catchwordlaw16.ListsTell': WHATEVER THE INPUT: true; the input reads as it did. -/
def listsTellSpec : ChangeSpec := { name := "listsTell", fn := fun _ => fun
  | [d1, d2, d3, d4, d5] => { results := [.lit (.bool true)], args := [d1, d2, d3, d4, d5] }
  | _ => none }
def listsTellRow : OpenClaim := { program := "ytbodcpinpomobaa", sum := "0b15730fa482f661d31e685759df334319fc153fa1295fed9ec4824895d4ade4", func := "catchword/catchwordlaw16.ListsTell", spec := "listsTell", unfollowed := true, recurses := true, apart := false }
def ListsTellSaid : Prop := listsTellRow.holds Try.pinned (OpenSpec.ofChange listsTellSpec)

/-- ITS FALSE NEIGHBOUR: 'it returns false'. Refute it at one input. -/
def listsTellWrong : ChangeSpec := { name := "listsTell", fn := fun _ => fun
  | [d1, d2, d3, d4, d5] => { results := [.lit (.bool false)], args := [d1, d2, d3, d4, d5] }
  | _ => none }
def ListsTellWrongFalsely : Prop := listsTellRow.holds Try.pinned (OpenSpec.ofChange listsTellWrong)

/-- 'catchwordlaw16.ListsAnd': WHATEVER THE INPUT: true; the input reads as it did. -/
def listsAndSpec : ChangeSpec := { name := "listsAnd", fn := fun _ => fun
  | [d1, d2, d3] => { results := [.lit (.bool true)], args := [d1, d2, d3] }
  | _ => none }
def listsAndRow : OpenClaim := { program := "ytbodcpinpomobaa", sum := "0b15730fa482f661d31e685759df334319fc153fa1295fed9ec4824895d4ade4", func := "catchword/catchwordlaw16.ListsAnd", spec := "listsAnd", unfollowed := true, recurses := true, apart := false }
def ListsAndSaid : Prop := listsAndRow.holds Try.pinned (OpenSpec.ofChange listsAndSpec)

/-- ITS FALSE NEIGHBOUR: 'it returns false'. Refute it at one input. -/
def listsAndWrong : ChangeSpec := { name := "listsAnd", fn := fun _ => fun
  | [d1, d2, d3] => { results := [.lit (.bool false)], args := [d1, d2, d3] }
  | _ => none }
def ListsAndWrongFalsely : Prop := listsAndRow.holds Try.pinned (OpenSpec.ofChange listsAndWrong)

/-- 'catchwordlaw16.ListsOr': WHATEVER THE INPUT: true; the input reads as it did. -/
def listsOrSpec : ChangeSpec := { name := "listsOr", fn := fun _ => fun
  | [d1, d2, d3] => { results := [.lit (.bool true)], args := [d1, d2, d3] }
  | _ => none }
def listsOrRow : OpenClaim := { program := "ytbodcpinpomobaa", sum := "0b15730fa482f661d31e685759df334319fc153fa1295fed9ec4824895d4ade4", func := "catchword/catchwordlaw16.ListsOr", spec := "listsOr", unfollowed := true, recurses := true, apart := false }
def ListsOrSaid : Prop := listsOrRow.holds Try.pinned (OpenSpec.ofChange listsOrSpec)

/-- ITS FALSE NEIGHBOUR: 'it returns false'. Refute it at one input. -/
def listsOrWrong : ChangeSpec := { name := "listsOr", fn := fun _ => fun
  | [d1, d2, d3] => { results := [.lit (.bool false)], args := [d1, d2, d3] }
  | _ => none }
def ListsOrWrongFalsely : Prop := listsOrRow.holds Try.pinned (OpenSpec.ofChange listsOrWrong)

/-- 'catchwordlaw16.ListsBut': WHATEVER THE INPUT: true; the input reads as it did. -/
def listsButSpec : ChangeSpec := { name := "listsBut", fn := fun _ => fun
  | [d1, d2, d3] => { results := [.lit (.bool true)], args := [d1, d2, d3] }
  | _ => none }
def listsButRow : OpenClaim := { program := "ytbodcpinpomobaa", sum := "0b15730fa482f661d31e685759df334319fc153fa1295fed9ec4824895d4ade4", func := "catchword/catchwordlaw16.ListsBut", spec := "listsBut", unfollowed := true, recurses := true, apart := false }
def ListsButSaid : Prop := listsButRow.holds Try.pinned (OpenSpec.ofChange listsButSpec)

/-- ITS FALSE NEIGHBOUR: 'it returns false'. Refute it at one input. -/
def listsButWrong : ChangeSpec := { name := "listsBut", fn := fun _ => fun
  | [d1, d2, d3] => { results := [.lit (.bool false)], args := [d1, d2, d3] }
  | _ => none }
def ListsButWrongFalsely : Prop := listsButRow.holds Try.pinned (OpenSpec.ofChange listsButWrong)

/-- 'catchwordlaw16.ListsFrom': WHATEVER THE INPUT: true; the input reads as it did. -/
def listsFromSpec : ChangeSpec := { name := "listsFrom", fn := fun _ => fun
  | [d1, d2, d3] => { results := [.lit (.bool true)], args := [d1, d2, d3] }
  | _ => none }
def listsFromRow : OpenClaim := { program := "ytbodcpinpomobaa", sum := "0b15730fa482f661d31e685759df334319fc153fa1295fed9ec4824895d4ade4", func := "catchword/catchwordlaw16.ListsFrom", spec := "listsFrom", unfollowed := true, recurses := true, apart := false }
def ListsFromSaid : Prop := listsFromRow.holds Try.pinned (OpenSpec.ofChange listsFromSpec)

/-- ITS FALSE NEIGHBOUR: 'it returns false'. Refute it at one input. -/
def listsFromWrong : ChangeSpec := { name := "listsFrom", fn := fun _ => fun
  | [d1, d2, d3] => { results := [.lit (.bool false)], args := [d1, d2, d3] }
  | _ => none }
def ListsFromWrongFalsely : Prop := listsFromRow.holds Try.pinned (OpenSpec.ofChange listsFromWrong)

/-- 'catchwordlaw16.ListsLaws': WHATEVER THE INPUT: true; the input reads as it did. -/
def listsLawsSpec : ChangeSpec := { name := "listsLaws", fn := fun _ => fun
  | [d1, d2, d3] => { results := [.lit (.bool true)], args := [d1, d2, d3] }
  | _ => none }
def listsLawsRow : OpenClaim := { program := "ytbodcpinpomobaa", sum := "0b15730fa482f661d31e685759df334319fc153fa1295fed9ec4824895d4ade4", func := "catchword/catchwordlaw16.ListsLaws", spec := "listsLaws", unfollowed := true, recurses := true, apart := false }
def ListsLawsSaid : Prop := listsLawsRow.holds Try.pinned (OpenSpec.ofChange listsLawsSpec)

/-- ITS FALSE NEIGHBOUR: 'it returns false'. Refute it at one input. -/
def listsLawsWrong : ChangeSpec := { name := "listsLaws", fn := fun _ => fun
  | [d1, d2, d3] => { results := [.lit (.bool false)], args := [d1, d2, d3] }
  | _ => none }
def ListsLawsWrongFalsely : Prop := listsLawsRow.holds Try.pinned (OpenSpec.ofChange listsLawsWrong)

/- THE SECOND FORM. 'bulk': how many values and letters a reading holds, each counted each time it is reached (what is shared counts as often as it is met; a slice's spare places count too). A statement '..UptoSaid' is the law's where the arguments, and the package variables that the reading takes, are together of bulk at most 1048576: NARROWER than '..Said'. Prove '..Said' where nothing that the law and all that it calls make is longer than what came in: it says more and counts as full. Else prove '..UptoSaid'. A law counts once. -/
mutual
def uptoBulk {H : Type} : DataW H → Nat
  | .lit (.string bytes) => bytes.length + 1
  | .lit _ => 1
  | .nil => 1
  | .ptr d => uptoBulk d + 1
  | .slice elems spare => uptoBulkAll elems + uptoBulkAll spare + 1
  | .agg parts => uptoBulkAll parts + 1
  | .iface _ d => uptoBulk d + 1
  | .map entries => uptoBulkEntries entries + 1
  | .held _ => 1
def uptoBulkAll {H : Type} : List (DataW H) → Nat
  | [] => 0
  | d :: r => uptoBulk d + uptoBulkAll r
def uptoBulkEntries {H : Type} : List (Lit × DataW H) → Nat
  | [] => 0
  | x :: r => uptoBulkEntry x + uptoBulkEntries r
def uptoBulkEntry {H : Type} : Lit × DataW H → Nat
  | (.string bytes, d) => bytes.length + uptoBulk d + 1
  | (_, d) => uptoBulk d + 1
 end
def uptoSmall : (H : Type) → List (DataW H) → Bool := fun _ ds => decide (uptoBulkAll ds ≤ 1048576)
def OpenSpec.upto (s : _root_.Go.ChangeSpec) : _root_.Go.OpenSpec := { _root_.Go.OpenSpec.ofChange s with cond := some uptoSmall }

/-- 'catchwordlaw17.PhraseTells', WHERE WHAT IT READS IS OF BULK AT MOST 1048576: true; the input reads as it did. -/
def phraseTellsUptoRow : OpenClaim := { program := "ytbodcpinpomobaa", sum := "0b15730fa482f661d31e685759df334319fc153fa1295fed9ec4824895d4ade4", func := "catchword/catchwordlaw17.PhraseTells", spec := "phraseTells", unfollowed := true, recurses := true, apart := false, narrowed := true }
def PhraseTellsUptoSaid : Prop := phraseTellsUptoRow.holds Try.pinned (OpenSpec.upto phraseTellsSpec)

/-- 'catchwordlaw17.PhraseParts', WHERE WHAT IT READS IS OF BULK AT MOST 1048576: true; the input reads as it did. -/
def phrasePartsUptoRow : OpenClaim := { program := "ytbodcpinpomobaa", sum := "0b15730fa482f661d31e685759df334319fc153fa1295fed9ec4824895d4ade4", func := "catchword/catchwordlaw17.PhraseParts", spec := "phraseParts", unfollowed := true, recurses := true, apart := false, narrowed := true }
def PhrasePartsUptoSaid : Prop := phrasePartsUptoRow.holds Try.pinned (OpenSpec.upto phrasePartsSpec)

/-- 'catchwordlaw17.PhraseOne', WHERE WHAT IT READS IS OF BULK AT MOST 1048576: true; the input reads as it did. -/
def phraseOneUptoRow : OpenClaim := { program := "ytbodcpinpomobaa", sum := "0b15730fa482f661d31e685759df334319fc153fa1295fed9ec4824895d4ade4", func := "catchword/catchwordlaw17.PhraseOne", spec := "phraseOne", unfollowed := true, recurses := true, apart := false, narrowed := true }
def PhraseOneUptoSaid : Prop := phraseOneUptoRow.holds Try.pinned (OpenSpec.upto phraseOneSpec)

/-- 'catchwordlaw17.PhraseLess', WHERE WHAT IT READS IS OF BULK AT MOST 1048576: true; the input reads as it did. -/
def phraseLessUptoRow : OpenClaim := { program := "ytbodcpinpomobaa", sum := "0b15730fa482f661d31e685759df334319fc153fa1295fed9ec4824895d4ade4", func := "catchword/catchwordlaw17.PhraseLess", spec := "phraseLess", unfollowed := true, recurses := true, apart := false, narrowed := true }
def PhraseLessUptoSaid : Prop := phraseLessUptoRow.holds Try.pinned (OpenSpec.upto phraseLessSpec)

/-- 'catchwordlaw17.PhraseAlive', WHERE WHAT IT READS IS OF BULK AT MOST 1048576: true; the input reads as it did. -/
def phraseAliveUptoRow : OpenClaim := { program := "ytbodcpinpomobaa", sum := "0b15730fa482f661d31e685759df334319fc153fa1295fed9ec4824895d4ade4", func := "catchword/catchwordlaw17.PhraseAlive", spec := "phraseAlive", unfollowed := true, recurses := true, apart := false, narrowed := true }
def PhraseAliveUptoSaid : Prop := phraseAliveUptoRow.holds Try.pinned (OpenSpec.upto phraseAliveSpec)

/-- 'catchwordlaw16.ListsTell', WHERE WHAT IT READS IS OF BULK AT MOST 1048576: true; the input reads as it did. -/
def listsTellUptoRow : OpenClaim := { program := "ytbodcpinpomobaa", sum := "0b15730fa482f661d31e685759df334319fc153fa1295fed9ec4824895d4ade4", func := "catchword/catchwordlaw16.ListsTell", spec := "listsTell", unfollowed := true, recurses := true, apart := false, narrowed := true }
def ListsTellUptoSaid : Prop := listsTellUptoRow.holds Try.pinned (OpenSpec.upto listsTellSpec)

/-- 'catchwordlaw16.ListsAnd', WHERE WHAT IT READS IS OF BULK AT MOST 1048576: true; the input reads as it did. -/
def listsAndUptoRow : OpenClaim := { program := "ytbodcpinpomobaa", sum := "0b15730fa482f661d31e685759df334319fc153fa1295fed9ec4824895d4ade4", func := "catchword/catchwordlaw16.ListsAnd", spec := "listsAnd", unfollowed := true, recurses := true, apart := false, narrowed := true }
def ListsAndUptoSaid : Prop := listsAndUptoRow.holds Try.pinned (OpenSpec.upto listsAndSpec)

/-- 'catchwordlaw16.ListsOr', WHERE WHAT IT READS IS OF BULK AT MOST 1048576: true; the input reads as it did. -/
def listsOrUptoRow : OpenClaim := { program := "ytbodcpinpomobaa", sum := "0b15730fa482f661d31e685759df334319fc153fa1295fed9ec4824895d4ade4", func := "catchword/catchwordlaw16.ListsOr", spec := "listsOr", unfollowed := true, recurses := true, apart := false, narrowed := true }
def ListsOrUptoSaid : Prop := listsOrUptoRow.holds Try.pinned (OpenSpec.upto listsOrSpec)

/-- 'catchwordlaw16.ListsBut', WHERE WHAT IT READS IS OF BULK AT MOST 1048576: true; the input reads as it did. -/
def listsButUptoRow : OpenClaim := { program := "ytbodcpinpomobaa", sum := "0b15730fa482f661d31e685759df334319fc153fa1295fed9ec4824895d4ade4", func := "catchword/catchwordlaw16.ListsBut", spec := "listsBut", unfollowed := true, recurses := true, apart := false, narrowed := true }
def ListsButUptoSaid : Prop := listsButUptoRow.holds Try.pinned (OpenSpec.upto listsButSpec)

/-- 'catchwordlaw16.ListsFrom', WHERE WHAT IT READS IS OF BULK AT MOST 1048576: true; the input reads as it did. -/
def listsFromUptoRow : OpenClaim := { program := "ytbodcpinpomobaa", sum := "0b15730fa482f661d31e685759df334319fc153fa1295fed9ec4824895d4ade4", func := "catchword/catchwordlaw16.ListsFrom", spec := "listsFrom", unfollowed := true, recurses := true, apart := false, narrowed := true }
def ListsFromUptoSaid : Prop := listsFromUptoRow.holds Try.pinned (OpenSpec.upto listsFromSpec)

/-- 'catchwordlaw16.ListsLaws', WHERE WHAT IT READS IS OF BULK AT MOST 1048576: true; the input reads as it did. -/
def listsLawsUptoRow : OpenClaim := { program := "ytbodcpinpomobaa", sum := "0b15730fa482f661d31e685759df334319fc153fa1295fed9ec4824895d4ade4", func := "catchword/catchwordlaw16.ListsLaws", spec := "listsLaws", unfollowed := true, recurses := true, apart := false, narrowed := true }
def ListsLawsUptoSaid : Prop := listsLawsUptoRow.holds Try.pinned (OpenSpec.upto listsLawsSpec)

end Rows
end Go.Proofs.Ytbodcpinpomobaa
