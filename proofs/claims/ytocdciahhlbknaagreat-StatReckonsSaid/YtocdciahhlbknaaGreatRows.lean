/-
  No cell of these rows narrows 'for every input' (looked for: loops, veiled, ifaces, maps, wideKeys, modest, calm, conditions, laid).
  DERIVED. THE GIVEN ROWS OF THIS SEAT. 12 by the template 'for every input the law returns true; each argument reads behind the call as it read before'; 0 by the template 'total and deterministic' (their statements: YtocdciahhlbknaaGreatTotals.lean).
  GIVEN WITH THE SEED: the statements are not yours to turn. If you find one false, say at which input.
  Laid BY PROGRAM, IN A SANDBOX (cutbox-rows.mjs): the forced cells as the released guide's own fill.sh prints them over the translation 1b3ab2861a16018f… (all of the seat's roots in one cut). By AI agents, Wed Nov 11 2026. No macro, syntax, notation, axiom, sorry.
-/
import Derived.Test.YtocdciahhlbknaaGreatChecked
import GoSem.Claim
import GoSem.ClaimJoined
import GoSem.ClaimMapViews
import Derived.JoinedTies
import Derived.KernelRfl
namespace Go.Proofs.YtocdciahhlbknaaGreat
/- THE CELL 'sum', in the pinned program and in every row, IS THE sha256 OF THE DUMP (.gsa) THAT YtocdciahhlbknaaGreatProg.lean LOADS. Nothing in Lean hashes anything: it is a label: what it is worth is what the hold of that sum in a sandbox is worth. -/
noncomputable def Tryz.pinned : Pinned := { name := "ytocdciahhlbknaagreat", sum := "1b3ab2861a16018f4275235021b1006320f23af16c5e0b19d55c63df84fa05ad", checked := Tryz.checked }
namespace Rows
def none {H : Type} : Left H := { results := [], args := [] }

/-- 'catchwordlaw15.StatTells': WHATEVER THE INPUT: true; the input reads as it did. -/
def statTellsSpec : ChangeSpec := { name := "statTells", fn := fun _ => fun
  | [d1, d2] => { results := [.lit (.bool true)], args := [d1, d2] }
  | _ => none }
def statTellsRow : OpenClaim := { program := "ytocdciahhlbknaagreat", sum := "1b3ab2861a16018f4275235021b1006320f23af16c5e0b19d55c63df84fa05ad", func := "catchword/catchwordlaw15.StatTells", spec := "statTells", inPlace := ["internal/bytealg.abigen_runtime_cmpstring"], unfollowed := true, recurses := true, plainKeys := false, apart := false }
def StatTellsSaid : Prop := statTellsRow.holds Tryz.pinned (OpenSpec.ofChange statTellsSpec)

/-- ITS FALSE NEIGHBOUR: 'it returns false'. Refute it at one input. -/
def statTellsWrong : ChangeSpec := { name := "statTells", fn := fun _ => fun
  | [d1, d2] => { results := [.lit (.bool false)], args := [d1, d2] }
  | _ => none }
def StatTellsWrongFalsely : Prop := statTellsRow.holds Tryz.pinned (OpenSpec.ofChange statTellsWrong)

/-- 'catchwordlaw15.StatReckons': WHATEVER THE INPUT: true; the input reads as it did. -/
def statReckonsSpec : ChangeSpec := { name := "statReckons", fn := fun _ => fun
  | [d1, d2, d3, d4] => { results := [.lit (.bool true)], args := [d1, d2, d3, d4] }
  | _ => none }
def statReckonsRow : OpenClaim := { program := "ytocdciahhlbknaagreat", sum := "1b3ab2861a16018f4275235021b1006320f23af16c5e0b19d55c63df84fa05ad", func := "catchword/catchwordlaw15.StatReckons", spec := "statReckons", inPlace := ["internal/bytealg.abigen_runtime_cmpstring"], unfollowed := true, recurses := true, plainKeys := false, apart := false }
def StatReckonsSaid : Prop := statReckonsRow.holds Tryz.pinned (OpenSpec.ofChange statReckonsSpec)

/-- ITS FALSE NEIGHBOUR: 'it returns false'. Refute it at one input. -/
def statReckonsWrong : ChangeSpec := { name := "statReckons", fn := fun _ => fun
  | [d1, d2, d3, d4] => { results := [.lit (.bool false)], args := [d1, d2, d3, d4] }
  | _ => none }
def StatReckonsWrongFalsely : Prop := statReckonsRow.holds Tryz.pinned (OpenSpec.ofChange statReckonsWrong)

/-- 'catchwordlaw15.StatRare': WHATEVER THE INPUT: true; the input reads as it did. -/
def statRareSpec : ChangeSpec := { name := "statRare", fn := fun _ => fun
  | [d1, d2, d3] => { results := [.lit (.bool true)], args := [d1, d2, d3] }
  | _ => none }
def statRareRow : OpenClaim := { program := "ytocdciahhlbknaagreat", sum := "1b3ab2861a16018f4275235021b1006320f23af16c5e0b19d55c63df84fa05ad", func := "catchword/catchwordlaw15.StatRare", spec := "statRare", inPlace := ["internal/bytealg.abigen_runtime_cmpstring"], unfollowed := true, recurses := true, plainKeys := false, apart := false }
def StatRareSaid : Prop := statRareRow.holds Tryz.pinned (OpenSpec.ofChange statRareSpec)

/-- ITS FALSE NEIGHBOUR: 'it returns false'. Refute it at one input. -/
def statRareWrong : ChangeSpec := { name := "statRare", fn := fun _ => fun
  | [d1, d2, d3] => { results := [.lit (.bool false)], args := [d1, d2, d3] }
  | _ => none }
def StatRareWrongFalsely : Prop := statRareRow.holds Tryz.pinned (OpenSpec.ofChange statRareWrong)

/-- 'catchwordlaw15.StatLong': WHATEVER THE INPUT: true; the input reads as it did. -/
def statLongSpec : ChangeSpec := { name := "statLong", fn := fun _ => fun
  | [d1, d2, d3, d4] => { results := [.lit (.bool true)], args := [d1, d2, d3, d4] }
  | _ => none }
def statLongRow : OpenClaim := { program := "ytocdciahhlbknaagreat", sum := "1b3ab2861a16018f4275235021b1006320f23af16c5e0b19d55c63df84fa05ad", func := "catchword/catchwordlaw15.StatLong", spec := "statLong", inPlace := ["internal/bytealg.abigen_runtime_cmpstring"], unfollowed := true, recurses := true, plainKeys := false, apart := false }
def StatLongSaid : Prop := statLongRow.holds Tryz.pinned (OpenSpec.ofChange statLongSpec)

/-- ITS FALSE NEIGHBOUR: 'it returns false'. Refute it at one input. -/
def statLongWrong : ChangeSpec := { name := "statLong", fn := fun _ => fun
  | [d1, d2, d3, d4] => { results := [.lit (.bool false)], args := [d1, d2, d3, d4] }
  | _ => none }
def StatLongWrongFalsely : Prop := statLongRow.holds Tryz.pinned (OpenSpec.ofChange statLongWrong)

/-- 'catchwordlaw15.StatCards': WHATEVER THE INPUT: true; the input reads as it did. -/
def statCardsSpec : ChangeSpec := { name := "statCards", fn := fun _ => fun
  | [d1, d2] => { results := [.lit (.bool true)], args := [d1, d2] }
  | _ => none }
def statCardsRow : OpenClaim := { program := "ytocdciahhlbknaagreat", sum := "1b3ab2861a16018f4275235021b1006320f23af16c5e0b19d55c63df84fa05ad", func := "catchword/catchwordlaw15.StatCards", spec := "statCards", inPlace := ["internal/bytealg.abigen_runtime_cmpstring"], unfollowed := true, recurses := true, plainKeys := false, apart := false }
def StatCardsSaid : Prop := statCardsRow.holds Tryz.pinned (OpenSpec.ofChange statCardsSpec)

/-- ITS FALSE NEIGHBOUR: 'it returns false'. Refute it at one input. -/
def statCardsWrong : ChangeSpec := { name := "statCards", fn := fun _ => fun
  | [d1, d2] => { results := [.lit (.bool false)], args := [d1, d2] }
  | _ => none }
def StatCardsWrongFalsely : Prop := statCardsRow.holds Tryz.pinned (OpenSpec.ofChange statCardsWrong)

/-- 'catchwordlaw15.StatSteady': WHATEVER THE INPUT: true; the input reads as it did. -/
def statSteadySpec : ChangeSpec := { name := "statSteady", fn := fun _ => fun
  | [d1, d2, d3] => { results := [.lit (.bool true)], args := [d1, d2, d3] }
  | _ => none }
def statSteadyRow : OpenClaim := { program := "ytocdciahhlbknaagreat", sum := "1b3ab2861a16018f4275235021b1006320f23af16c5e0b19d55c63df84fa05ad", func := "catchword/catchwordlaw15.StatSteady", spec := "statSteady", inPlace := ["internal/bytealg.abigen_runtime_cmpstring"], unfollowed := true, recurses := true, plainKeys := false, apart := false }
def StatSteadySaid : Prop := statSteadyRow.holds Tryz.pinned (OpenSpec.ofChange statSteadySpec)

/-- ITS FALSE NEIGHBOUR: 'it returns false'. Refute it at one input. -/
def statSteadyWrong : ChangeSpec := { name := "statSteady", fn := fun _ => fun
  | [d1, d2, d3] => { results := [.lit (.bool false)], args := [d1, d2, d3] }
  | _ => none }
def StatSteadyWrongFalsely : Prop := statSteadyRow.holds Tryz.pinned (OpenSpec.ofChange statSteadyWrong)

/-- 'catchwordlaw14.PileCarries': WHATEVER THE INPUT: true; the input reads as it did. -/
def pileCarriesSpec : ChangeSpec := { name := "pileCarries", fn := fun _ => fun
  | [d1, d2, d3] => { results := [.lit (.bool true)], args := [d1, d2, d3] }
  | _ => none }
def pileCarriesRow : OpenClaim := { program := "ytocdciahhlbknaagreat", sum := "1b3ab2861a16018f4275235021b1006320f23af16c5e0b19d55c63df84fa05ad", func := "catchword/catchwordlaw14.PileCarries", spec := "pileCarries", inPlace := ["internal/bytealg.abigen_runtime_cmpstring"], unfollowed := true, recurses := true, plainKeys := false, apart := false }
def PileCarriesSaid : Prop := pileCarriesRow.holds Tryz.pinned (OpenSpec.ofChange pileCarriesSpec)

/-- ITS FALSE NEIGHBOUR: 'it returns false'. Refute it at one input. -/
def pileCarriesWrong : ChangeSpec := { name := "pileCarries", fn := fun _ => fun
  | [d1, d2, d3] => { results := [.lit (.bool false)], args := [d1, d2, d3] }
  | _ => none }
def PileCarriesWrongFalsely : Prop := pileCarriesRow.holds Tryz.pinned (OpenSpec.ofChange pileCarriesWrong)

/-- 'catchwordlaw14.PileStays': WHATEVER THE INPUT: true; the input reads as it did. -/
def pileStaysSpec : ChangeSpec := { name := "pileStays", fn := fun _ => fun
  | [d1, d2] => { results := [.lit (.bool true)], args := [d1, d2] }
  | _ => none }
def pileStaysRow : OpenClaim := { program := "ytocdciahhlbknaagreat", sum := "1b3ab2861a16018f4275235021b1006320f23af16c5e0b19d55c63df84fa05ad", func := "catchword/catchwordlaw14.PileStays", spec := "pileStays", inPlace := ["internal/bytealg.abigen_runtime_cmpstring"], unfollowed := true, recurses := true, plainKeys := false, apart := false }
def PileStaysSaid : Prop := pileStaysRow.holds Tryz.pinned (OpenSpec.ofChange pileStaysSpec)

/-- ITS FALSE NEIGHBOUR: 'it returns false'. Refute it at one input. -/
def pileStaysWrong : ChangeSpec := { name := "pileStays", fn := fun _ => fun
  | [d1, d2] => { results := [.lit (.bool false)], args := [d1, d2] }
  | _ => none }
def PileStaysWrongFalsely : Prop := pileStaysRow.holds Tryz.pinned (OpenSpec.ofChange pileStaysWrong)

/-- 'catchwordlaw14.PileAborts': WHATEVER THE INPUT: true; the input reads as it did. -/
def pileAbortsSpec : ChangeSpec := { name := "pileAborts", fn := fun _ => fun
  | [d1, d2] => { results := [.lit (.bool true)], args := [d1, d2] }
  | _ => none }
def pileAbortsRow : OpenClaim := { program := "ytocdciahhlbknaagreat", sum := "1b3ab2861a16018f4275235021b1006320f23af16c5e0b19d55c63df84fa05ad", func := "catchword/catchwordlaw14.PileAborts", spec := "pileAborts", inPlace := ["internal/bytealg.abigen_runtime_cmpstring"], unfollowed := true, recurses := true, plainKeys := false, apart := false }
def PileAbortsSaid : Prop := pileAbortsRow.holds Tryz.pinned (OpenSpec.ofChange pileAbortsSpec)

/-- ITS FALSE NEIGHBOUR: 'it returns false'. Refute it at one input. -/
def pileAbortsWrong : ChangeSpec := { name := "pileAborts", fn := fun _ => fun
  | [d1, d2] => { results := [.lit (.bool false)], args := [d1, d2] }
  | _ => none }
def PileAbortsWrongFalsely : Prop := pileAbortsRow.holds Tryz.pinned (OpenSpec.ofChange pileAbortsWrong)

/-- 'catchwordlaw14.PileFlushes': WHATEVER THE INPUT: true; the input reads as it did. -/
def pileFlushesSpec : ChangeSpec := { name := "pileFlushes", fn := fun _ => fun
  | [d] => { results := [.lit (.bool true)], args := [d] }
  | _ => none }
def pileFlushesRow : OpenClaim := { program := "ytocdciahhlbknaagreat", sum := "1b3ab2861a16018f4275235021b1006320f23af16c5e0b19d55c63df84fa05ad", func := "catchword/catchwordlaw14.PileFlushes", spec := "pileFlushes", inPlace := ["internal/bytealg.abigen_runtime_cmpstring"], unfollowed := true, recurses := true, plainKeys := false, apart := false }
def PileFlushesSaid : Prop := pileFlushesRow.holds Tryz.pinned (OpenSpec.ofChange pileFlushesSpec)

/-- ITS FALSE NEIGHBOUR: 'it returns false'. Refute it at one input. -/
def pileFlushesWrong : ChangeSpec := { name := "pileFlushes", fn := fun _ => fun
  | [d] => { results := [.lit (.bool false)], args := [d] }
  | _ => none }
def PileFlushesWrongFalsely : Prop := pileFlushesRow.holds Tryz.pinned (OpenSpec.ofChange pileFlushesWrong)

/-- 'catchwordlaw14.PileSizes': WHATEVER THE INPUT: true; the input reads as it did. -/
def pileSizesSpec : ChangeSpec := { name := "pileSizes", fn := fun _ => fun
  | [d] => { results := [.lit (.bool true)], args := [d] }
  | _ => none }
def pileSizesRow : OpenClaim := { program := "ytocdciahhlbknaagreat", sum := "1b3ab2861a16018f4275235021b1006320f23af16c5e0b19d55c63df84fa05ad", func := "catchword/catchwordlaw14.PileSizes", spec := "pileSizes", inPlace := ["internal/bytealg.abigen_runtime_cmpstring"], unfollowed := true, recurses := true, plainKeys := false, apart := false }
def PileSizesSaid : Prop := pileSizesRow.holds Tryz.pinned (OpenSpec.ofChange pileSizesSpec)

/-- ITS FALSE NEIGHBOUR: 'it returns false'. Refute it at one input. -/
def pileSizesWrong : ChangeSpec := { name := "pileSizes", fn := fun _ => fun
  | [d] => { results := [.lit (.bool false)], args := [d] }
  | _ => none }
def PileSizesWrongFalsely : Prop := pileSizesRow.holds Tryz.pinned (OpenSpec.ofChange pileSizesWrong)

/-- 'catchwordlaw14.PileMeans': WHATEVER THE INPUT: true; the input reads as it did. -/
def pileMeansSpec : ChangeSpec := { name := "pileMeans", fn := fun _ => fun
  | [d1, d2] => { results := [.lit (.bool true)], args := [d1, d2] }
  | _ => none }
def pileMeansRow : OpenClaim := { program := "ytocdciahhlbknaagreat", sum := "1b3ab2861a16018f4275235021b1006320f23af16c5e0b19d55c63df84fa05ad", func := "catchword/catchwordlaw14.PileMeans", spec := "pileMeans", inPlace := ["internal/bytealg.abigen_runtime_cmpstring", "slices.overlaps[catchword/api.Card]"], unfollowed := true, recurses := true, plainKeys := false, apart := false }
def PileMeansSaid : Prop := pileMeansRow.holds Tryz.pinned (OpenSpec.ofChange pileMeansSpec)

/-- ITS FALSE NEIGHBOUR: 'it returns false'. Refute it at one input. -/
def pileMeansWrong : ChangeSpec := { name := "pileMeans", fn := fun _ => fun
  | [d1, d2] => { results := [.lit (.bool false)], args := [d1, d2] }
  | _ => none }
def PileMeansWrongFalsely : Prop := pileMeansRow.holds Tryz.pinned (OpenSpec.ofChange pileMeansWrong)

/- THE SECOND FORM. 'bulk': how many values and letters a reading holds, each counted each time it is reached (what is shared counts as often as it is met; a slice's spare places count too). A statement '..UptoSaid' is the law's where the arguments, and the package variables that the reading takes, are together of bulk at most 1048576: NARROWER than '..Said'. Prove '..Said' where nothing that the law and all that it calls make is longer than what came in: it says more and counts as full. Else prove '..UptoSaid'. A law counts once. -/
mutual
def uptoBulk {H : Type} : DataW H → Nat
  | .lit (.string bytes) => bytes.length + 1
  | .lit _ => 1
  | .nil => 1
  | .ptr d => uptoBulk d + 1
  | .slice elems spare => uptoBulkAll elems + uptoBulkAll spare + 1
  | .agg parts => uptoBulkAll parts + 1
  | .iface _ d => uptoBulk d + 1
  | .map entries => uptoBulkEntries entries + 1
  | .held _ => 1
def uptoBulkAll {H : Type} : List (DataW H) → Nat
  | [] => 0
  | d :: r => uptoBulk d + uptoBulkAll r
def uptoBulkEntries {H : Type} : List (Lit × DataW H) → Nat
  | [] => 0
  | x :: r => uptoBulkEntry x + uptoBulkEntries r
def uptoBulkEntry {H : Type} : Lit × DataW H → Nat
  | (.string bytes, d) => bytes.length + uptoBulk d + 1
  | (_, d) => uptoBulk d + 1
 end
def uptoSmall : (H : Type) → List (DataW H) → Bool := fun _ ds => decide (uptoBulkAll ds ≤ 1048576)
def OpenSpec.upto (s : _root_.Go.ChangeSpec) : _root_.Go.OpenSpec := { _root_.Go.OpenSpec.ofChange s with cond := some uptoSmall }

/-- 'catchwordlaw15.StatTells', WHERE WHAT IT READS IS OF BULK AT MOST 1048576: true; the input reads as it did. -/
def statTellsUptoRow : OpenClaim := { program := "ytocdciahhlbknaagreat", sum := "1b3ab2861a16018f4275235021b1006320f23af16c5e0b19d55c63df84fa05ad", func := "catchword/catchwordlaw15.StatTells", spec := "statTells", inPlace := ["internal/bytealg.abigen_runtime_cmpstring"], unfollowed := true, recurses := true, plainKeys := false, apart := false, narrowed := true }
def StatTellsUptoSaid : Prop := statTellsUptoRow.holds Tryz.pinned (OpenSpec.upto statTellsSpec)

/-- 'catchwordlaw15.StatReckons', WHERE WHAT IT READS IS OF BULK AT MOST 1048576: true; the input reads as it did. -/
def statReckonsUptoRow : OpenClaim := { program := "ytocdciahhlbknaagreat", sum := "1b3ab2861a16018f4275235021b1006320f23af16c5e0b19d55c63df84fa05ad", func := "catchword/catchwordlaw15.StatReckons", spec := "statReckons", inPlace := ["internal/bytealg.abigen_runtime_cmpstring"], unfollowed := true, recurses := true, plainKeys := false, apart := false, narrowed := true }
def StatReckonsUptoSaid : Prop := statReckonsUptoRow.holds Tryz.pinned (OpenSpec.upto statReckonsSpec)

/-- 'catchwordlaw15.StatRare', WHERE WHAT IT READS IS OF BULK AT MOST 1048576: true; the input reads as it did. -/
def statRareUptoRow : OpenClaim := { program := "ytocdciahhlbknaagreat", sum := "1b3ab2861a16018f4275235021b1006320f23af16c5e0b19d55c63df84fa05ad", func := "catchword/catchwordlaw15.StatRare", spec := "statRare", inPlace := ["internal/bytealg.abigen_runtime_cmpstring"], unfollowed := true, recurses := true, plainKeys := false, apart := false, narrowed := true }
def StatRareUptoSaid : Prop := statRareUptoRow.holds Tryz.pinned (OpenSpec.upto statRareSpec)

/-- 'catchwordlaw15.StatLong', WHERE WHAT IT READS IS OF BULK AT MOST 1048576: true; the input reads as it did. -/
def statLongUptoRow : OpenClaim := { program := "ytocdciahhlbknaagreat", sum := "1b3ab2861a16018f4275235021b1006320f23af16c5e0b19d55c63df84fa05ad", func := "catchword/catchwordlaw15.StatLong", spec := "statLong", inPlace := ["internal/bytealg.abigen_runtime_cmpstring"], unfollowed := true, recurses := true, plainKeys := false, apart := false, narrowed := true }
def StatLongUptoSaid : Prop := statLongUptoRow.holds Tryz.pinned (OpenSpec.upto statLongSpec)

/-- 'catchwordlaw15.StatCards', WHERE WHAT IT READS IS OF BULK AT MOST 1048576: true; the input reads as it did. -/
def statCardsUptoRow : OpenClaim := { program := "ytocdciahhlbknaagreat", sum := "1b3ab2861a16018f4275235021b1006320f23af16c5e0b19d55c63df84fa05ad", func := "catchword/catchwordlaw15.StatCards", spec := "statCards", inPlace := ["internal/bytealg.abigen_runtime_cmpstring"], unfollowed := true, recurses := true, plainKeys := false, apart := false, narrowed := true }
def StatCardsUptoSaid : Prop := statCardsUptoRow.holds Tryz.pinned (OpenSpec.upto statCardsSpec)

/-- 'catchwordlaw15.StatSteady', WHERE WHAT IT READS IS OF BULK AT MOST 1048576: true; the input reads as it did. -/
def statSteadyUptoRow : OpenClaim := { program := "ytocdciahhlbknaagreat", sum := "1b3ab2861a16018f4275235021b1006320f23af16c5e0b19d55c63df84fa05ad", func := "catchword/catchwordlaw15.StatSteady", spec := "statSteady", inPlace := ["internal/bytealg.abigen_runtime_cmpstring"], unfollowed := true, recurses := true, plainKeys := false, apart := false, narrowed := true }
def StatSteadyUptoSaid : Prop := statSteadyUptoRow.holds Tryz.pinned (OpenSpec.upto statSteadySpec)

/-- 'catchwordlaw14.PileCarries', WHERE WHAT IT READS IS OF BULK AT MOST 1048576: true; the input reads as it did. -/
def pileCarriesUptoRow : OpenClaim := { program := "ytocdciahhlbknaagreat", sum := "1b3ab2861a16018f4275235021b1006320f23af16c5e0b19d55c63df84fa05ad", func := "catchword/catchwordlaw14.PileCarries", spec := "pileCarries", inPlace := ["internal/bytealg.abigen_runtime_cmpstring"], unfollowed := true, recurses := true, plainKeys := false, apart := false, narrowed := true }
def PileCarriesUptoSaid : Prop := pileCarriesUptoRow.holds Tryz.pinned (OpenSpec.upto pileCarriesSpec)

/-- 'catchwordlaw14.PileStays', WHERE WHAT IT READS IS OF BULK AT MOST 1048576: true; the input reads as it did. -/
def pileStaysUptoRow : OpenClaim := { program := "ytocdciahhlbknaagreat", sum := "1b3ab2861a16018f4275235021b1006320f23af16c5e0b19d55c63df84fa05ad", func := "catchword/catchwordlaw14.PileStays", spec := "pileStays", inPlace := ["internal/bytealg.abigen_runtime_cmpstring"], unfollowed := true, recurses := true, plainKeys := false, apart := false, narrowed := true }
def PileStaysUptoSaid : Prop := pileStaysUptoRow.holds Tryz.pinned (OpenSpec.upto pileStaysSpec)

/-- 'catchwordlaw14.PileAborts', WHERE WHAT IT READS IS OF BULK AT MOST 1048576: true; the input reads as it did. -/
def pileAbortsUptoRow : OpenClaim := { program := "ytocdciahhlbknaagreat", sum := "1b3ab2861a16018f4275235021b1006320f23af16c5e0b19d55c63df84fa05ad", func := "catchword/catchwordlaw14.PileAborts", spec := "pileAborts", inPlace := ["internal/bytealg.abigen_runtime_cmpstring"], unfollowed := true, recurses := true, plainKeys := false, apart := false, narrowed := true }
def PileAbortsUptoSaid : Prop := pileAbortsUptoRow.holds Tryz.pinned (OpenSpec.upto pileAbortsSpec)

/-- 'catchwordlaw14.PileFlushes', WHERE WHAT IT READS IS OF BULK AT MOST 1048576: true; the input reads as it did. -/
def pileFlushesUptoRow : OpenClaim := { program := "ytocdciahhlbknaagreat", sum := "1b3ab2861a16018f4275235021b1006320f23af16c5e0b19d55c63df84fa05ad", func := "catchword/catchwordlaw14.PileFlushes", spec := "pileFlushes", inPlace := ["internal/bytealg.abigen_runtime_cmpstring"], unfollowed := true, recurses := true, plainKeys := false, apart := false, narrowed := true }
def PileFlushesUptoSaid : Prop := pileFlushesUptoRow.holds Tryz.pinned (OpenSpec.upto pileFlushesSpec)

/-- 'catchwordlaw14.PileSizes', WHERE WHAT IT READS IS OF BULK AT MOST 1048576: true; the input reads as it did. -/
def pileSizesUptoRow : OpenClaim := { program := "ytocdciahhlbknaagreat", sum := "1b3ab2861a16018f4275235021b1006320f23af16c5e0b19d55c63df84fa05ad", func := "catchword/catchwordlaw14.PileSizes", spec := "pileSizes", inPlace := ["internal/bytealg.abigen_runtime_cmpstring"], unfollowed := true, recurses := true, plainKeys := false, apart := false, narrowed := true }
def PileSizesUptoSaid : Prop := pileSizesUptoRow.holds Tryz.pinned (OpenSpec.upto pileSizesSpec)

/-- 'catchwordlaw14.PileMeans', WHERE WHAT IT READS IS OF BULK AT MOST 1048576: true; the input reads as it did. -/
def pileMeansUptoRow : OpenClaim := { program := "ytocdciahhlbknaagreat", sum := "1b3ab2861a16018f4275235021b1006320f23af16c5e0b19d55c63df84fa05ad", func := "catchword/catchwordlaw14.PileMeans", spec := "pileMeans", inPlace := ["internal/bytealg.abigen_runtime_cmpstring", "slices.overlaps[catchword/api.Card]"], unfollowed := true, recurses := true, plainKeys := false, apart := false, narrowed := true }
def PileMeansUptoSaid : Prop := pileMeansUptoRow.holds Tryz.pinned (OpenSpec.upto pileMeansSpec)

end Rows
end Go.Proofs.YtocdciahhlbknaaGreat
