/- Contracts of functions of the given program, by the abstract walk, for law ShelfPutsUpto: what each one hands back; no condition but those that each theorem states. -/
import Derived.Test.YthcihkgopmmolaaC2
import Derived.Test.YthcihkgopmmolaaW3
namespace Go.Aw
open Go.Proofs
set_option maxRecDepth 100000

end Go.Aw
namespace Go.Aw
open Go.Proofs
set_option maxRecDepth 100000

abbrev Po : Type := Int × List Int
def tpost (p : Po) : T := .ag [.i p.1, tints p.2]
def tposts (l : List Po) : T := .sl 2 (l.map tpost)
/- rising, below an end -/
def risE (e : Int) : Int → List Int → Bool
  | _, [] => true
  | l, x :: xs => decide (l < x) && decide (x < e) && risE e x xs
def docsL (l : List Po) : List Int := l.map (·.1)
/-- postings that may be -/
def mayP (l : List Po) : Bool := (l.all fun p => decide (0 < p.2.length) && decide (p.2.length ≤ 120) && risE 120 (-1) p.2) && decide (l.length ≤ 64) && risE 64 (-1) (docsL l)

end Go.Aw
namespace Go.Aw
open Go.Proofs
set_option maxRecDepth 100000

end Go.Aw
namespace Go.Aw
open Go.Proofs
set_option maxRecDepth 100000
set_option maxHeartbeats 4000000

end Go.Aw
