/- Contracts of functions of the given program, by the abstract walk, for law StatReckons: what each one hands back; no condition but those that each theorem states. -/
import Derived.Test.YtocdciahhlbknaaGreatC0
import Derived.Test.YtocdciahhlbknaaGreatI1
namespace Go.Aw
open Go.Proofs
set_option maxRecDepth 100000
end Go.Aw
namespace Go.Aw
open Go.Proofs
set_option maxRecDepth 100000
end Go.Aw
namespace Go.Aw
open Go.Proofs
set_option maxRecDepth 100000
end Go.Aw
