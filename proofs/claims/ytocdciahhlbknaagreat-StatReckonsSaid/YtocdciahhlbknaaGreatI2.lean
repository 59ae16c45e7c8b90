/- Contracts of functions of the given program, by the abstract walk, for law StatReckons: what each one hands back; no condition but those that each theorem states. -/
import Derived.RangeFuncBox
import Derived.RangeFuncLeaves
import Derived.Shelf.Abstract
import Derived.WalkKit
import Derived.OwnWalkIn
import Derived.TacticsInMore
import Derived.LoopNIn
import Derived.LoopIn
import Derived.Test.YtocdciahhlbknaaGreatProg
import Derived.Test.YtocdciahhlbknaaGreatC1
import Derived.Test.YtocdciahhlbknaaGreatW3
namespace Go.Aw
open Go.Proofs Go.RowKit Go.Shelf
attribute [local go_sem] Oper.semAt_some
end Go.Aw
