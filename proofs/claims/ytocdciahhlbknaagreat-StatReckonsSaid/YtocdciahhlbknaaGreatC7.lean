/- Contracts of functions of the given program, by the abstract walk, for law StatReckons: what each one hands back; no condition but those that each theorem states. -/
import Derived.Test.YtocdciahhlbknaaGreatC6
namespace Go.Aw
open Go.Proofs
set_option maxRecDepth 100000
set_option maxHeartbeats 4000000
end Go.Aw
namespace Go.Aw
open Go.Proofs
set_option maxRecDepth 100000
set_option maxHeartbeats 4000000
end Go.Aw
namespace Go.Aw
open Go.Proofs
set_option maxRecDepth 100000
set_option maxHeartbeats 4000000
end Go.Aw
namespace Go.Aw
open Go.Proofs
set_option maxRecDepth 100000
set_option maxHeartbeats 4000000
end Go.Aw
namespace Go.Aw
open Go.Proofs
set_option maxRecDepth 100000
set_option maxHeartbeats 4000000
theorem Refi.frz {z d:Nat} {t t':List V} {H H2 H3 L:List Blk} (hH:H=H2++L) (hz:z≤H2.length) (hb:dropH H2.length (H2++L) d H2 H3) (hs:subT (t.map (cutV H2.length)) t'):Refi z ⟨t,H⟩ ⟨t',H3⟩:=by
 subst hH
 exact (Refi.drop d hz hb (cut_ok t)).trans (Refi.sub rfl hs)
end Go.Aw
namespace Go.Aw
open Go.Proofs
set_option maxRecDepth 100000
set_option maxHeartbeats 4000000
end Go.Aw
