/- Contracts of functions of the given program, by the abstract walk, for law StatReckons: what each one hands back; no condition but those that each theorem states. -/
import Derived.Test.YtocdciahhlbknaaGreatC1
import Derived.Test.YtocdciahhlbknaaGreatL1
import Derived.Test.YtocdciahhlbknaaGreatW3
namespace Go.Aw
open Go.Proofs
set_option maxRecDepth 100000
end Go.Aw
namespace Go.Aw
open Go.Proofs
set_option maxRecDepth 100000
def vintl (xs:List Int):List V:=xs.map fun x=>V.g (.i x)
theorem gr_vintl {n d b g len:Nat} {h:List Blk} {l:List Int} (hb:h[b]?=some (.arr g 1 (vintl l))) (hn:n≤b) (hl:len=l.length):gr n h (d+1) (.own b g 0 len)=some (tints l) :=
 gr_own hb hn hl fun _ _=>gr_g
end Go.Aw
namespace Go.Aw
open Go.Proofs
set_option maxRecDepth 100000
end Go.Aw
namespace Go.Aw
open Go.Proofs
set_option maxRecDepth 100000
theorem tv_int {t:T} (h:TV (.i .i64) t):∃ n:Int,t=.i n∧inR .i64 n:=by
 obtain ⟨cs,⟨n,rfl,hn⟩,rfl⟩:=h
 exact ⟨n,rfl,hn⟩
theorem tvs_nil {ys:List T} (h:TVs [] ys):ys=[]:=by
 cases ys with
 | nil=>rfl
 | cons _ _=>exact h.elim
theorem tvs_cons {a:Ty} {r:List Ty} {ys:List T} (h:TVs (a::r) ys):∃ y zs,ys=y::zs∧TV a y∧TVs r zs:=by
 cases ys with
 | nil=>exact h.elim
 | cons y zs=>exact ⟨y,zs,rfl,h.1,h.2⟩
end Go.Aw
namespace Go.Aw
open Go.Proofs
set_option maxRecDepth 100000
end Go.Aw
namespace Go.Aw
open Go.Proofs
set_option maxRecDepth 100000
end Go.Aw
