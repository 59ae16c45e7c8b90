/- Contracts of functions of the given program, by the abstract walk, for law StatReckons: what each one hands back; no condition but those that each theorem states. -/
import Derived.Test.YtocdciahhlbknaaGreatF
import Derived.Test.YtocdciahhlbknaaGreatW2
namespace Go.Aw
open Go.Proofs
set_option maxRecDepth 100000
def ints (xs:List Int):V:=.g (.sl 1 (xs.map T.i))
def tints (xs:List Int):T:=.sl 1 (xs.map T.i)
def rise:Int→List Int→Bool
 | _,[]=>true
 | l,x::xs=>decide (l < x) && rise x xs
end Go.Aw
namespace Go.Aw
open Go.Proofs
set_option maxRecDepth 100000
def fromN (xs:List Int) (at':Nat) (x:Int):Nat:=at'+((xs.drop at').takeWhile fun y=>decide (y < x)).length
structure IsFrom (xs:List Int) (at':Nat) (x:Int) (p:Nat):Prop where
 ge:at'≤p
 le:p≤xs.length
 lo:∀ (k:Nat) (h:k < xs.length),at'≤k→k < p→xs[k] < x
 hi:∀ h:p < xs.length,x≤xs[p]
theorem IsFrom.eq {xs:List Int} {x:Int} {p:Nat}:∀ (d:Nat) {at':Nat},p-at'=d→IsFrom xs at' x p→p=fromN xs at' x:=by
 intro d
 induction d with
 | zero =>
  intro a hd h
  have:a=p:=by have:=h.ge;omega
  subst this
  unfold fromN
  rcases Nat.lt_or_ge a xs.length with hl|hl
  ·rw [List.drop_eq_getElem_cons hl,List.takeWhile_cons,if_neg (by have:=h.hi hl;simp;omega)];rfl
  ·rw [List.drop_of_length_le hl];rfl
 | succ d ih =>
  intro a hd h
  have hl:a < xs.length:=by have:=h.le;omega
  have:=ih (at':=a+1) (by omega) ⟨by omega,h.le,fun k hk h1 h2=>h.lo k hk (by omega) h2,h.hi⟩
  unfold fromN at this ⊢
  rw [List.drop_eq_getElem_cons hl,List.takeWhile_cons,if_pos (by have:=h.lo a hl (Nat.le_refl _) (by omega);simpa using this)]
  simp;omega
theorem half (i j:Nat) (h:i+j < 9000000000000000000):IntKind.i64.wrap (Int.fdiv (IntKind.u64.wrap ((i:Int)+j)) (2 ^ (min (Int.toNat 1) IntKind.u64.bits)))=((i+j) / 2:Nat):=by
 have h1:IntKind.u64.wrap ((i:Int)+j)=((i+j:Nat):Int):=by
  rw [wrap_in (by simp [inR,IntKind.min,IntKind.max,IntKind.signed,IntKind.bits];omega)];omega
 rw [h1]
 have h2:Int.fdiv ((i+j:Nat):Int) (2 ^ (min (Int.toNat 1) IntKind.u64.bits))=((i+j) / 2:Nat):=by
  show Int.fdiv ((i+j:Nat):Int) 2=_
  rw [Int.fdiv_eq_ediv_of_nonneg _ (by decide)];omega
 rw [h2,wrap_in (in64 (by omega) (by omega))]
end Go.Aw
namespace Go.Aw
open Go.Proofs
set_option maxRecDepth 100000
end Go.Aw
namespace Go.Aw
open Go.Proofs
set_option maxRecDepth 100000
end Go.Aw
namespace Go.Aw
open Go.Proofs
set_option maxRecDepth 100000
end Go.Aw
namespace Go.Aw
open Go.Proofs
set_option maxRecDepth 100000
end Go.Aw
