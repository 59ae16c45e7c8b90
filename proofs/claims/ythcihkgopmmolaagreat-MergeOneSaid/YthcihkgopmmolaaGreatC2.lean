/- Contracts of functions of the given program, by the abstract walk, for law MergeOne: what each one hands back; no condition but those that each theorem states. -/
import Derived.Test.YthcihkgopmmolaaGreatC1
import Derived.Test.YthcihkgopmmolaaGreatL1
import Derived.Test.YthcihkgopmmolaaGreatW3
namespace Go.Aw
open Go.Proofs
set_option maxRecDepth 100000

end Go.Aw
namespace Go.Aw
open Go.Proofs
set_option maxRecDepth 100000

def vintl (xs : List Int) : List V := xs.map fun x => V.g (.i x)
theorem gr_vintl {n d b g len : Nat} {h : List Blk} {l : List Int} (hb : h[b]? = some (.arr g 1 (vintl l))) (hn : n ≤ b) (hl : len = l.length) : gr n h (d + 1) (.own b g 0 len) = some (tints l) :=
  gr_own hb hn hl fun _ _ => gr_g

end Go.Aw
namespace Go.Aw
open Go.Proofs
set_option maxRecDepth 100000

/- strictly rising lists -/
end Go.Aw
namespace Go.Aw
open Go.Proofs
set_option maxRecDepth 100000

theorem tv_ints {t : T} (h : TV (.sl 1 (.i .i64)) t) : ∃ xs : List Int, t = tints xs ∧ xs.length ≤ maxLen := by
  obtain ⟨cs, ⟨es, rfl, hl, he⟩, rfl⟩ := h
  have : ∃ xs : List Int, es = xs.map T.i := by
    clear hl
    induction es with
    | nil => exact ⟨[], rfl⟩
    | cons e es ih =>
      obtain ⟨xs, rfl⟩ := ih fun x hx => he x (by simp [hx])
      obtain ⟨ys, ⟨n, rfl, _⟩, rfl⟩ := he e (by simp)
      exact ⟨n :: xs, rfl⟩
  obtain ⟨xs, rfl⟩ := this
  exact ⟨xs, rfl, by simpa using hl⟩
end Go.Aw
namespace Go.Aw
open Go.Proofs
set_option maxRecDepth 100000

end Go.Aw
namespace Go.Aw
open Go.Proofs
set_option maxRecDepth 100000

end Go.Aw
