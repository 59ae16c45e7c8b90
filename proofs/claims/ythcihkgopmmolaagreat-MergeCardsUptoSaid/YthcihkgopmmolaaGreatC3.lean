/- Contracts of functions of the given program, by the abstract walk, for law MergeCardsUpto: what each one hands back; no condition but those that each theorem states. -/
import Derived.Test.YthcihkgopmmolaaGreatC0
import Derived.Test.YthcihkgopmmolaaGreatI1
namespace Go.Aw
open Go.Proofs
set_option maxRecDepth 100000

/- where words stand one behind the other, in a document -/
end Go.Aw
namespace Go.Aw
open Go.Proofs
set_option maxRecDepth 100000

end Go.Aw
namespace Go.Aw
open Go.Proofs
set_option maxRecDepth 100000

theorem c_law06_Few (l : List Po) (hl : l.length < 9223372036854775808) : CG Tryz.prog 34 [tposts l] (.b (decide (l.length ≤ 70) && l.all fun p => decide (p.2.length ≤ 130))) := by
  refine ⟨k_law06_Few.calls ?_⟩
  have hm : (l.map tpost).length = l.length := by simp
  conv => whnf
  refine Br.dec (fun h => ?_) (fun h => ?_)
  · conv => whnf
    rw [decide_eq_false (p := l.length ≤ 70) (by omega)]
    exact ⟨Ends.keep ⟨rfl, rfl⟩⟩
  conv => whnf
  have hlen : l.length ≤ 70 := by omega
  rw [decide_eq_true hlen, Bool.true_and]
  refine SW.loop (α := Nat) (fun k => tm 20 [(0, posts l), (3, .g (.i k))]) (fun _ => []) (fun k => k ≤ l.length ∧ (l.take k).all (fun p => decide (p.2.length ≤ 130)) = true) (fun k => l.length - k) 0 ?_ ?_ ?_ ?_
  · simp
  · rfl
  · simp [subT, subV, tm, tmGo, posts, tposts]
  · rintro k ⟨hk, hr⟩
    dsimp only at hk hr ⊢
    conv => whnf
    refine Br.dec (fun h => ?_) (fun h => ?_)
    · conv => whnf
      refine ⟨by simp; omega, rfl, ?_⟩
      conv => whnf
      refine ⟨_, getZ (by omega), ?_⟩
      conv => whnf
      have hk' : k < l.length := by omega
      have hmp : (l[k].2.map T.i).length = l[k].2.length := by simp
      refine Br.dec (fun h2 => ?_) (fun h2 => ?_)
      · conv => whnf
        have : (l.all fun p => decide (p.2.length ≤ 130)) = false := by rw [List.all_eq_false]; exact ⟨l[k], List.getElem_mem _, by simp; omega⟩
        rw [this]
        exact ⟨Ends.keep ⟨rfl, rfl⟩⟩
      · conv => whnf
        refine ⟨in64 (by omega) (by omega), ?_⟩
        conv => whnf
        refine ⟨⟨k + 1, ⟨hk', all_take hk' hr (by simp; omega)⟩, by omega, rfl, by simp [subT, subV, tm, tmGo, posts]⟩⟩
    · conv => whnf
      have : k = l.length := by omega
      subst this
      rw [List.take_length] at hr
      rw [hr]
      exact ⟨Ends.keep ⟨rfl, rfl⟩⟩

end Go.Aw
