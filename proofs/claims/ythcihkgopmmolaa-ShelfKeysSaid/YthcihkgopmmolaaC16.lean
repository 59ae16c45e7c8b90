/- Contracts of functions of the given program, by the abstract walk, for law ShelfKeys: what each one hands back; no condition but those that each theorem states. -/
import Derived.Test.YthcihkgopmmolaaC15
import Derived.Test.YthcihkgopmmolaaC2
namespace Go.Aw
open Go.Proofs Go.Sort
set_option maxRecDepth 100000
set_option maxHeartbeats 4000000

theorem tv_strs {t : T} (h : TV (.sl 1 .s) t) : ∃ xs : List ByteArray, t = tstrs xs ∧ xs.length ≤ maxLen := by
  obtain ⟨cs, ⟨es, rfl, hl, he⟩, rfl⟩ := h
  have : ∃ xs : List ByteArray, es = xs.map T.s := by
    clear hl
    induction es with
    | nil => exact ⟨[], rfl⟩
    | cons e es ih =>
      obtain ⟨xs, rfl⟩ := ih fun x hx => he x (by simp [hx])
      obtain ⟨ys, ⟨n, rfl, _⟩, rfl⟩ := he e (by simp)
      exact ⟨n :: xs, rfl⟩
  obtain ⟨xs, rfl⟩ := this
  exact ⟨xs, rfl, by simpa using hl⟩
theorem tv_card {t : T} (h : TV (.fc .s (.fc (.i .i64) (.fc (.sl 1 .s) .fn))) t) : ∃ c : Cd, t = tcard c ∧ c.w.length ≤ maxLen ∧ c.id.size ≤ maxLen := by
  obtain ⟨cs, h1, rfl⟩ := h
  obtain ⟨_, _, rfl, ⟨n1, rfl, hs⟩, _, _, rfl, ⟨n2, rfl, _⟩, _, _, rfl, h3, rfl⟩ := h1
  obtain ⟨es, rfl, hl, he⟩ := h3
  obtain ⟨xs, e, hx⟩ := tv_strs (t := .sl 1 es) ⟨[.sl 1 es], ⟨es, rfl, hl, he⟩, rfl⟩
  cases e
  exact ⟨⟨n1, n2, xs⟩, rfl, hx, hs⟩
theorem tv_cards {t : T} (h : TV (.sl 3 (.fc .s (.fc (.i .i64) (.fc (.sl 1 .s) .fn)))) t) : ∃ l : List Cd, t = tcards l ∧ l.length ≤ maxLen ∧ ∀ c ∈ l, c.w.length ≤ maxLen := by
  obtain ⟨cs, ⟨es, rfl, hl, he⟩, rfl⟩ := h
  have : ∃ l : List Cd, es = l.map tcard ∧ ∀ c ∈ l, c.w.length ≤ maxLen := by
    clear hl
    induction es with
    | nil => exact ⟨[], rfl, by simp⟩
    | cons e es ih =>
      obtain ⟨xs, rfl, hxs⟩ := ih fun x hx => he x (by simp [hx])
      obtain ⟨ys, h1, h2⟩ := he e (by simp)
      obtain ⟨c, h3, h4, _⟩ := tv_card ⟨ys, h1, h2⟩
      subst h3
      exact ⟨c :: xs, rfl, by simpa using ⟨h4, hxs⟩⟩
  obtain ⟨l, rfl, hx⟩ := this
  exact ⟨l, rfl, by simpa using hl, hx⟩
theorem bef_same {a b : Cd} (h : befC a b = false) (k : befC b a = false) : a.key = b.key ∧ a.id = b.id := by
  have h := of_decide_eq_false h
  have k := of_decide_eq_false k
  refine ⟨?_, ordC_zero h k⟩
  unfold ordC at h k
  rw [nz_lt] at h k
  omega
end Go.Aw
namespace Go.Aw
open Go.Proofs Go.Sort
set_option maxRecDepth 100000
set_option maxHeartbeats 4000000

end Go.Aw
namespace Go.Aw
open Go.Proofs Go.Sort
set_option maxRecDepth 100000
set_option maxHeartbeats 4000000

/- WHAT STANDS IN A BUILT SEGMENT -/
/- a segment that was built may stand -/
end Go.Aw
namespace Go.Aw
open Go.Proofs Go.Sort
set_option maxRecDepth 100000
set_option maxHeartbeats 4000000

/- LAW SEGBACK -/
theorem inC_bef {l : List Cd} (h : (l.map (·.id)).Nodup) : (inC l).Pairwise fun x y => befC x y = true := by
  have hn : ((inC l).map (·.id)).Nodup := (inC_perm.map (·.id)).nodup_iff.2 h
  refine List.pairwise_iff_getElem.2 fun i j hi hj hij => ?_
  have h1 := List.pairwise_iff_getElem.1 (inC_srt l) i j hi hj hij
  have h2 : (inC l)[i].id ≠ (inC l)[j].id := by
    have := List.pairwise_iff_getElem.1 hn i j (by simpa using hi) (by simpa using hj) hij
    simpa using this
  cases q : befC (inC l)[i] (inC l)[j] with
  | true => rfl
  | false => exact absurd (bef_same q h1).2 h2
end Go.Aw
