/- Contracts of functions of the given program, by the abstract walk, for law ShelfPutsUpto: what each one hands back; no condition but those that each theorem states. -/
import Derived.Test.YthcihkgopmmolaaC15
import Derived.Test.YthcihkgopmmolaaC2
namespace Go.Aw
open Go.Proofs Go.Sort
set_option maxRecDepth 100000
set_option maxHeartbeats 4000000

theorem tv_strs {t : T} (h : TV (.sl 1 .s) t) : ∃ xs : List ByteArray, t = tstrs xs ∧ xs.length ≤ maxLen := by
  obtain ⟨cs, ⟨es, rfl, hl, he⟩, rfl⟩ := h
  have : ∃ xs : List ByteArray, es = xs.map T.s := by
    clear hl
    induction es with
    | nil => exact ⟨[], rfl⟩
    | cons e es ih =>
      obtain ⟨xs, rfl⟩ := ih fun x hx => he x (by simp [hx])
      obtain ⟨ys, ⟨n, rfl, _⟩, rfl⟩ := he e (by simp)
      exact ⟨n :: xs, rfl⟩
  obtain ⟨xs, rfl⟩ := this
  exact ⟨xs, rfl, by simpa using hl⟩
theorem tv_card {t : T} (h : TV (.fc .s (.fc (.i .i64) (.fc (.sl 1 .s) .fn))) t) : ∃ c : Cd, t = tcard c ∧ c.w.length ≤ maxLen ∧ c.id.size ≤ maxLen := by
  obtain ⟨cs, h1, rfl⟩ := h
  obtain ⟨_, _, rfl, ⟨n1, rfl, hs⟩, _, _, rfl, ⟨n2, rfl, _⟩, _, _, rfl, h3, rfl⟩ := h1
  obtain ⟨es, rfl, hl, he⟩ := h3
  obtain ⟨xs, e, hx⟩ := tv_strs (t := .sl 1 es) ⟨[.sl 1 es], ⟨es, rfl, hl, he⟩, rfl⟩
  cases e
  exact ⟨⟨n1, n2, xs⟩, rfl, hx, hs⟩
theorem tv_cards {t : T} (h : TV (.sl 3 (.fc .s (.fc (.i .i64) (.fc (.sl 1 .s) .fn)))) t) : ∃ l : List Cd, t = tcards l ∧ l.length ≤ maxLen ∧ ∀ c ∈ l, c.w.length ≤ maxLen := by
  obtain ⟨cs, ⟨es, rfl, hl, he⟩, rfl⟩ := h
  have : ∃ l : List Cd, es = l.map tcard ∧ ∀ c ∈ l, c.w.length ≤ maxLen := by
    clear hl
    induction es with
    | nil => exact ⟨[], rfl, by simp⟩
    | cons e es ih =>
      obtain ⟨xs, rfl, hxs⟩ := ih fun x hx => he x (by simp [hx])
      obtain ⟨ys, h1, h2⟩ := he e (by simp)
      obtain ⟨c, h3, h4, _⟩ := tv_card ⟨ys, h1, h2⟩
      subst h3
      exact ⟨c :: xs, rfl, by simpa using ⟨h4, hxs⟩⟩
  obtain ⟨l, rfl, hx⟩ := this
  exact ⟨l, rfl, by simpa using hl, hx⟩
theorem tv_str {t : T} (h : TV .s t) : ∃ x : ByteArray, t = .s x ∧ x.size ≤ maxLen := by
  obtain ⟨cs, ⟨b, rfl, hs⟩, rfl⟩ := h
  exact ⟨b, rfl, hs⟩
end Go.Aw
namespace Go.Aw
open Go.Proofs Go.Sort
set_option maxRecDepth 100000
set_option maxHeartbeats 4000000

end Go.Aw
namespace Go.Aw
open Go.Proofs Go.Sort
set_option maxRecDepth 100000
set_option maxHeartbeats 4000000

/- WHAT STANDS IN A BUILT SEGMENT -/
/- a segment that was built may stand -/
end Go.Aw
namespace Go.Aw
open Go.Proofs Go.Sort
set_option maxRecDepth 100000
set_option maxHeartbeats 4000000

/- LAW SEGBACK -/
theorem bTs_strs : ∀ (xs : List ByteArray), xs.length ≤ bTs (xs.map T.s) ∧ ∀ x ∈ xs, x.size < bTs (xs.map T.s)
  | [] => by simp [bTs]
  | x :: xs => by
    obtain ⟨h1, h2⟩ := bTs_strs xs
    have e : bTs ((x :: xs).map T.s) = x.size + 1 + bTs (xs.map T.s) := by simp [bTs, bT]
    rw [e]
    refine ⟨by simp only [List.length_cons]; omega, fun y hy => ?_⟩
    rcases List.mem_cons.1 hy with rfl | hy
    · omega
    · have := h2 y hy; omega
theorem bTs_cards : ∀ (l : List Cd), l.length ≤ bTs (l.map tcard) ∧ (l.flatMap (·.w)).length ≤ bTs (l.map tcard) ∧ ∀ c ∈ l, c.id.size < bTs (l.map tcard) ∧ ∀ x ∈ c.w, x.size < bTs (l.map tcard)
  | [] => by simp [bTs]
  | c :: l => by
    obtain ⟨h1, h2, h3⟩ := bTs_cards l
    obtain ⟨g1, g2⟩ := bTs_strs c.w
    have e : bTs ((c :: l).map tcard) = c.id.size + bTs (c.w.map T.s) + 3 + bTs (l.map tcard) := by simp [bTs, bT, tcard]; omega
    rw [e]
    refine ⟨by simp only [List.length_cons]; omega, by simp only [List.flatMap_cons, List.length_append]; omega, fun d hd => ?_⟩
    rcases List.mem_cons.1 hd with rfl | hd
    · exact ⟨by omega, fun x hx => by have := g2 x hx; omega⟩
    · exact ⟨by have := (h3 d hd).1; omega, fun x hx => by have := (h3 d hd).2 x hx; omega⟩
end Go.Aw
