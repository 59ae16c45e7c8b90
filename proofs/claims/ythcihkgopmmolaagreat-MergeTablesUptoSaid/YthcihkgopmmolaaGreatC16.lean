/- Contracts of functions of the given program, by the abstract walk, for law MergeTablesUpto: what each one hands back; no condition but those that each theorem states. -/
import Derived.Test.YthcihkgopmmolaaGreatC15
import Derived.Test.YthcihkgopmmolaaGreatC2
namespace Go.Aw
open Go.Proofs Go.Sort
set_option maxRecDepth 100000
set_option maxHeartbeats 4000000

theorem tv_strs {t : T} (h : TV (.sl 1 .s) t) : ∃ xs : List ByteArray, t = tstrs xs ∧ xs.length ≤ maxLen := by
  obtain ⟨cs, ⟨es, rfl, hl, he⟩, rfl⟩ := h
  have : ∃ xs : List ByteArray, es = xs.map T.s := by
    clear hl
    induction es with
    | nil => exact ⟨[], rfl⟩
    | cons e es ih =>
      obtain ⟨xs, rfl⟩ := ih fun x hx => he x (by simp [hx])
      obtain ⟨ys, ⟨n, rfl, _⟩, rfl⟩ := he e (by simp)
      exact ⟨n :: xs, rfl⟩
  obtain ⟨xs, rfl⟩ := this
  exact ⟨xs, rfl, by simpa using hl⟩
theorem tv_bool {t : T} (h : TV .b t) : ∃ b : Bool, t = .b b := by
  obtain ⟨cs, ⟨b, rfl⟩, rfl⟩ := h
  exact ⟨b, rfl⟩
end Go.Aw
namespace Go.Aw
open Go.Proofs Go.Sort
set_option maxRecDepth 100000
set_option maxHeartbeats 4000000

end Go.Aw
namespace Go.Aw
open Go.Proofs Go.Sort
set_option maxRecDepth 100000
set_option maxHeartbeats 4000000

/- WHAT STANDS IN A BUILT SEGMENT -/
theorem mem_plc {w : List ByteArray} {t : ByteArray} {a : Int} : a ∈ plc w t ↔ ∃ (j : Nat) (h : j < w.length), a = j ∧ w[j] = t := by
  rw [plc, List.mem_map]
  constructor
  · rintro ⟨⟨y, j⟩, hm, rfl⟩
    rw [List.mem_filter] at hm
    obtain ⟨hm, e⟩ := hm
    have h1 := List.mem_zipIdx_iff_getElem?.1 hm
    have hj := lt_of_some h1
    rw [List.getElem?_eq_getElem hj] at h1
    exact ⟨j, hj, rfl, (Option.some.inj h1).trans (of_decide_eq_true e)⟩
  · rintro ⟨j, h, rfl, e⟩
    refine ⟨(w[j], j), List.mem_filter.2 ⟨List.mem_zipIdx_iff_getElem?.2 (List.getElem?_eq_getElem h), decide_eq_true e⟩, rfl⟩
theorem mem_pst {ls : List (List ByteArray)} {t : ByteArray} {p : Po} : p ∈ pst ls t ↔ ∃ (k : Nat) (h : k < ls.length), p = ((k : Int), plc ls[k] t) ∧ plc ls[k] t ≠ [] := by
  rw [pst, List.mem_filterMap]
  constructor
  · rintro ⟨⟨w, k⟩, hm, e⟩
    have h1 := List.mem_zipIdx_iff_getElem?.1 hm
    have hk := lt_of_some h1
    rw [List.getElem?_eq_getElem hk] at h1
    have h2 : ls[k] = w := Option.some.inj h1
    simp only [← h2] at e
    by_cases q : plc ls[k] t = []
    · simp only [q, if_pos] at e; cases e
    · simp only [if_neg q] at e
      exact ⟨k, hk, (Option.some.inj e).symm, q⟩
  · rintro ⟨k, hk, rfl, q⟩
    exact ⟨(ls[k], k), List.mem_zipIdx_iff_getElem?.2 (List.getElem?_eq_getElem hk), by simp only [if_neg q]⟩
theorem plc_pw (w : List ByteArray) (t : ByteArray) : (plc w t).Pairwise (· < ·) := by
  have key : ∀ n, n ≤ w.length → (plc (w.take n) t).Pairwise (· < ·) := by
    intro n
    induction n with
    | zero => intro _; simp [plc]
    | succ n ih =>
      intro hn
      rw [List.take_succ_eq_append_getElem hn, plc_app, List.pairwise_append]
      refine ⟨ih (by omega), by split <;> simp, fun a ha b hb => ?_⟩
      obtain ⟨j, hj, rfl, _⟩ := mem_plc.1 ha
      split at hb
      · simp at hb; subst hb; simp at hj ⊢; omega
      · cases hb
  have := key w.length (Nat.le_refl _)
  rwa [List.take_length] at this
theorem pst_pw (ls : List (List ByteArray)) (t : ByteArray) : ((pst ls t).map (·.1)).Pairwise (· < ·) := by
  have key : ∀ n, n ≤ ls.length → ((pst (ls.take n) t).map (·.1)).Pairwise (· < ·) := by
    intro n
    induction n with
    | zero => intro _; simp [pst]
    | succ n ih =>
      intro hn
      rw [pst_succ hn, List.map_append, List.pairwise_append]
      refine ⟨ih (by omega), by split <;> simp, fun a ha b hb => ?_⟩
      obtain ⟨p, hp, rfl⟩ := List.mem_map.1 ha
      have h1 := pst_lt p hp
      split at hb
      · cases hb
      · simp at hb; subst hb; simp at h1; omega
  have := key ls.length (Nat.le_refl _)
  rwa [List.take_length] at this
/- a segment that was built may stand -/
end Go.Aw
namespace Go.Aw
open Go.Proofs Go.Sort
set_option maxRecDepth 100000
set_option maxHeartbeats 4000000

/- LAW SEGBACK -/
theorem bTs_strs : ∀ (xs : List ByteArray), xs.length ≤ bTs (xs.map T.s) ∧ ∀ x ∈ xs, x.size < bTs (xs.map T.s)
  | [] => by simp [bTs]
  | x :: xs => by
    obtain ⟨h1, h2⟩ := bTs_strs xs
    have e : bTs ((x :: xs).map T.s) = x.size + 1 + bTs (xs.map T.s) := by simp [bTs, bT]
    rw [e]
    refine ⟨by simp only [List.length_cons]; omega, fun y hy => ?_⟩
    rcases List.mem_cons.1 hy with rfl | hy
    · omega
    · have := h2 y hy; omega
end Go.Aw
