/- Contracts of functions of the given program, by the abstract walk, for law PhraseWordsUpto: what each one hands back; no condition but those that each theorem states. -/
import Derived.Test.YthpnnkoaomekfaaC4
namespace Go.Aw
open Go.Proofs
set_option maxRecDepth 100000

end Go.Aw
namespace Go.Aw
open Go.Proofs
set_option maxRecDepth 100000
set_option maxHeartbeats 4000000

theorem stands_mem {n : List Po} {d x : Int} : standsL n d x = true ↔ ∃ p ∈ n, p.1 = d ∧ x ∈ p.2 := by
  simp [standsL, List.any_eq_true]
theorem stands_at {n : List Po} (h : mayP n = true) {i : Nat} (hi : i < n.length) {x : Int} : standsL n n[i].1 x = decide (x ∈ n[i].2) := by
  rw [Bool.eq_iff_iff, stands_mem, decide_eq_true_eq]
  constructor
  · rintro ⟨p, hp, h1, h2⟩
    obtain ⟨j, hj, rfl⟩ := List.getElem_of_mem hp
    have := doc_inj h hj hi h1
    subst this; exact h2
  · intro h2; exact ⟨_, List.getElem_mem hi, rfl, h2⟩
theorem stands_none {n : List Po} {d x : Int} (h : ∀ p ∈ n, p.1 ≠ d) : standsL n d x = false := by
  rw [← Bool.not_eq_true, stands_mem]
  rintro ⟨p, hp, h1, _⟩; exact h p hp h1
theorem mem_refNear {l : List (List Po)} {p : Po} (h : p ∈ refNear l) : ∃ D : Nat, D < 64 ∧ p = ((D : Int), refAt l D 120) ∧ refAt l D 120 ≠ [] ∧ l.all mayP = true ∧ l ≠ [] := by
  unfold refNear at h; split at h
  · rename_i hc
    obtain ⟨d, hd0, hd⟩ := List.mem_filterMap.1 h
    unfold refF at hd
    split at hd
    · cases hd
    · rename_i hne; cases hd; exact ⟨d, List.mem_range.1 hd0, rfl, hne, hc⟩
  · simp at h
theorem near_may (l : List (List Po)) : mayP (refNear l) = true := by
  rw [mayP_iff]
  refine ⟨fun p hp => ?_, near_len, ?_, fun x hx => ?_⟩
  · obtain ⟨D, _, rfl, hne, _⟩ := mem_refNear hp
    have h1 : risE 120 (-1) (refAt l D 120) = true := risE_iff.2 ⟨refAt_rises, fun x hx => by obtain ⟨p, h1, _, rfl⟩ := mem_refAt.1 hx; omega⟩
    have h2 := refAt_len (l := l) (d := D) (n := 120)
    have h3 := List.length_pos_iff.2 hne
    simp [okP, h1]; omega
  · unfold refNear; split
    · show List.Pairwise _ (List.map _ _)
      rw [List.pairwise_map, List.pairwise_filterMap]
      refine List.Pairwise.imp ?_ List.pairwise_lt_range
      intro a b hab p hp q hq
      unfold refF at hp hq
      split at hp
      · cases hp
      · split at hq
        · cases hq
        · cases hp; cases hq; show (a : Int) < b; omega
    · exact .nil
  · obtain ⟨p, hp, rfl⟩ := List.mem_map.1 hx
    obtain ⟨D, hD, rfl, _⟩ := mem_refNear hp
    dsimp only; omega
theorem near_stands {l : List (List Po)} (hn : l ≠ []) (hall : l.all mayP = true) {d x : Int} : standsL (refNear l) d x = true ↔ ∀ (k : Nat) (h : k < l.length), standsL l[k] d (x + k) = true := by
  constructor
  · intro h
    obtain ⟨p, hp, rfl, hx⟩ := stands_mem.1 h
    obtain ⟨D, _, rfl, _⟩ := mem_refNear hp
    obtain ⟨P, _, h2, rfl⟩ := mem_refAt.1 hx
    exact refA_iff.1 h2
  · intro h
    have h0 : 0 < l.length := List.length_pos_iff.2 hn
    have hm0 := List.all_eq_true.1 hall _ (List.getElem_mem h0)
    obtain ⟨p, hp, hd, hx⟩ := stands_mem.1 (h 0 h0)
    have b1 := mayP_doc hm0 p hp
    have b2 := (risE_ge (mayP_ok hm0 p hp).2.2).2 _ hx
    obtain ⟨D, hD⟩ : ∃ D : Nat, d = D := ⟨d.toNat, by omega⟩
    obtain ⟨X, hX⟩ : ∃ X : Nat, x = X := ⟨x.toNat, by omega⟩
    subst hD hX
    have hmem : (X : Int) ∈ refAt l D 120 := mem_refAt.2 ⟨X, by omega, refA_iff.2 h, rfl⟩
    refine stands_mem.2 ⟨((D : Int), refAt l D 120), ?_, rfl, hmem⟩
    rw [refNear, if_pos ⟨hall, hn⟩]
    refine List.mem_filterMap.2 ⟨D, List.mem_range.2 (by omega), ?_⟩
    rw [refF, if_neg (fun e => by rw [e] at hmem; simp at hmem)]
theorem c_Near (l : List (List Po)) (hl : l.length < 1000000) (hs : ∀ one ∈ l, one.length < 1000000000) (hp : ∀ one ∈ l, ∀ p ∈ one, p.2.length < 1000000000) :
    CG Try.prog 48 [.sl 1 (l.map tposts)] (tposts (refNear l)) := by
  have := c_phrase_Near l hl hs hp
  rwa [near_ref] at this

/-- what Find and Has tell of a posting -/
theorem find_has {n : List Po} {d : Int} (h : mayP n = true) : (∃ (i : Nat) (hi : i < n.length), findP n d = i ∧ ∀ x, standsL n d x = decide (x ∈ n[i].2)) ∨ (findP n d = -1 ∧ ∀ x, standsL n d x = false) := by
  rcases find_cases d h with ⟨i, hi, e, hd⟩ | ⟨e, hno⟩
  · subst hd; exact .inl ⟨i, hi, e, fun x => stands_at h hi⟩
  · exact .inr ⟨e, fun x => stands_none hno⟩
end Go.Aw
namespace Go.Aw
open Go.Proofs
set_option maxRecDepth 100000
set_option maxHeartbeats 4000000

end Go.Aw
