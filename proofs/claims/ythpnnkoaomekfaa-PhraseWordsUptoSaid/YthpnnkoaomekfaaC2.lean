/- Contracts of functions of the given program, by the abstract walk, for law PhraseWordsUpto: what each one hands back; no condition but those that each theorem states. -/
import Derived.Test.YthpnnkoaomekfaaC1
import Derived.Test.YthpnnkoaomekfaaL1
import Derived.Test.YthpnnkoaomekfaaW3
namespace Go.Aw
open Go.Proofs
set_option maxRecDepth 100000

end Go.Aw
namespace Go.Aw
open Go.Proofs
set_option maxRecDepth 100000

def vintl (xs : List Int) : List V := xs.map fun x => V.g (.i x)
theorem gr_vintl {n d b g len : Nat} {h : List Blk} {l : List Int} (hb : h[b]? = some (.arr g 1 (vintl l))) (hn : n ≤ b) (hl : len = l.length) : gr n h (d + 1) (.own b g 0 len) = some (tints l) :=
  gr_own hb hn hl fun _ _ => gr_g

end Go.Aw
namespace Go.Aw
open Go.Proofs
set_option maxRecDepth 100000

/- strictly rising lists -/
abbrev Rises (l : List Int) : Prop := l.Pairwise (· < ·)

theorem rises_ext : ∀ {l m : List Int}, Rises l → Rises m → (∀ x, x ∈ l ↔ x ∈ m) → l = m
  | [], [], _, _, _ => rfl
  | [], y :: m, _, _, h => absurd ((h y).2 (by simp)) (by simp)
  | x :: l, [], _, _, h => absurd ((h x).1 (by simp)) (by simp)
  | x :: l, y :: m, hl, hm, h => by
    rw [Rises, List.pairwise_cons] at hl hm
    have hxy : x = y := by
      rcases Int.lt_trichotomy x y with h1 | h1 | h1
      · have := (h x).1 (by simp)
        rcases List.mem_cons.1 this with e | e
        · exact e
        · have := hm.1 x e; omega
      · exact h1
      · have := (h y).2 (by simp)
        rcases List.mem_cons.1 this with e | e
        · exact e.symm
        · have := hl.1 y e; omega
    subst hxy
    rw [rises_ext hl.2 hm.2 (fun z => ?_)]
    constructor
    · intro hz
      rcases List.mem_cons.1 ((h z).1 (by simp [hz])) with e | e
      · have := hl.1 z hz; omega
      · exact e
    · intro hz
      rcases List.mem_cons.1 ((h z).2 (by simp [hz])) with e | e
      · have := hm.1 z hz; omega
      · exact e

end Go.Aw
namespace Go.Aw
open Go.Proofs
set_option maxRecDepth 100000

theorem tv_int {t : T} (h : TV (.i .i64) t) : ∃ n : Int, t = .i n ∧ inR .i64 n := by
  obtain ⟨cs, ⟨n, rfl, hn⟩, rfl⟩ := h
  exact ⟨n, rfl, hn⟩
theorem tvs_nil {ys : List T} (h : TVs [] ys) : ys = [] := by
  cases ys with
  | nil => rfl
  | cons _ _ => exact h.elim
theorem tvs_cons {a : Ty} {r : List Ty} {ys : List T} (h : TVs (a :: r) ys) : ∃ y zs, ys = y :: zs ∧ TV a y ∧ TVs r zs := by
  cases ys with
  | nil => exact h.elim
  | cons y zs => exact ⟨y, zs, rfl, h.1, h.2⟩

theorem ints_same (xs ys : List Int) (hl : xs.length < 9223372036854775808) (e : xs = ys) : CG Try.prog 46 [tints xs, tints ys] (.b true) := by
  have := c_ref01_Ints xs ys hl
  rwa [decide_eq_true e] at this

end Go.Aw
namespace Go.Aw
open Go.Proofs
set_option maxRecDepth 100000

theorem rise_iff : ∀ {l : List Int} {m : Int}, rise m l = true ↔ Rises l ∧ ∀ x ∈ l, m < x
  | [], m => by simp [rise]
  | x :: r, m => by
    have e : Rises (x :: r) ↔ (∀ y ∈ r, x < y) ∧ Rises r := List.pairwise_cons
    rw [rise, Bool.and_eq_true, decide_eq_true_eq, rise_iff, e]
    constructor
    · rintro ⟨h1, h2, h3⟩
      exact ⟨⟨h3, h2⟩, fun y hy => by
        rcases List.mem_cons.1 hy with e | e
        · omega
        · have := h3 y e; omega⟩
    · rintro ⟨⟨h1, h2⟩, h3⟩
      exact ⟨h3 x (by simp), h2, h1⟩
theorem mayL_iff {l : List Int} : mayL l = true ↔ Rises l ∧ (∀ x ∈ l, -1 < x) ∧ l.length ≤ 2000 := by
  rw [mayL, Bool.and_eq_true, decide_eq_true_eq, rise_iff, and_assoc]
theorem may_filter {l : List Int} {q : Int → Bool} (h : mayL l = true) : mayL (l.filter q) = true := by
  rw [mayL_iff] at h ⊢
  exact ⟨List.Pairwise.sublist List.filter_sublist h.1, fun x hx => h.2.1 x (List.mem_filter.1 hx).1, Nat.le_trans (List.length_filter_le _ _) h.2.2⟩
theorem all_may {ls : List (List Int)} (h : ls.all mayL = true) {l : List Int} (hl : l ∈ ls) : mayL l = true := by
  rw [List.all_eq_true] at h; exact h l hl

theorem andL_mem {ls : List (List Int)} (hn : ls ≠ []) (h : ls.all mayL = true) (x : Int) : x ∈ andL ls ↔ ∀ l ∈ ls, x ∈ l := by
  cases ls with
  | nil => exact absurd rfl hn
  | cons l r =>
    rw [andL, if_pos h, List.mem_filter, List.all_eq_true]
    constructor
    · rintro ⟨_, h2⟩ k hk; simpa using h2 k hk
    · intro h2; exact ⟨h2 l (by simp), fun k hk => by simpa using h2 k hk⟩
theorem andL_may {ls : List (List Int)} (h : ls.all mayL = true) : mayL (andL ls) = true := by
  cases ls with
  | nil => rfl
  | cons l r => rw [andL, if_pos h]; exact may_filter (all_may h (by simp))
theorem andL_len {l : List Int} {r : List (List Int)} : (andL (l :: r)).length ≤ l.length := by
  rw [andL]
  split
  · exact List.length_filter_le _ _
  · simp
end Go.Aw
namespace Go.Aw
open Go.Proofs
set_option maxRecDepth 100000

end Go.Aw
