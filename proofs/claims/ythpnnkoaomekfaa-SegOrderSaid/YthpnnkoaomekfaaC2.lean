/- Contracts of functions of the given program, by the abstract walk, for law SegOrder: what each one hands back; no condition but those that each theorem states. -/
import Derived.Test.YthpnnkoaomekfaaC1
import Derived.Test.YthpnnkoaomekfaaL1
import Derived.Test.YthpnnkoaomekfaaW3
namespace Go.Aw
open Go.Proofs
set_option maxRecDepth 100000

/-- with one more, in its place -/
def withL (l : List Int) (n : Int) : List Int := if ∃ h : fromN l 0 n < l.length, l[fromN l 0 n] = n then l else l.take (fromN l 0 n) ++ n :: l.drop (fromN l 0 n)

def foldW (xs : List Int) : List Int := xs.foldl withL []
theorem withL_len (l : List Int) (n : Int) : (withL l n).length ≤ l.length + 1 := by
  unfold withL
  split
  · omega
  · have := (fromN_is l n _ rfl (Nat.zero_le _)).le
    simp; omega
theorem foldW_snoc (xs : List Int) (x : Int) : foldW (xs ++ [x]) = withL (foldW xs) x := by simp [foldW]
theorem foldW_len' : ∀ (xs l : List Int), (xs.foldl withL l).length ≤ l.length + xs.length
  | [], l => by simp
  | x :: xs, l => by
    have h1 := foldW_len' xs (withL l x)
    have h2 := withL_len l x
    simp only [List.foldl_cons, List.length_cons]; omega
theorem foldW_len (xs : List Int) : (foldW xs).length ≤ xs.length := by have := foldW_len' xs []; simpa [foldW] using this
/-- what is in one at least -/
def orL (ls : List (List Int)) : List Int := if ls.all mayL = true ∧ (foldW ls.flatten).length ≤ 2000 then foldW ls.flatten else []

end Go.Aw
namespace Go.Aw
open Go.Proofs
set_option maxRecDepth 100000

def vintl (xs : List Int) : List V := xs.map fun x => V.g (.i x)
theorem vintl_len (xs : List Int) : (vintl xs).length = xs.length := by simp [vintl]
theorem vintl_get {xs : List Int} {i : Nat} (h : i < xs.length) : (vintl xs)[i]? = some (V.g (.i xs[i])) := by simp [vintl, h]
theorem vintl_app (xs ys : List Int) : vintl (xs ++ ys) = vintl xs ++ vintl ys := by simp [vintl]
theorem gr_vintl {n d b g len : Nat} {h : List Blk} {l : List Int} (hb : h[b]? = some (.arr g 1 (vintl l))) (hn : n ≤ b) (hl : len = l.length) : gr n h (d + 1) (.own b g 0 len) = some (tints l) :=
  gr_own hb hn hl fun _ _ => gr_g

theorem flat_take {α : Type} (ls : List (List α)) (k : Nat) (h : k < ls.length) : (ls.take (k + 1)).flatten = (ls.take k).flatten ++ ls[k] := by
  rw [List.take_succ_eq_append_getElem h]; simp only [List.flatten_append, List.flatten_cons, List.flatten_nil, List.append_nil]
theorem flat_le {α : Type} (ls : List (List α)) (k : Nat) : (ls.take k).flatten.length ≤ ls.flatten.length := by
  conv => rhs; rw [← List.take_append_drop k ls, List.flatten_append, List.length_append]
  omega

/-- runs of one number made one -/
def ded : List Int → List Int
  | [] => []
  | [x] => [x]
  | x :: y :: r => if x = y then ded (y :: r) else x :: ded (y :: r)
theorem ded_snoc : ∀ (l : List Int) (y x : Int), ded (l ++ [y, x]) = ded (l ++ [y]) ++ if y = x then [] else [x]
  | [], y, x => by by_cases h : y = x <;> simp [ded, h]
  | [a], y, x => by by_cases h : y = x <;> by_cases h2 : a = y <;> simp [ded, h, h2]
  | a :: b :: l, y, x => by
    have ih := ded_snoc (b :: l) y x
    simp only [List.cons_append] at ih ⊢
    by_cases h2 : a = b
    · simp only [ded, if_pos h2]; exact ih
    · simp only [ded, if_neg h2]; rw [ih]; simp
theorem ded_take {xs : List Int} {k : Nat} (h1 : 1 ≤ k) (h : k < xs.length) : ded (xs.take (k + 1)) = ded (xs.take k) ++ if xs[k - 1]'(by omega) = xs[k] then [] else [xs[k]] := by
  obtain ⟨j, rfl⟩ : ∃ j, k = j + 1 := ⟨k - 1, by omega⟩
  have e1 : xs.take (j + 1 + 1) = xs.take j ++ [xs[j], xs[j + 1]] := by
    rw [List.take_succ_eq_append_getElem h, List.take_succ_eq_append_getElem (by omega : j < xs.length)]; simp only [List.append_assoc, List.singleton_append]
  have e2 : xs.take (j + 1) = xs.take j ++ [xs[j]] := List.take_succ_eq_append_getElem (by omega)
  rw [e1, e2, ded_snoc]; rfl
theorem ded_len : ∀ (l : List Int), (ded l).length ≤ l.length
  | [] => by simp [ded]
  | [x] => by simp [ded]
  | x :: y :: r => by
    have := ded_len (y :: r)
    by_cases h : x = y
    · simp only [ded, if_pos h, List.length_cons] at this ⊢; omega
    · simp only [ded, if_neg h, List.length_cons] at this ⊢; omega

end Go.Aw
namespace Go.Aw
open Go.Proofs
set_option maxRecDepth 100000

/- strictly rising lists -/
abbrev Rises (l : List Int) : Prop := l.Pairwise (· < ·)

theorem rises_ext : ∀ {l m : List Int}, Rises l → Rises m → (∀ x, x ∈ l ↔ x ∈ m) → l = m
  | [], [], _, _, _ => rfl
  | [], y :: m, _, _, h => absurd ((h y).2 (by simp)) (by simp)
  | x :: l, [], _, _, h => absurd ((h x).1 (by simp)) (by simp)
  | x :: l, y :: m, hl, hm, h => by
    rw [Rises, List.pairwise_cons] at hl hm
    have hxy : x = y := by
      rcases Int.lt_trichotomy x y with h1 | h1 | h1
      · have := (h x).1 (by simp)
        rcases List.mem_cons.1 this with e | e
        · exact e
        · have := hm.1 x e; omega
      · exact h1
      · have := (h y).2 (by simp)
        rcases List.mem_cons.1 this with e | e
        · exact e.symm
        · have := hl.1 y e; omega
    subst hxy
    rw [rises_ext hl.2 hm.2 (fun z => ?_)]
    constructor
    · intro hz
      rcases List.mem_cons.1 ((h z).1 (by simp [hz])) with e | e
      · have := hl.1 z hz; omega
      · exact e
    · intro hz
      rcases List.mem_cons.1 ((h z).2 (by simp [hz])) with e | e
      · have := hm.1 z hz; omega
      · exact e

theorem ded_rises : ∀ {l : List Int}, l.Pairwise (· ≤ ·) → Rises (ded l) ∧ ∀ x, x ∈ ded l ↔ x ∈ l
  | [], _ => ⟨.nil, fun _ => Iff.rfl⟩
  | [x], _ => ⟨by simp [ded], fun _ => Iff.rfl⟩
  | x :: y :: r, h => by
    rw [List.pairwise_cons] at h
    obtain ⟨h1, h2⟩ := ded_rises h.2
    by_cases e : x = y
    · simp only [ded, if_pos e]
      refine ⟨h1, fun z => ?_⟩
      rw [h2 z]; subst e; simp
    · simp only [ded, if_neg e]
      refine ⟨List.pairwise_cons.2 ⟨fun z hz => ?_, h1⟩, fun z => by rw [List.mem_cons, h2 z, List.mem_cons (a := z) (b := x)]⟩
      have hz' := (h2 z).1 hz
      have hx := h.1 y (by simp)
      have := h.1 z hz'
      rcases List.mem_cons.1 hz' with e2 | e2
      · omega
      · have := (List.pairwise_cons.1 h.2).1 z e2
        omega

theorem withL_rises {l : List Int} {n : Int} (h : Rises l) : Rises (withL l n) ∧ ∀ x, x ∈ withL l n ↔ x ∈ l ∨ x = n := by
  have hf := fromN_is l n _ rfl (Nat.zero_le _)
  generalize hp : fromN l 0 n = p at hf
  unfold withL
  rw [hp]
  split
  · rename_i hc
    obtain ⟨h1, h2⟩ := hc
    exact ⟨h, fun x => ⟨.inl, fun hx => hx.elim id fun e => by rw [e, ← h2]; exact List.getElem_mem _⟩⟩
  · rename_i hc
    have hsp : l = l.take p ++ l.drop p := (List.take_append_drop p l).symm
    have hlo : ∀ x ∈ l.take p, x < n := fun x hx => by
      obtain ⟨i, hi, rfl⟩ := List.getElem_of_mem hx
      simp at hi ⊢
      exact hf.lo i (by omega) (Nat.zero_le _) (by omega)
    have hrd : Rises (l.drop p) := List.Pairwise.sublist (List.drop_sublist p l) h
    have hhi : ∀ x ∈ l.drop p, n < x := fun x hx => by
      have hlt : p < l.length := by
        rcases Nat.lt_or_ge p l.length with h1 | h1
        · exact h1
        · rw [List.drop_of_length_le h1] at hx; simp at hx
      have h1 := hf.hi hlt
      have h2 : l[p] ≠ n := fun e => hc ⟨hlt, e⟩
      rw [List.drop_eq_getElem_cons hlt] at hx hrd
      rcases List.mem_cons.1 hx with e | e
      · omega
      · have := (List.pairwise_cons.1 hrd).1 x e; omega
    refine ⟨?_, fun x => ?_⟩
    · refine List.pairwise_append.2 ⟨List.Pairwise.sublist (List.take_sublist p l) h, List.pairwise_cons.2 ⟨hhi, hrd⟩, fun a ha b hb => ?_⟩
      rcases List.mem_cons.1 hb with e | e
      · rw [e]; exact hlo a ha
      · have := hlo a ha; have := hhi b e; omega
    · rw [List.mem_append, List.mem_cons]
      constructor
      · rintro (h1 | h1 | h1)
        · exact .inl (List.mem_of_mem_take h1)
        · exact .inr h1
        · exact .inl (List.mem_of_mem_drop h1)
      · rintro (h1 | h1)
        · rw [hsp, List.mem_append] at h1
          exact h1.elim .inl fun h => .inr (.inr h)
        · exact .inr (.inl h1)

theorem foldW_rises' : ∀ (xs l : List Int), Rises l → Rises (xs.foldl withL l) ∧ ∀ x, x ∈ xs.foldl withL l ↔ x ∈ l ∨ x ∈ xs
  | [], l, h => ⟨h, fun x => by simp⟩
  | y :: xs, l, h => by
    obtain ⟨h1, h2⟩ := withL_rises (n := y) h
    obtain ⟨h3, h4⟩ := foldW_rises' xs (withL l y) h1
    refine ⟨h3, fun x => ?_⟩
    rw [List.foldl_cons, h4 x, h2 x, List.mem_cons, or_assoc]
theorem foldW_rises (xs : List Int) : Rises (foldW xs) ∧ ∀ x, x ∈ foldW xs ↔ x ∈ xs := by
  have := foldW_rises' xs [] .nil
  exact ⟨this.1, fun x => by rw [foldW, this.2 x]; simp⟩

theorem sort_le (xs : List Int) : (xs.mergeSort fun x y => decide (x ≤ y)).Pairwise (· ≤ ·) := by
  have := List.pairwise_mergeSort (le := fun x y : Int => decide (x ≤ y)) (fun a b c h1 h2 => by simp at h1 h2 ⊢; omega) (fun a b => by simp; omega) xs
  exact this.imp (fun h => by simpa using h)
theorem ded_sort (xs : List Int) : ded (xs.mergeSort fun x y => decide (x ≤ y)) = foldW xs := by
  obtain ⟨h1, h2⟩ := ded_rises (sort_le xs)
  obtain ⟨h3, h4⟩ := foldW_rises xs
  exact rises_ext h1 h3 fun x => by rw [h2 x, h4 x, List.mem_mergeSort]

end Go.Aw
namespace Go.Aw
open Go.Proofs
set_option maxRecDepth 100000

theorem tv_int {t : T} (h : TV (.i .i64) t) : ∃ n : Int, t = .i n ∧ inR .i64 n := by
  obtain ⟨cs, ⟨n, rfl, hn⟩, rfl⟩ := h
  exact ⟨n, rfl, hn⟩
theorem tv_ints {t : T} (h : TV (.sl 1 (.i .i64)) t) : ∃ xs : List Int, t = tints xs ∧ xs.length ≤ maxLen := by
  obtain ⟨cs, ⟨es, rfl, hl, he⟩, rfl⟩ := h
  have : ∃ xs : List Int, es = xs.map T.i := by
    clear hl
    induction es with
    | nil => exact ⟨[], rfl⟩
    | cons e es ih =>
      obtain ⟨xs, rfl⟩ := ih fun x hx => he x (by simp [hx])
      obtain ⟨ys, ⟨n, rfl, _⟩, rfl⟩ := he e (by simp)
      exact ⟨n :: xs, rfl⟩
  obtain ⟨xs, rfl⟩ := this
  exact ⟨xs, rfl, by simpa using hl⟩
theorem tv_intss {t : T} (h : TV (.sl 1 (.sl 1 (.i .i64))) t) : ∃ xs : List (List Int), t = intss xs ∧ xs.length ≤ maxLen ∧ ∀ x ∈ xs, x.length ≤ maxLen := by
  obtain ⟨cs, ⟨es, rfl, hl, he⟩, rfl⟩ := h
  have : ∃ xs : List (List Int), es = xs.map tints ∧ ∀ x ∈ xs, x.length ≤ maxLen := by
    clear hl
    induction es with
    | nil => exact ⟨[], rfl, by simp⟩
    | cons e es ih =>
      obtain ⟨xs, rfl, hxs⟩ := ih fun x hx => he x (by simp [hx])
      obtain ⟨ys, h1, rfl⟩ := he e (by simp)
      obtain ⟨zs, h2, h3⟩ := tv_ints (t := mkT (Ty.sl 1 (.i .i64)).ag ys) ⟨ys, h1, rfl⟩
      exact ⟨zs :: xs, by rw [h2]; rfl, by simpa using ⟨h3, hxs⟩⟩
  obtain ⟨xs, rfl, hxs⟩ := this
  exact ⟨xs, rfl, by simpa using hl, hxs⟩

theorem tvs_nil {ys : List T} (h : TVs [] ys) : ys = [] := by
  cases ys with
  | nil => rfl
  | cons _ _ => exact h.elim
theorem tvs_cons {a : Ty} {r : List Ty} {ys : List T} (h : TVs (a :: r) ys) : ∃ y zs, ys = y :: zs ∧ TV a y ∧ TVs r zs := by
  cases ys with
  | nil => exact h.elim
  | cons y zs => exact ⟨y, zs, rfl, h.1, h.2⟩

theorem ints_same (xs ys : List Int) (hl : xs.length < 9223372036854775808) (e : xs = ys) : CG Try.prog 46 [tints xs, tints ys] (.b true) := by
  have := c_ref01_Ints xs ys hl
  rwa [decide_eq_true e] at this

end Go.Aw
namespace Go.Aw
open Go.Proofs
set_option maxRecDepth 100000

theorem rise_iff : ∀ {l : List Int} {m : Int}, rise m l = true ↔ Rises l ∧ ∀ x ∈ l, m < x
  | [], m => by simp [rise]
  | x :: r, m => by
    have e : Rises (x :: r) ↔ (∀ y ∈ r, x < y) ∧ Rises r := List.pairwise_cons
    rw [rise, Bool.and_eq_true, decide_eq_true_eq, rise_iff, e]
    constructor
    · rintro ⟨h1, h2, h3⟩
      exact ⟨⟨h3, h2⟩, fun y hy => by
        rcases List.mem_cons.1 hy with e | e
        · omega
        · have := h3 y e; omega⟩
    · rintro ⟨⟨h1, h2⟩, h3⟩
      exact ⟨h3 x (by simp), h2, h1⟩
theorem mayL_iff {l : List Int} : mayL l = true ↔ Rises l ∧ (∀ x ∈ l, -1 < x) ∧ l.length ≤ 2000 := by
  rw [mayL, Bool.and_eq_true, decide_eq_true_eq, rise_iff, and_assoc]
theorem may_filter {l : List Int} {q : Int → Bool} (h : mayL l = true) : mayL (l.filter q) = true := by
  rw [mayL_iff] at h ⊢
  exact ⟨List.Pairwise.sublist List.filter_sublist h.1, fun x hx => h.2.1 x (List.mem_filter.1 hx).1, Nat.le_trans (List.length_filter_le _ _) h.2.2⟩
theorem all_may {ls : List (List Int)} (h : ls.all mayL = true) {l : List Int} (hl : l ∈ ls) : mayL l = true := by
  rw [List.all_eq_true] at h; exact h l hl

theorem andL_mem {ls : List (List Int)} (hn : ls ≠ []) (h : ls.all mayL = true) (x : Int) : x ∈ andL ls ↔ ∀ l ∈ ls, x ∈ l := by
  cases ls with
  | nil => exact absurd rfl hn
  | cons l r =>
    rw [andL, if_pos h, List.mem_filter, List.all_eq_true]
    constructor
    · rintro ⟨_, h2⟩ k hk; simpa using h2 k hk
    · intro h2; exact ⟨h2 l (by simp), fun k hk => by simpa using h2 k hk⟩
theorem andL_may {ls : List (List Int)} (h : ls.all mayL = true) : mayL (andL ls) = true := by
  cases ls with
  | nil => rfl
  | cons l r => rw [andL, if_pos h]; exact may_filter (all_may h (by simp))
theorem butL_mem {a b : List Int} (ha : mayL a = true) (hb : mayL b = true) (x : Int) : x ∈ butL a b ↔ x ∈ a ∧ x ∉ b := by
  rw [butL, if_pos ⟨ha, hb⟩, List.mem_filter]; simp
theorem butL_may {a b : List Int} (ha : mayL a = true) (hb : mayL b = true) : mayL (butL a b) = true := by
  rw [butL, if_pos ⟨ha, hb⟩]; exact may_filter ha
theorem orL_mem {ls : List (List Int)} (h : ls.all mayL = true) (hl : ls.flatten.length ≤ 2000) (x : Int) : x ∈ orL ls ↔ ∃ l ∈ ls, x ∈ l := by
  rw [orL, if_pos ⟨h, Nat.le_trans (foldW_len _) hl⟩, (foldW_rises _).2 x, List.mem_flatten]
theorem orL_may {ls : List (List Int)} (h : ls.all mayL = true) (hl : ls.flatten.length ≤ 2000) : mayL (orL ls) = true := by
  rw [mayL_iff]
  refine ⟨?_, fun x hx => ?_, ?_⟩
  · rw [orL, if_pos ⟨h, Nat.le_trans (foldW_len _) hl⟩]; exact (foldW_rises _).1
  · obtain ⟨l, h1, h2⟩ := (orL_mem h hl x).1 hx
    exact (mayL_iff.1 (all_may h h1)).2.1 x h2
  · rw [orL, if_pos ⟨h, Nat.le_trans (foldW_len _) hl⟩]; exact Nat.le_trans (foldW_len _) hl
theorem orL_len {ls : List (List Int)} : (orL ls).length ≤ ls.flatten.length := by
  unfold orL; split
  · exact foldW_len _
  · simp
theorem andL_len {l : List Int} {r : List (List Int)} : (andL (l :: r)).length ≤ l.length := by
  rw [andL]
  split
  · exact List.length_filter_le _ _
  · simp
theorem butL_len {a b : List Int} : (butL a b).length ≤ a.length := by
  unfold butL; split
  · exact List.length_filter_le _ _
  · simp
theorem may_ext {a b : List Int} (ha : mayL a = true) (hb : mayL b = true) (h : ∀ x, x ∈ a ↔ x ∈ b) : a = b := rises_ext (mayL_iff.1 ha).1 (mayL_iff.1 hb).1 h

theorem foldW_self {a : List Int} (h : Rises a) : foldW a = a := rises_ext (foldW_rises a).1 h (foldW_rises a).2
theorem withL_length {l : List Int} {n : Int} (h : Rises l) : (withL l n).length = l.length + if n ∈ l then 0 else 1 := by
  have hm := (withL_rises (n := n) h).2
  by_cases hn : n ∈ l
  · rw [if_pos hn, rises_ext (withL_rises (n := n) h).1 h fun x => ⟨fun hx => ((hm x).1 hx).elim id fun e => e ▸ hn, fun hx => (hm x).2 (.inl hx)⟩]; rfl
  · rw [if_neg hn, withL, if_neg (fun ⟨h1, h2⟩ => hn (by rw [← h2]; exact List.getElem_mem _))]
    have := (fromN_is l n _ rfl (Nat.zero_le _)).le
    simp; omega
theorem foldl_length : ∀ {b l : List Int}, Rises l → Rises b → (b.foldl withL l).length = l.length + (b.filter fun x => !decide (x ∈ l)).length
  | [], l, _, _ => by simp
  | y :: b, l, hl, hb => by
    rw [Rises, List.pairwise_cons] at hb
    rw [List.foldl_cons, foldl_length (withL_rises (n := y) hl).1 hb.2, withL_length hl]
    have e : b.filter (fun x => !decide (x ∈ withL l y)) = b.filter (fun x => !decide (x ∈ l)) := by
      apply List.filter_congr
      intro x hx
      have hne : x ≠ y := by have := hb.1 x hx; omega
      have := (withL_rises (n := y) hl).2 x
      by_cases h : x ∈ l
      · rw [decide_eq_true h, decide_eq_true (this.2 (.inl h))]
      · rw [decide_eq_false h, decide_eq_false (fun h2 => (this.1 h2).elim h hne)]
    rw [e]
    by_cases h : y ∈ l
    · rw [if_pos h, List.filter_cons, if_neg (by simp [h])]; rfl
    · rw [if_neg h, List.filter_cons, if_pos (by simp [h])]; simp; omega
theorem or_and_len {a b : List Int} (ha : mayL a = true) (hb : mayL b = true) (hl : a.length + b.length ≤ 2000) : (orL [a, b]).length + (andL [a, b]).length = a.length + b.length := by
  have hra := (mayL_iff.1 ha).1
  have hrb := (mayL_iff.1 hb).1
  have hall : [a, b].all mayL = true := by simp [ha, hb]
  have e1 : orL [a, b] = b.foldl withL a := by
    rw [orL, if_pos ⟨hall, Nat.le_trans (foldW_len _) (by simpa using hl)⟩]
    have : foldW [a, b].flatten = b.foldl withL (foldW a) := by simp [foldW]
    rw [this, foldW_self hra]
  have e2 : andL [a, b] = b.filter fun x => decide (x ∈ a) := by
    refine rises_ext (mayL_iff.1 (andL_may hall)).1 (List.Pairwise.sublist List.filter_sublist hrb) fun x => ?_
    rw [andL_mem (by simp) hall, List.mem_filter]
    simp [and_comm]
  rw [e1, e2, foldl_length hra hrb]
  have h3 : ∀ (b : List Int) (p : Int → Bool), (b.filter fun x => !p x).length + (b.filter p).length = b.length := by
    intro b p
    induction b with
    | nil => rfl
    | cons x b ih => cases h : p x <;> simp [h] <;> omega
  have := h3 b fun x => decide (x ∈ a)
  omega
end Go.Aw
namespace Go.Aw
open Go.Proofs
set_option maxRecDepth 100000

theorem few_true {ls : List (List Int)} (h : (decide (ls.length ≤ 5) && ls.all fun l => decide (l.length ≤ 300)) = true) : ls.length ≤ 5 ∧ ∀ l ∈ ls, l.length ≤ 300 := by
  rw [Bool.and_eq_true, List.all_eq_true, decide_eq_true_eq] at h
  exact ⟨h.1, fun l hl => by simpa using h.2 l hl⟩
theorem flat_bound : ∀ {ls : List (List Int)} {n : Nat}, (∀ l ∈ ls, l.length ≤ n) → ls.flatten.length ≤ ls.length * n
  | [], _, _ => by simp
  | l :: r, n, h => by
    have h1 := h l (by simp)
    have h2 := flat_bound (ls := r) (n := n) fun k hk => h k (by simp [hk])
    rw [List.flatten_cons, List.length_append, List.length_cons, Nat.add_mul]; omega
theorem has_true {xs : List Int} {n : Int} {b : Bool} (hl : xs.length < 9223372036854775808) (e : decide (n ∈ xs) = b) : CG Try.prog 50 [tints xs, .i n] (.b b) := by
  have := c_ref16_Has xs n hl; rwa [e] at this

end Go.Aw
