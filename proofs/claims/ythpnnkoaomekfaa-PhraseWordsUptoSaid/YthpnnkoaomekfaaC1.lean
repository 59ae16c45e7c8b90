/- Contracts of functions of the given program, by the abstract walk, for law PhraseWordsUpto: what each one hands back; no condition but those that each theorem states. -/
import Derived.Test.YthpnnkoaomekfaaF
import Derived.Test.YthpnnkoaomekfaaW2
namespace Go.Aw
open Go.Proofs
set_option maxRecDepth 100000

def ints (xs : List Int) : V := .g (.sl 1 (xs.map T.i))
def tints (xs : List Int) : T := .sl 1 (xs.map T.i)
def intss (xs : List (List Int)) : T := .sl 1 (xs.map tints)

/- lists that may be -/
def rise : Int → List Int → Bool
  | _, [] => true
  | l, x :: xs => decide (l < x) && rise x xs
def mayL (xs : List Int) : Bool := rise (-1) xs && decide (xs.length ≤ 2000)

theorem rise_drop {l : Int} {xs : List Int} {k : Nat} (h : k < xs.length) : rise l (xs.drop k) = (decide (l < xs[k]) && rise xs[k] (xs.drop (k + 1))) := by
  rw [List.drop_eq_getElem_cons h]; rfl

theorem c_lists_May (xs : List Int) (hl : xs.length < 9223372036854775808) : CG Try.prog 169 [tints xs] (.b (mayL xs)) := by
  refine ⟨k_lists_May.calls ?_⟩
  conv => whnf
  refine SW.loop (α := Nat × Int) (fun a => tm 20 [(0, ints xs), (3, .g (.i a.2)), (6, ints xs), (7, .g (.i xs.length)), (8, .g (.i a.1))]) (fun _ => []) (fun a => a.1 ≤ xs.length ∧ rise (-1) xs = rise a.2 (xs.drop a.1)) (fun a => xs.length - a.1) (0, -1) ?_ ?_ ?_ ?_
  · simp
  · rfl
  · simp [subT, subV, tm, tmGo, ints, tints]
  · rintro ⟨k, l⟩ ⟨hk, hr⟩
    dsimp only at hk hr ⊢
    conv => whnf
    refine Br.dec (fun h => ?_) (fun h => ?_)
    · conv => whnf
      refine ⟨by simp; omega, rfl, ?_⟩
      conv => whnf
      refine ⟨_, getZ (by omega), ?_⟩
      conv => whnf
      have hk' : k < xs.length := by omega
      rw [rise_drop hk'] at hr
      refine Br.dec (fun h2 => ?_) (fun h2 => ?_)
      · conv => whnf
        rw [mayL, hr, decide_eq_false (by omega)]
        exact ⟨Ends.keep ⟨rfl, rfl⟩⟩
      · conv => whnf
        refine ⟨in64 (by omega) (by omega), ?_⟩
        conv => whnf
        rw [decide_eq_true (by omega), Bool.true_and] at hr
        exact ⟨⟨(k + 1, xs[k]), ⟨hk', hr⟩, by show xs.length - (k + 1) < xs.length - k; omega, rfl, by simp [subT, subV, tm, tmGo, ints]⟩⟩
    · conv => whnf
      have : k = xs.length := by omega
      subst this
      rw [List.drop_length] at hr
      rw [mayL, hr]
      refine ⟨Ends.keep ⟨?_, rfl⟩⟩
      simp [rise]; omega

theorem c_ref01_Ints (xs ys : List Int) (hl : xs.length < 9223372036854775808) : CG Try.prog 46 [tints xs, tints ys] (.b (decide (xs = ys))) := by
  refine ⟨k_ref01_Ints.calls ?_⟩
  have hm : (xs.map T.i).length = xs.length := by simp
  have hm2 : (ys.map T.i).length = ys.length := by simp
  conv => whnf
  refine Br.ne (fun h => ?_) (fun h => ?_)
  · conv => whnf
    rw [decide_eq_false (fun e => h (by rw [hm, hm2, e]))]
    exact ⟨Ends.keep ⟨rfl, rfl⟩⟩
  conv => whnf
  have he : xs.length = ys.length := by omega
  refine SW.loop (α := Nat) (fun a => tm 26 [(0, ints xs), (1, ints ys), (5, .g (.i a))]) (fun _ => []) (fun a => a ≤ xs.length ∧ xs.take a = ys.take a) (fun a => xs.length - a) 0 ?_ ?_ ?_ ?_
  · simp
  · rfl
  · simp [subT, subV, tm, tmGo, ints, tints]
  · rintro k ⟨hk, hr⟩
    dsimp only at hk hr ⊢
    conv => whnf
    refine Br.dec (fun h => ?_) (fun h => ?_)
    · conv => whnf
      refine ⟨by simp; omega, rfl, ?_⟩
      conv => whnf
      refine ⟨_, getZ (by omega), ?_⟩
      conv => whnf
      refine ⟨by simp; omega, rfl, ?_⟩
      conv => whnf
      refine ⟨_, getZ (by omega), ?_⟩
      conv => whnf
      have hk' : k < xs.length := by omega
      refine Br.ne (fun h2 => ?_) (fun h2 => ?_)
      · conv => whnf
        rw [decide_eq_false (fun e => h2 (by subst e; rfl))]
        exact ⟨Ends.keep ⟨rfl, rfl⟩⟩
      · conv => whnf
        refine ⟨in64 (by omega) (by omega), ?_⟩
        conv => whnf
        refine ⟨⟨k + 1, ⟨hk', ?_⟩, by show xs.length - (k + 1) < xs.length - k; omega, rfl, by simp [subT, subV, tm, tmGo, ints]⟩⟩
        rw [List.take_succ_eq_append_getElem hk', List.take_succ_eq_append_getElem (by omega), hr]
        exact congrArg (fun z => ys.take k ++ [z]) h2
    · conv => whnf
      have : k = xs.length := by omega
      subst this
      have e : xs = ys := by rw [List.take_length, he, List.take_length] at hr; exact hr
      rw [decide_eq_true e]
      exact ⟨Ends.keep ⟨rfl, rfl⟩⟩

theorem c_ref16_Has (xs : List Int) (n : Int) (hl : xs.length < 9223372036854775808) : CG Try.prog 50 [tints xs, .i n] (.b (decide (n ∈ xs))) := by
  refine ⟨k_ref16_Has.calls ?_⟩
  have hm : (xs.map T.i).length = xs.length := by simp
  conv => whnf
  refine SW.loop (α := Nat) (fun a => tm 18 [(0, ints xs), (1, .g (.i n)), (5, .g (.i a))]) (fun _ => []) (fun a => a ≤ xs.length ∧ n ∉ xs.take a) (fun a => xs.length - a) 0 ?_ ?_ ?_ ?_
  · simp
  · rfl
  · simp [subT, subV, tm, tmGo, ints, tints]
  · rintro k ⟨hk, hr⟩
    dsimp only at hk hr ⊢
    conv => whnf
    refine Br.dec (fun h => ?_) (fun h => ?_)
    · conv => whnf
      refine ⟨by simp; omega, rfl, ?_⟩
      conv => whnf
      refine ⟨_, getZ (by omega), ?_⟩
      conv => whnf
      have hk' : k < xs.length := by omega
      refine Br.eq (fun h2 => ?_) (fun h2 => ?_)
      · conv => whnf
        rw [decide_eq_true (p := n ∈ xs) (by rw [← h2]; exact List.getElem_mem _)]
        exact ⟨Ends.keep ⟨rfl, rfl⟩⟩
      · conv => whnf
        refine ⟨in64 (by omega) (by omega), ?_⟩
        conv => whnf
        refine ⟨⟨k + 1, ⟨hk', ?_⟩, by show xs.length - (k + 1) < xs.length - k; omega, rfl, by simp [subT, subV, tm, tmGo, ints]⟩⟩
        rw [List.take_succ_eq_append_getElem hk']
        simp only [List.mem_append, List.mem_singleton, not_or]
        exact ⟨hr, fun e => h2 e.symm⟩
    · conv => whnf
      have : k = xs.length := by omega
      subst this
      rw [List.take_length] at hr
      rw [decide_eq_false hr]
      exact ⟨Ends.keep ⟨rfl, rfl⟩⟩

theorem c_lists_allS1 (xs : List Int) (hl : xs.length < 9223372036854775808) : CG Try.prog 168 [tints xs] (.b (!mayL xs)) := by
  refine ⟨k_lists_allS1.calls ?_⟩
  conv => whnf
  refine (c_lists_May xs hl).go rfl ?_
  conv => whnf
  exact ⟨Ends.keep ⟨rfl, rfl⟩⟩

/-- lists.all's search: the first list that may not be -/
theorem c_slices_IndexFunc_LLint_Lint (ls : List (List Int)) (hl : ls.length < 9223372036854775808) (hls : ∀ l ∈ ls, l.length < 9223372036854775808) :
    ACalls Try.prog 190 [.g (intss ls), .fn 168 []] [] (fun r h => ∃ n : Int, r = .g (.i n) ∧ (decide (0 ≤ n) = !ls.all mayL) ∧ h = []) := by
  refine k_slices_IndexFunc_LLint_Lint.calls ?_
  have hm : (ls.map tints).length = ls.length := by simp
  conv => whnf
  refine SW.loop (α := Nat) (fun a => tm 19 [(0, .g (intss ls)), (1, .fn 168 []), (6, .g (intss ls)), (7, .g (.i ls.length)), (8, .g (.i a))]) (fun _ => []) (fun a => a ≤ ls.length ∧ (ls.take a).all mayL = true) (fun a => ls.length - a) 0 ?_ ?_ ?_ ?_
  · simp
  · rfl
  · simp [subT, subV, tm, tmGo, intss]
  · rintro k ⟨hk, hr⟩
    dsimp only at hk hr ⊢
    conv => whnf
    refine Br.dec (fun h => ?_) (fun h => ?_)
    · conv => whnf
      refine ⟨by simp; omega, rfl, ?_⟩
      conv => whnf
      refine ⟨_, getZ (by omega), ?_⟩
      conv => whnf
      have hk' : k < ls.length := by omega
      refine (c_lists_allS1 ls[k] (hls _ (List.getElem_mem _))).go rfl ?_
      conv => whnf
      refine Br.not (fun h2 => ?_) (fun h2 => ?_)
      · conv => whnf
        have : ls.all mayL = false := by
          rw [List.all_eq_false]
          exact ⟨_, List.getElem_mem hk', by rw [h2]; simp⟩
        exact ⟨Ends.keep ⟨k, rfl, by rw [this]; simp, rfl⟩⟩
      · conv => whnf
        refine ⟨in64 (by omega) (by omega), ?_⟩
        conv => whnf
        refine ⟨⟨k + 1, ⟨hk', ?_⟩, by show ls.length - (k + 1) < ls.length - k; omega, rfl, by simp [subT, subV, tm, tmGo, ints]⟩⟩
        rw [List.take_succ_eq_append_getElem hk', List.all_append, hr]
        simp [h2]
    · conv => whnf
      have : k = ls.length := by omega
      subst this
      rw [List.take_length] at hr
      exact ⟨Ends.keep ⟨-1, rfl, by rw [hr]; rfl, rfl⟩⟩
end Go.Aw
namespace Go.Aw
open Go.Proofs
set_option maxRecDepth 100000

/- where a list goes on -/
def fromN (xs : List Int) (at' : Nat) (x : Int) : Nat := at' + ((xs.drop at').takeWhile fun y => decide (y < x)).length
structure IsFrom (xs : List Int) (at' : Nat) (x : Int) (p : Nat) : Prop where
  ge : at' ≤ p
  le : p ≤ xs.length
  lo : ∀ (k : Nat) (h : k < xs.length), at' ≤ k → k < p → xs[k] < x
  hi : ∀ h : p < xs.length, x ≤ xs[p]
theorem IsFrom.eq {xs : List Int} {x : Int} {p : Nat} : ∀ (d : Nat) {at' : Nat}, p - at' = d → IsFrom xs at' x p → p = fromN xs at' x := by
  intro d
  induction d with
  | zero =>
    intro a hd h
    have : a = p := by have := h.ge; omega
    subst this
    unfold fromN
    rcases Nat.lt_or_ge a xs.length with hl | hl
    · rw [List.drop_eq_getElem_cons hl, List.takeWhile_cons, if_neg (by have := h.hi hl; simp; omega)]; rfl
    · rw [List.drop_of_length_le hl]; rfl
  | succ d ih =>
    intro a hd h
    have hl : a < xs.length := by have := h.le; omega
    have := ih (at' := a + 1) (by omega) ⟨by omega, h.le, fun k hk h1 h2 => h.lo k hk (by omega) h2, h.hi⟩
    unfold fromN at this ⊢
    rw [List.drop_eq_getElem_cons hl, List.takeWhile_cons, if_pos (by have := h.lo a hl (Nat.le_refl _) (by omega); simpa using this)]
    simp; omega
theorem fromN_is (xs : List Int) (x : Int) : ∀ (d : Nat) {at' : Nat}, xs.length - at' = d → at' ≤ xs.length → IsFrom xs at' x (fromN xs at' x) := by
  intro d
  induction d with
  | zero =>
    intro a hd h
    have : a = xs.length := by omega
    subst this
    have e : fromN xs xs.length x = xs.length := by simp [fromN]
    rw [e]
    exact ⟨Nat.le_refl _, Nat.le_refl _, fun k _ h1 h2 => by omega, fun h => by omega⟩
  | succ d ih =>
    intro a hd h
    have hl : a < xs.length := by omega
    have := ih (at' := a + 1) (by omega) hl
    by_cases hx : xs[a] < x
    · have e : fromN xs a x = fromN xs (a + 1) x := by
        unfold fromN
        rw [List.drop_eq_getElem_cons hl, List.takeWhile_cons, if_pos (by simpa using hx)]
        simp; omega
      rw [e]
      refine ⟨by have := this.ge; omega, this.le, fun k hk h1 h2 => ?_, this.hi⟩
      rcases Nat.lt_or_ge a k with h3 | h3
      · exact this.lo k hk h3 h2
      · have : k = a := by omega
        subst this; exact hx
    · have e : fromN xs a x = a := by
        unfold fromN
        rw [List.drop_eq_getElem_cons hl, List.takeWhile_cons, if_neg (by simpa using hx)]
        simp
      rw [e]
      exact ⟨Nat.le_refl _, h, fun k _ h1 h2 => by omega, fun _ => by omega⟩

/-- none is less than one ahead of it -/
def Mono (xs : List Int) : Prop := ∀ (i j : Nat) (hi : i < j) (hj : j < xs.length), xs[i] ≤ xs[j]
theorem rise_ge : ∀ {l : Int} {xs : List Int}, rise l xs = true → (∀ (i : Nat) (h : i < xs.length), l < xs[i]) ∧ ∀ (i j : Nat) (hi : i < j) (hj : j < xs.length), xs[i] < xs[j]
  | _, [], _ => ⟨fun _ h => by simp at h, fun _ _ _ h => by simp at h⟩
  | l, x :: xs, h => by
    simp only [rise, Bool.and_eq_true, decide_eq_true_eq] at h
    obtain ⟨h1, h2⟩ := rise_ge h.2
    refine ⟨fun i hi => ?_, fun i j hi hj => ?_⟩
    · cases i with
      | zero => exact h.1
      | succ i => have := h1 i (by simpa using hi); simp; omega
    · cases j with
      | zero => omega
      | succ j =>
        cases i with
        | zero => have := h1 j (by simpa using hj); simpa using this
        | succ i => simpa using h2 i j (by omega) (by simpa using hj)
theorem mayL_mono {xs : List Int} (h : mayL xs = true) : Mono xs := by
  simp only [mayL, Bool.and_eq_true] at h
  intro i j hi hj
  have := (rise_ge h.1).2 i j hi hj
  omega

theorem c_cmp_isNaN_int (x : Int) : CG Try.prog 164 [.i x] (.b false) := by
  refine ⟨k_cmp_isNaN_int.calls ?_⟩
  conv => whnf
  refine ⟨Ends.keep ⟨?_, rfl⟩⟩
  simp
theorem c_slices_isNaN_int (x : Int) : CG Try.prog 192 [.i x] (.b false) := by
  refine ⟨k_slices_isNaN_int.calls ?_⟩
  conv => whnf
  refine ⟨Ends.keep ⟨?_, rfl⟩⟩
  simp
theorem c_cmp_Less_int (x y : Int) : CG Try.prog 191 [.i x, .i y] (.b (decide (x < y))) := by
  refine ⟨k_cmp_Less_int.calls ?_⟩
  conv => whnf
  refine (c_cmp_isNaN_int x).go rfl ?_
  conv => whnf
  exact ⟨Ends.keep ⟨rfl, rfl⟩⟩

theorem half (i j : Nat) (h : i + j < 9000000000000000000) : IntKind.i64.wrap (Int.fdiv (IntKind.u64.wrap ((i : Int) + j)) (2 ^ (min (Int.toNat 1) IntKind.u64.bits))) = ((i + j) / 2 : Nat) := by
  have h1 : IntKind.u64.wrap ((i : Int) + j) = ((i + j : Nat) : Int) := by
    rw [wrap_in (by simp [inR, IntKind.min, IntKind.max, IntKind.signed, IntKind.bits]; omega)]; omega
  rw [h1]
  have h2 : Int.fdiv ((i + j : Nat) : Int) (2 ^ (min (Int.toNat 1) IntKind.u64.bits)) = ((i + j) / 2 : Nat) := by
    show Int.fdiv ((i + j : Nat) : Int) 2 = _
    rw [Int.fdiv_eq_ediv_of_nonneg _ (by decide)]; omega
  rw [h2, wrap_in (in64 (by omega) (by omega))]

def foundN (xs : List Int) (x : Int) : Bool := match xs[fromN xs 0 x]? with
  | some y => y == x
  | none => false

theorem c_slices_BinarySearch_Lint_int (xs : List Int) (x : Int) (hl : xs.length < 4000000000000000000) (hs : Mono xs) : CV Try.prog 170 [tints xs, .i x] (.tu [.g (.i (fromN xs 0 x)), .g (.b (foundN xs x))]) := by
  refine ⟨k_slices_BinarySearch_Lint_int.calls ?_, V.lt.gs (ts := [_, _])⟩
  have hm : (xs.map T.i).length = xs.length := by simp
  conv => whnf
  refine SW.loop (α := Nat × Nat) (fun a => tm 54 [(0, ints xs), (1, .g (.i x)), (6, .g (.i xs.length)), (7, .g (.i a.1)), (8, .g (.i a.2))]) (fun _ => [])
    (fun a => a.1 ≤ a.2 ∧ a.2 ≤ xs.length ∧ (∀ (k : Nat) (h : k < xs.length), k < a.1 → xs[k] < x) ∧ (∀ (k : Nat) (h : k < xs.length), a.2 ≤ k → x ≤ xs[k])) (fun a => a.2 - a.1) (0, xs.length) ?_ ?_ ?_ ?_
  · exact ⟨Nat.zero_le _, Nat.le_refl _, fun _ _ h => by simp at h, fun k h1 h2 => by dsimp only at h2; omega⟩
  · rfl
  · simp [subT, subV, tm, tmGo, ints, tints]
  · rintro ⟨i, j⟩ ⟨h1, h2, h3, h4⟩
    dsimp only at h1 h2 h3 h4 ⊢
    conv => whnf
    refine Br.dec (fun h => ?_) (fun h => ?_)
    · conv => whnf
      refine ⟨in64 (by omega) (by omega), ?_⟩
      conv => whnf
      have e := half i j (by omega)
      refine ⟨by omega, ?_⟩
      conv => whnf
      rw [e]
      have hmid : i ≤ (i + j) / 2 ∧ (i + j) / 2 < j := by omega
      generalize (i + j) / 2 = m at hmid
      have hm' : m < xs.length := by omega
      refine ⟨by omega, rfl, ?_⟩
      conv => whnf
      refine ⟨_, getZ (by omega), ?_⟩
      conv => whnf
      refine (c_cmp_Less_int xs[m] x).go rfl ?_
      conv => whnf
      refine Br.dec (fun h5 => ?_) (fun h5 => ?_)
      · conv => whnf
        refine ⟨in64 (by omega) (by omega), ?_⟩
        conv => whnf
        refine ⟨⟨(m + 1, j), ⟨by dsimp only; omega, h2, fun k hk hkm => ?_, h4⟩, by show j - (m + 1) < j - i; omega, rfl, by simp [subT, subV, tm, tmGo, ints]⟩⟩
        rcases Nat.lt_or_ge k m with h6 | h6
        · have := hs k m h6 hm'; omega
        · have : k = m := by dsimp only at hkm; omega
          subst this; exact h5
      · conv => whnf
        refine ⟨⟨(i, m), ⟨by dsimp only; omega, by dsimp only; omega, h3, fun k hk hkm => ?_⟩, by show m - i < j - i; omega, rfl, by simp [subT, subV, tm, tmGo, ints]⟩⟩
        rcases Nat.lt_or_ge m k with h6 | h6
        · have := hs m k h6 hk; omega
        · have : k = m := by dsimp only at hkm; omega
          subst this; omega
    · conv => whnf
      have : i = j := by omega
      subst this
      have hp := (IsFrom.mk (Nat.zero_le _) h2 (fun k hk _ hk2 => h3 k hk hk2) (fun h => h4 _ h (Nat.le_refl _)) : IsFrom xs 0 x i).eq _ rfl
      refine Br.dec (fun h5 => ?_) (fun h5 => ?_)
      · conv => whnf
        refine ⟨by omega, rfl, ?_⟩
        conv => whnf
        refine ⟨_, getZ (by omega), ?_⟩
        conv => whnf
        have hi' : i < xs.length := by omega
        have hf : foundN xs x = (xs[i] == x) := by unfold foundN; rw [← hp]; simp [hi']
        refine Br.eq (fun h6 => ?_) (fun h6 => ?_)
        · conv => whnf
          have : foundN xs x = true := by rw [hf]; simpa using h6
          rw [this, ← hp]
          exact ⟨Ends.keep ⟨rfl, rfl⟩⟩
        · conv => whnf
          refine ⟨by omega, rfl, ?_⟩
          conv => whnf
          refine ⟨_, getZ (by omega), ?_⟩
          conv => whnf
          refine (c_slices_isNaN_int xs[i]).go rfl ?_
          conv => whnf
          have : foundN xs x = false := by rw [hf]; simpa using h6
          rw [this, ← hp]
          exact ⟨Ends.keep ⟨rfl, rfl⟩⟩
      · conv => whnf
        have : foundN xs x = false := by
          have : i = xs.length := by omega
          unfold foundN
          rw [← hp, this]; simp
        rw [this, ← hp]
        exact ⟨Ends.keep ⟨rfl, rfl⟩⟩
end Go.Aw
namespace Go.Aw
open Go.Proofs
set_option maxRecDepth 100000

theorem bin_fromN {xs : List Int} {a e : Nat} {x : Int} {p : Nat} (ha : a ≤ e) (he : e ≤ xs.length) (hhi : ∀ h : e < xs.length, x ≤ xs[e])
    (hp : p = fromN ((xs.drop a).take (e - a)) 0 x) : IsFrom xs a x (a + p) := by
  have h := fromN_is ((xs.drop a).take (e - a)) x _ rfl (Nat.zero_le _)
  rw [← hp] at h
  have hlen : ((xs.drop a).take (e - a)).length = e - a := by simp; omega
  have hget : ∀ (k : Nat) (hk : k < ((xs.drop a).take (e - a)).length), ((xs.drop a).take (e - a))[k] = xs[a + k]'(by omega) := fun k hk => by simp
  refine ⟨by omega, by have := h.le; omega, fun k hk h1 h2 => ?_, fun hp' => ?_⟩
  · have := h.lo (k - a) (by have := h.le; omega) (by omega) (by omega)
    rw [hget] at this
    have e : a + (k - a) = k := by omega
    simpa [e] using this
  · rcases Nat.lt_or_ge (a + p) e with h1 | h1
    · have := h.hi (by omega)
      rw [hget] at this; exact this
    · have e2 : a + p = e := by have := h.le; omega
      subst e2; exact hhi _

theorem mono_sub {xs : List Int} (hs : Mono xs) (a n : Nat) : Mono ((xs.drop a).take n) := by
  intro i j hi hj
  simp at hj ⊢
  exact hs _ _ (by omega) _

/-- lists.gallop: where a list goes on -/
theorem c_lists_gallop (xs : List Int) (at0 : Nat) (x : Int) (hl : xs.length < 1000000000000) (hs : Mono xs) (ha : at0 ≤ xs.length) : CG Try.prog 137 [tints xs, .i at0, .i x] (.i (fromN xs at0 x)) := by
  refine ⟨k_lists_gallop.calls ?_⟩
  have hm : (xs.map T.i).length = xs.length := by simp
  conv => whnf
  refine SW.loop (α := Nat × Nat) (fun a => tm 51 [(0, ints xs), (1, .g (.i a.1)), (2, .g (.i x)), (7, .g (.i a.2))]) (fun _ => [])
    (fun a => at0 ≤ a.1 ∧ a.1 ≤ xs.length ∧ 1 ≤ a.2 ∧ a.2 ≤ 2 * xs.length + 2 ∧ (∀ (k : Nat) (h : k < xs.length), at0 ≤ k → k < a.1 → xs[k] < x)) (fun a => xs.length - a.1) (at0, 1) ?_ ?_ ?_ ?_
  · exact ⟨Nat.le_refl _, ha, Nat.le_refl _, by dsimp only; omega, fun k h h1 h2 => by dsimp only at h2; omega⟩
  · rfl
  · simp [subT, subV, tm, tmGo, ints, tints]
  · rintro ⟨a, st⟩ ⟨h1, h2, h3, h4, h5⟩
    dsimp only at h1 h2 h3 h4 h5 ⊢
    conv => whnf
    refine ⟨in64 (by omega) (by omega), ?_⟩
    conv => whnf
    have final : ∀ e : Nat, a ≤ e → e ≤ xs.length → (∀ h : e < xs.length, x ≤ xs[e]) → a + fromN ((xs.drop a).take (e - a)) 0 x = fromN xs at0 x := by
      intro e he1 he2 he3
      have hb := bin_fromN (x := x) he1 he2 he3 rfl
      exact (IsFrom.mk (by have := hb.ge; omega) hb.le (fun k hk k1 k2 => by
        rcases Nat.lt_or_ge k a with h | h
        · exact h5 k hk k1 h
        · exact hb.lo k hk h k2) hb.hi).eq _ rfl
    refine Br.dec (fun hlt => ?_) (fun hge => ?_)
    · conv => whnf
      refine ⟨in64 (by omega) (by omega), ?_⟩
      conv => whnf
      refine ⟨by simp; omega, rfl, ?_⟩
      conv => whnf
      refine ⟨_, getI (by omega) (by omega), ?_⟩
      conv => whnf
      have e1 : xs[((a : Int) + st).toNat]'(by omega) = xs[a + st]'(by omega) := by congr 1
      rw [e1]
      refine Br.dec (fun hx => ?_) (fun hx => ?_)
      · conv => whnf
        refine ⟨in64 (by omega) (by omega), ?_⟩
        conv => whnf
        refine ⟨in64 (by omega) (by omega), ?_⟩
        conv => whnf
        refine ⟨⟨(a + st, 2 * st), ⟨by dsimp only; omega, by dsimp only; omega, by dsimp only; omega, by dsimp only; omega, fun k hk k1 k2 => ?_⟩, by dsimp only; omega, rfl, by simp [subT, subV, tm, tmGo, ints]⟩⟩
        dsimp only at k2
        have := hs k (a + st) k2 (by omega)
        omega
      · conv => whnf
        refine ⟨in64 (by omega) (by omega), ?_⟩
        conv => whnf
        refine ⟨in64 (by omega) (by omega), ?_⟩
        conv => whnf
        refine ⟨rfl, ?_⟩
        conv => whnf
        have e2 : min ((xs.map T.i).length : Int) ((a : Int) + st + 1) = ((a + st + 1 : Nat) : Int) := by omega
        rw [e2]
        refine ⟨by simp; omega, ?_⟩
        conv => whnf
        refine (c_slices_BinarySearch_Lint_int ((xs.drop a).take (a + st + 1 - a)) x (by simp; omega) (mono_sub hs _ _)).go (by simp [lit0, tints, List.map_drop, List.map_take]; rfl) ?_
        conv => whnf
        have hlen := (fromN_is ((xs.drop a).take (a + st + 1 - a)) x _ rfl (Nat.zero_le _)).le
        have hf := final (a + st + 1) (by omega) (by omega) (fun h => by have := hs (a + st) (a + st + 1) (by omega) h; omega)
        refine ⟨in64 (by omega) (by simp at hlen; omega), ?_⟩
        conv => whnf
        refine ⟨Ends.keep ⟨by rw [← hf]; simp, rfl⟩⟩
    · conv => whnf
      refine ⟨in64 (by omega) (by omega), ?_⟩
      conv => whnf
      refine ⟨in64 (by omega) (by omega), ?_⟩
      conv => whnf
      refine ⟨rfl, ?_⟩
      conv => whnf
      have e2 : min ((xs.map T.i).length : Int) ((a : Int) + st + 1) = ((xs.length : Nat) : Int) := by omega
      rw [e2]
      refine ⟨by simp; omega, ?_⟩
      conv => whnf
      refine (c_slices_BinarySearch_Lint_int ((xs.drop a).take (xs.length - a)) x (by simp; omega) (mono_sub hs _ _)).go (by simp [lit0, tints, List.map_drop, List.map_take]; rfl) ?_
      conv => whnf
      have hlen := (fromN_is ((xs.drop a).take (xs.length - a)) x _ rfl (Nat.zero_le _)).le
      have hf := final xs.length (by omega) (Nat.le_refl _) (fun h => by omega)
      refine ⟨in64 (by omega) (by simp at hlen; omega), ?_⟩
      conv => whnf
      refine ⟨Ends.keep ⟨by rw [← hf]; simp, rfl⟩⟩
end Go.Aw
namespace Go.Aw
open Go.Proofs
set_option maxRecDepth 100000

theorem c_keep3 {σ : Type} (xs : List Int) (hl : xs.length < 1000000000) (q : Int → Bool) (f : Nat) (c0 c1 : V) (B0 B1 B2 : σ → Blk) (Inv : Nat → σ → Prop) (S0 : σ) (hi : Inv 0 S0) (hlt : ∀ k, (B0 k).lt 3 ∧ (B1 k).lt 3 ∧ (B2 k).lt 3)
    (hf : ∀ (k : Nat) (h : k < xs.length) (S : σ) (L : Blk), Inv k S → ACalls Try.prog f [.g (.i xs[k]), c0, c1] [B0 S, B1 S, B2 S, L] (fun r h' => ∃ S', Inv (k + 1) S' ∧ r = .g (.b (q xs[k])) ∧ h' = [B0 S', B1 S', B2 S', L])) :
    ACalls Try.prog 135 [ints xs, .fn f [c0, c1]] [B0 S0, B1 S0, B2 S0] (fun r h' => ∃ S, r = .g (tints (xs.filter q)) ∧ h' = [B0 S, B1 S, B2 S]) := by
  refine k_lists_keep_int.calls ?_
  have hm : (xs.map T.i).length = xs.length := by simp
  conv => whnf
  refine SW.loopR (α := Nat × σ) (fun a => tm 23 [(0, ints xs), (1, .fn f [c0, c1]), (5, .own 3 ((xs.take a.1).filter q).length 0 ((xs.take a.1).filter q).length), (8, ints xs), (9, .g (.i xs.length)), (10, .g (.i a.1))])
    (fun a => [B0 a.2, B1 a.2, B2 a.2, .arr ((xs.take a.1).filter q).length 1 (((xs.take a.1).filter q).map fun x => V.g (.i x))]) (fun a => a.1 ≤ xs.length ∧ Inv a.1 a.2) (fun a => xs.length - a.1) (0, S0) ?_ ?_ ?_
  · exact ⟨Nat.zero_le _, hi⟩
  · exact (Refi.valloc 5 1 rfl).trans (Refi.sub rfl (by simp [subT, subV, tm, tmGo, ints, tints, setT]))
  · rintro ⟨k, S⟩ ⟨hk, hS⟩
    dsimp only at hk hS ⊢
    conv => whnf
    refine Br.dec (fun h => ?_) (fun h => ?_)
    · conv => whnf
      refine ⟨by simp; omega, rfl, ?_⟩
      conv => whnf
      refine ⟨_, getZ (by omega), ?_⟩
      conv => whnf
      have hk' : k < xs.length := by omega
      refine (hf k hk' S _ hS).mono ?_
      rintro r h' ⟨S', hS', rfl, rfl⟩
      conv => whnf
      have htk : xs.take (k + 1) = xs.take k ++ [xs[k]] := List.take_succ_eq_append_getElem hk'
      have hfl : ((xs.take k).filter q).length ≤ xs.length := Nat.le_trans (List.length_filter_le _ _) (by simp; omega)
      refine Br.intro (fun hq => ?_) (fun hq => ?_)
      · conv => whnf
        refine ⟨by repeat (first | exact trivial | refine ⟨⟨rfl, rfl⟩, ?_⟩), ?_⟩
        conv => whnf
        refine ⟨rfl, ?_⟩
        conv => whnf
        refine ⟨by simp; omega, ⟨rfl, rfl, rfl⟩, _, ⟨[], (List.append_nil _).symm⟩, by simp, ?_⟩
        conv => whnf
        refine ⟨in64 (by omega) (by omega), ?_⟩
        conv => whnf
        have e : (xs.take (k + 1)).filter q = (xs.take k).filter q ++ [xs[k]] := by rw [htk, List.filter_append]; simp [hq]
        refine ⟨⟨(k + 1, S'), ⟨hk', hS'⟩, by dsimp only; omega, Refi.sub ?_ ?_⟩⟩
        · dsimp only; rw [e]; simp
        · dsimp only; rw [e]; simp [subT, subV, tm, tmGo, ints]
      · conv => whnf
        refine ⟨in64 (by omega) (by omega), ?_⟩
        conv => whnf
        have e : (xs.take (k + 1)).filter q = (xs.take k).filter q := by rw [htk, List.filter_append]; simp [hq]
        refine ⟨⟨(k + 1, S'), ⟨hk', hS'⟩, by dsimp only; omega, Refi.sub ?_ ?_⟩⟩
        · dsimp only; rw [e]
        · dsimp only; rw [e]; simp [subT, subV, tm, tmGo, ints]
    · conv => whnf
      have : k = xs.length := by omega
      subst this
      rw [List.take_length]
      refine ⟨Ends.ground2 (H := [B0 S0, B1 S0, B2 S0]) (H2 := [B0 S, B1 S, B2 S]) (L := [_]) (t := tints (xs.filter q)) 1 rfl (fun b x hx => .inl ?_) ?_ ⟨S, rfl, rfl⟩⟩
      · have := hlt S
        match b, hx with
        | 0, hx => cases hx; exact this.1
        | 1, hx => cases hx; exact this.2.1
        | 2, hx => cases hx; exact this.2.2
      · exact gr_own rfl (Nat.le_refl _) rfl fun x _ => gr_g

end Go.Aw
namespace Go.Aw
open Go.Proofs
set_option maxRecDepth 100000

def vnats (l : List Nat) : List V := l.map fun n : Nat => V.g (.i (n : Int))
theorem vnats_get {l : List Nat} {i : Nat} (h : i < l.length) : (vnats l)[i]? = some (V.g (.i (l[i] : Nat))) := by simp [vnats, h]

/-- each place is within its list, and all ahead of it is less -/
def Ahead (ls : List (List Int)) (ats : List Nat) (x : Int) : Prop :=
  ats.length = ls.length ∧ ∀ (i : Nat) (h : i < ls.length) (h' : i < ats.length), ats[i] ≤ ls[i].length ∧ ∀ (j : Nat) (hj : j < ls[i].length), j < ats[i] → ls[i][j] < x

theorem mem_from {xs : List Int} {a : Nat} {x : Int} (hs : Mono xs) (ha : a ≤ xs.length) (hlo : ∀ (j : Nat) (hj : j < xs.length), j < a → xs[j] < x) :
    (∀ (j : Nat) (hj : j < xs.length), j < fromN xs a x → xs[j] < x) ∧ (x ∈ xs ↔ ∃ h : fromN xs a x < xs.length, xs[fromN xs a x] = x) := by
  have hf := fromN_is xs x _ rfl ha
  have h1 : ∀ (j : Nat) (hj : j < xs.length), j < fromN xs a x → xs[j] < x := fun j hj h => by
    rcases Nat.lt_or_ge j a with h2 | h2
    · exact hlo j hj h2
    · exact hf.lo j hj h2 h
  refine ⟨h1, fun hm => ?_, fun ⟨h, e⟩ => by rw [← e]; exact List.getElem_mem _⟩
  obtain ⟨j, hj, e⟩ := List.getElem_of_mem hm
  have hge : fromN xs a x ≤ j := by
    rcases Nat.lt_or_ge j (fromN xs a x) with h | h
    · have := h1 j hj h; omega
    · exact h
  have hlt : fromN xs a x < xs.length := by omega
  refine ⟨hlt, ?_⟩
  have h2 := hf.hi hlt
  rcases Nat.lt_or_ge (fromN xs a x) j with h | h
  · have := hs _ _ h hj; omega
  · have : fromN xs a x = j := by omega
    simp only [this]; exact e

theorem c_lists_AndS1 (ls : List (List Int)) (ats : List Nat) (x : Int) (hl : ls.length < 1000000000) (hls : ∀ l ∈ ls, l.length < 1000000000) (hs : ∀ l ∈ ls, Mono l) (ha : Ahead ls ats x) (L : Blk) :
    ACalls Try.prog 136 [.g (.i x), .pa 0 0 0 0, .pa 2 0 0 0] [.arr 0 1 [.g (intss ls)], .arr 0 1 (vnats ats), .arr 0 1 [.own 1 0 0 ls.length], L]
      (fun r h' => ∃ ats', Ahead ls ats' x ∧ r = .g (.b (ls.all fun l => decide (x ∈ l))) ∧ h' = [.arr 0 1 [.g (intss ls)], .arr 0 1 (vnats ats'), .arr 0 1 [.own 1 0 0 ls.length], L]) := by
  refine k_lists_AndS1.calls ?_
  have hm : (ls.map tints).length = ls.length := by simp
  conv => whnf
  refine ⟨rfl, _, rfl, ?_⟩
  conv => whnf
  refine SW.loop (α := Nat × List Nat) (fun a => tm 43 [(0, .g (.i x)), (1, .pa 0 0 0 0), (2, .pa 2 0 0 0), (7, .g (intss ls)), (8, .g (.i ls.length)), (9, .g (.i a.1))])
    (fun a => [.arr 0 1 [.g (intss ls)], .arr 0 1 (vnats a.2), .arr 0 1 [.own 1 0 0 ls.length], L]) (fun a => a.1 ≤ ls.length ∧ Ahead ls a.2 x ∧ (ls.take a.1).all (fun l => decide (x ∈ l)) = true) (fun a => ls.length - a.1) (0, ats) ?_ ?_ ?_ ?_
  · exact ⟨Nat.zero_le _, ha, rfl⟩
  · rfl
  · simp [subT, subV, tm, tmGo, intss]
  · rintro ⟨k, at1⟩ ⟨hk, hat, hr⟩
    dsimp only at hk hat hr ⊢
    conv => whnf
    refine Br.dec (fun h => ?_) (fun h => ?_)
    · conv => whnf
      refine ⟨by simp; omega, rfl, ?_⟩
      conv => whnf
      refine ⟨_, getZ (by omega), ?_⟩
      conv => whnf
      refine ⟨rfl, _, rfl, ?_⟩
      conv => whnf
      refine ⟨rfl, _, rfl, ?_⟩
      conv => whnf
      have hk' : k < ls.length := by omega
      have hk2 : k < at1.length := by rw [hat.1]; exact hk'
      refine ⟨by omega, ⟨rfl, rfl⟩, ?_⟩
      conv => whnf
      have e0 : (0 + ((k : Nat) : Int).toNat) = k := by simp
      refine ⟨rfl, _, by rw [e0]; exact vnats_get hk2, ?_⟩
      conv => whnf
      have hlk := hls _ (List.getElem_mem hk')
      obtain ⟨hle, hlo⟩ := hat.2 k hk' hk2
      refine ⟨_, (c_lists_gallop ls[k] at1[k] x (by omega) (hs _ (List.getElem_mem hk')) hle).go rfl ⟨rfl, rfl⟩, ?_⟩
      conv => whnf
      obtain ⟨hb, hmem⟩ := mem_from (hs _ (List.getElem_mem hk')) hle hlo
      have hpl := (fromN_is ls[k] x _ rfl hle).le
      generalize hp : fromN ls[k] at1[k] x = p at hb hmem hpl
      refine ⟨by omega, ⟨rfl, rfl⟩, ?_⟩
      conv => whnf
      refine ⟨rfl, _, by rw [e0]; exact vnats_get hk2, ⟨rfl, rfl, Nat.le_refl _⟩, ?_⟩
      rw [e0]
      have hst : List.set (vnats at1) k (storeV (V.g (.i (at1[k] : Nat))) 0 (V.g (.sc (.int .i64 (p : Nat))))) = vnats (at1.set k p) := by
        simp [vnats, storeV, V.cells, T.cells]
      have hat' : Ahead ls (at1.set k p) x := by
        refine ⟨by simp [hat.1], fun i h h' => ?_⟩
        by_cases hik : i = k
        · subst hik; simp; exact ⟨hpl, hb⟩
        · simp at h'
          rw [List.getElem_set_ne (fun e => hik e.symm)]
          exact hat.2 i h h'
      rw [hst]
      conv => whnf
      refine ⟨rfl, _, rfl, ?_⟩
      conv => whnf
      have hk3 : k < (at1.set k p).length := by simpa using hk2
      have hgs : (at1.set k p)[k] = p := by simp
      refine ⟨by omega, ⟨rfl, rfl⟩, ?_⟩
      conv => whnf
      refine ⟨rfl, _, by rw [e0]; exact vnats_get hk3, ?_⟩
      conv => whnf
      rw [hgs]
      have hmk : (ls[k].map T.i).length = ls[k].length := by simp
      have bad : x ∉ ls[k] → (ls.all fun l => decide (x ∈ l)) = false := fun h => by
        rw [List.all_eq_false]
        exact ⟨_, List.getElem_mem hk', by simpa using h⟩
      have R1 : ∀ b : Bool, (ls.all fun l => decide (x ∈ l)) = b → Fin [.arr 0 1 [.g (intss ls)], .arr 0 1 (vnats ats), .arr 0 1 [.own 1 0 0 ls.length], L]
        (fun r h' => ∃ ats', Ahead ls ats' x ∧ r = .g (.b (ls.all fun l => decide (x ∈ l))) ∧ h' = [.arr 0 1 [.g (intss ls)], .arr 0 1 (vnats ats'), .arr 0 1 [.own 1 0 0 ls.length], L]) (.g (.b b)) [.arr 0 1 [.g (intss ls)], .arr 0 1 (vnats (at1.set k p)), .arr 0 1 [.own 1 0 0 ls.length], L] :=
        fun b hb => ⟨Ends.keep ⟨_, hat', by rw [hb], rfl⟩⟩
      refine Br.eq (fun he => ?_) (fun he => ?_)
      · conv => whnf
        exact R1 _ (bad (fun h => by obtain ⟨h1, _⟩ := hmem.1 h; omega))
      · conv => whnf
        refine ⟨rfl, _, rfl, ?_⟩
        conv => whnf
        refine ⟨by omega, ⟨rfl, rfl⟩, ?_⟩
        conv => whnf
        refine ⟨rfl, _, by rw [e0]; exact vnats_get hk3, ?_⟩
        conv => whnf
        rw [hgs]
        have hp2 : p < ls[k].length := by omega
        refine ⟨by simp; omega, rfl, ?_⟩
        conv => whnf
        refine ⟨_, getZ hp2, ?_⟩
        conv => whnf
        refine Br.ne (fun h2 => ?_) (fun h2 => ?_)
        · conv => whnf
          exact R1 _ (bad (fun h => by obtain ⟨_, h3⟩ := hmem.1 h; exact h2 h3))
        · conv => whnf
          refine ⟨in64 (by omega) (by omega), ?_⟩
          conv => whnf
          refine ⟨⟨(k + 1, at1.set k p), ⟨hk', hat', ?_⟩, by show ls.length - (k + 1) < ls.length - k; omega, rfl, by simp [subT, subV, tm, tmGo, ints]⟩⟩
          dsimp only
          rw [List.take_succ_eq_append_getElem hk', List.all_append, hr]
          simp
          exact hmem.2 ⟨hp2, h2⟩
    · conv => whnf
      have : k = ls.length := by omega
      subst this
      rw [List.take_length] at hr
      exact ⟨Ends.keep ⟨at1, hat, by rw [hr], rfl⟩⟩

theorem c_slices_ContainsFunc_LLint_Lint (ls : List (List Int)) (hl : ls.length < 1000000000) (hls : ∀ l ∈ ls, l.length < 1000000000) :
    ACalls Try.prog 167 [.g (intss ls), .fn 168 []] [] (fun r h => r = .g (.b (!ls.all mayL)) ∧ h = []) := by
  refine k_slices_ContainsFunc_LLint_Lint.calls ?_
  conv => whnf
  refine (c_slices_IndexFunc_LLint_Lint ls (by omega) (fun l h => by have := hls l h; omega)).mono ?_
  rintro r h ⟨n, rfl, hn, rfl⟩
  conv => whnf
  exact ⟨Ends.keep ⟨by rw [← hn], rfl⟩⟩
theorem c_lists_all (ls : List (List Int)) (hl : ls.length < 1000000000) (hls : ∀ l ∈ ls, l.length < 1000000000) : CG Try.prog 134 [intss ls] (.b (ls.all mayL)) := by
  refine ⟨k_lists_all.calls ?_⟩
  conv => whnf
  refine (c_slices_ContainsFunc_LLint_Lint ls hl hls).mono ?_
  rintro r h ⟨rfl, rfl⟩
  conv => whnf
  exact ⟨Ends.keep ⟨by simp, rfl⟩⟩

/-- what is in every one -/
def andL : List (List Int) → List Int
  | [] => []
  | l :: ls => if (l :: ls).all mayL then l.filter fun x => (l :: ls).all fun k => decide (x ∈ k) else []

theorem c_lists_And (ls : List (List Int)) (hl : ls.length < 1000000000) (hls : ∀ l ∈ ls, l.length < 1000000000) : CG Try.prog 99 [intss ls] (tints (andL ls)) := by
  refine ⟨k_lists_And.calls ?_⟩
  have hm : (ls.map tints).length = ls.length := by simp
  conv => whnf
  refine ⟨⟨rfl, rfl⟩, ?_⟩
  conv => whnf
  refine ⟨rfl, _, rfl, ?_⟩
  conv => whnf
  refine Br.eq (fun he => ?_) (fun he => ?_)
  · conv => whnf
    have : ls = [] := List.eq_nil_of_length_eq_zero (by omega)
    subst this
    exact ⟨Ends.ground (H := []) (L := [_]) 1 rfl ⟨rfl, rfl⟩⟩
  · conv => whnf
    refine ⟨rfl, _, rfl, ?_⟩
    conv => whnf
    refine (c_lists_all ls hl hls).go rfl ?_
    conv => whnf
    obtain ⟨l, ls, rfl⟩ : ∃ l r, ls = l :: r := by cases ls with | nil => exact absurd rfl he | cons l r => exact ⟨l, r, rfl⟩
    refine Br.not (fun h2 => ?_) (fun h2 => ?_)
    · conv => whnf
      refine ⟨Ends.ground (H := []) (L := [_]) (t := tints (andL (l :: ls))) 1 ?_ ⟨rfl, rfl⟩⟩
      rw [andL, if_neg (by rw [h2]; simp)]; rfl
    · conv => whnf
      refine ⟨rfl, _, rfl, ?_⟩
      conv => whnf
      refine ⟨by constructor <;> omega, rfl, ?_⟩
      conv => whnf
      refine ⟨rfl, ?_⟩
      conv => whnf
      refine ⟨rfl, _, rfl, ⟨rfl, rfl, Nat.le_refl _⟩, ?_⟩
      conv => whnf
      refine ⟨rfl, _, rfl, ?_⟩
      conv => whnf
      refine ⟨by simp, rfl, ?_⟩
      conv => whnf
      refine ⟨_, rfl, ?_⟩
      conv => whnf
      have hal : ∀ k ∈ l :: ls, Mono k := fun k hk => mayL_mono (by rw [List.all_eq_true] at h2; exact h2 k hk)
      have hll := hls l (by simp)
      have hge : ∀ (i : Nat) (h : i < l.length), -1 < l[i] := fun i h => by
        have : mayL l = true := by rw [List.all_eq_true] at h2; exact h2 l (by simp)
        simp only [mayL, Bool.and_eq_true] at this
        exact (rise_ge this.1).1 i h
      have hlen : (((l :: ls).map tints).length : Int).toNat = (l :: ls).length := by simp
      have hrep : List.replicate (l :: ls).length (V.g (T.sc (Value.int IntKind.i64 0))) = vnats (List.replicate (l :: ls).length 0) := by simp [vnats]
      rw [hlen, hrep]
      have hz : ∀ h : 0 < l.length, Ahead (l :: ls) (List.replicate (l :: ls).length 0) l[0] := fun h => ⟨by simp, fun i h h' => by simp⟩
      refine ((c_keep3 (σ := List Nat) l hll (fun x => (l :: ls).all fun k => decide (x ∈ k)) 136 (.pa 0 0 0 0) (.pa 2 0 0 0) (fun _ => .arr 0 1 [.g (intss (l :: ls))]) (fun a => .arr 0 1 (vnats a)) (fun _ => .arr 0 1 [.own 1 0 0 (l :: ls).length])
        (fun k a => a.length = (l :: ls).length ∧ ∀ h : k < l.length, Ahead (l :: ls) a l[k]) (List.replicate (l :: ls).length 0) ⟨by simp, hz⟩ (fun a => ?_) (fun k hk a L ha => ?_)).mono ?_)
      · refine ⟨?_, ?_, ?_⟩
        · exact Blk.lt_one rfl .g
        · exact Blk.lt_gs
        · exact Blk.lt_one rfl (.own (by omega))
      · refine (c_lists_AndS1 (l :: ls) a l[k] hl hls hal (ha.2 hk) L).mono ?_
        rintro r h ⟨a', ha', rfl, rfl⟩
        refine ⟨a', ⟨ha'.1, fun hk1 => ⟨ha'.1, fun i h h' => ⟨(ha'.2 i h h').1, fun j hj hja => ?_⟩⟩⟩, rfl, rfl⟩
        have h3 := (ha'.2 i h h').2 j hj hja
        have h4 : l[k] ≤ l[k + 1] := hal l (by simp) k (k + 1) (by omega) hk1
        omega
      · rintro r h ⟨a, rfl, rfl⟩
        conv => whnf
        refine ⟨Ends.ground (H := []) (L := [_, _, _]) (t := tints (andL (l :: ls))) 1 ?_ ⟨rfl, rfl⟩⟩
        rw [andL, if_pos h2]; exact gr_g
end Go.Aw
namespace Go.Aw
open Go.Proofs
set_option maxRecDepth 100000

end Go.Aw
