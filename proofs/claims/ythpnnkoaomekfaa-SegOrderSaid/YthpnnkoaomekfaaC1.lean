/- Contracts of functions of the given program, by the abstract walk, for law SegOrder: what each one hands back; no condition but those that each theorem states. -/
import Derived.Test.YthpnnkoaomekfaaF
import Derived.Test.YthpnnkoaomekfaaW2
namespace Go.Aw
open Go.Proofs
set_option maxRecDepth 100000

def ints (xs : List Int) : V := .g (.sl 1 (xs.map T.i))
def tints (xs : List Int) : T := .sl 1 (xs.map T.i)
def intss (xs : List (List Int)) : T := .sl 1 (xs.map tints)

/- lists that may be -/
def rise : Int → List Int → Bool
  | _, [] => true
  | l, x :: xs => decide (l < x) && rise x xs
def mayL (xs : List Int) : Bool := rise (-1) xs && decide (xs.length ≤ 2000)

theorem rise_drop {l : Int} {xs : List Int} {k : Nat} (h : k < xs.length) : rise l (xs.drop k) = (decide (l < xs[k]) && rise xs[k] (xs.drop (k + 1))) := by
  rw [List.drop_eq_getElem_cons h]; rfl

theorem c_ref01_Ints (xs ys : List Int) (hl : xs.length < 9223372036854775808) : CG Try.prog 46 [tints xs, tints ys] (.b (decide (xs = ys))) := by
  refine ⟨k_ref01_Ints.calls ?_⟩
  have hm : (xs.map T.i).length = xs.length := by simp
  have hm2 : (ys.map T.i).length = ys.length := by simp
  conv => whnf
  refine Br.ne (fun h => ?_) (fun h => ?_)
  · conv => whnf
    rw [decide_eq_false (fun e => h (by rw [hm, hm2, e]))]
    exact ⟨Ends.keep ⟨rfl, rfl⟩⟩
  conv => whnf
  have he : xs.length = ys.length := by omega
  refine SW.loop (α := Nat) (fun a => tm 26 [(0, ints xs), (1, ints ys), (5, .g (.i a))]) (fun _ => []) (fun a => a ≤ xs.length ∧ xs.take a = ys.take a) (fun a => xs.length - a) 0 ?_ ?_ ?_ ?_
  · simp
  · rfl
  · simp [subT, subV, tm, tmGo, ints, tints]
  · rintro k ⟨hk, hr⟩
    dsimp only at hk hr ⊢
    conv => whnf
    refine Br.dec (fun h => ?_) (fun h => ?_)
    · conv => whnf
      refine ⟨by simp; omega, rfl, ?_⟩
      conv => whnf
      refine ⟨_, getZ (by omega), ?_⟩
      conv => whnf
      refine ⟨by simp; omega, rfl, ?_⟩
      conv => whnf
      refine ⟨_, getZ (by omega), ?_⟩
      conv => whnf
      have hk' : k < xs.length := by omega
      refine Br.ne (fun h2 => ?_) (fun h2 => ?_)
      · conv => whnf
        rw [decide_eq_false (fun e => h2 (by subst e; rfl))]
        exact ⟨Ends.keep ⟨rfl, rfl⟩⟩
      · conv => whnf
        refine ⟨in64 (by omega) (by omega), ?_⟩
        conv => whnf
        refine ⟨⟨k + 1, ⟨hk', ?_⟩, by show xs.length - (k + 1) < xs.length - k; omega, rfl, by simp [subT, subV, tm, tmGo, ints]⟩⟩
        rw [List.take_succ_eq_append_getElem hk', List.take_succ_eq_append_getElem (by omega), hr]
        exact congrArg (fun z => ys.take k ++ [z]) h2
    · conv => whnf
      have : k = xs.length := by omega
      subst this
      have e : xs = ys := by rw [List.take_length, he, List.take_length] at hr; exact hr
      rw [decide_eq_true e]
      exact ⟨Ends.keep ⟨rfl, rfl⟩⟩

theorem c_ref16_Has (xs : List Int) (n : Int) (hl : xs.length < 9223372036854775808) : CG Try.prog 50 [tints xs, .i n] (.b (decide (n ∈ xs))) := by
  refine ⟨k_ref16_Has.calls ?_⟩
  have hm : (xs.map T.i).length = xs.length := by simp
  conv => whnf
  refine SW.loop (α := Nat) (fun a => tm 18 [(0, ints xs), (1, .g (.i n)), (5, .g (.i a))]) (fun _ => []) (fun a => a ≤ xs.length ∧ n ∉ xs.take a) (fun a => xs.length - a) 0 ?_ ?_ ?_ ?_
  · simp
  · rfl
  · simp [subT, subV, tm, tmGo, ints, tints]
  · rintro k ⟨hk, hr⟩
    dsimp only at hk hr ⊢
    conv => whnf
    refine Br.dec (fun h => ?_) (fun h => ?_)
    · conv => whnf
      refine ⟨by simp; omega, rfl, ?_⟩
      conv => whnf
      refine ⟨_, getZ (by omega), ?_⟩
      conv => whnf
      have hk' : k < xs.length := by omega
      refine Br.eq (fun h2 => ?_) (fun h2 => ?_)
      · conv => whnf
        rw [decide_eq_true (p := n ∈ xs) (by rw [← h2]; exact List.getElem_mem _)]
        exact ⟨Ends.keep ⟨rfl, rfl⟩⟩
      · conv => whnf
        refine ⟨in64 (by omega) (by omega), ?_⟩
        conv => whnf
        refine ⟨⟨k + 1, ⟨hk', ?_⟩, by show xs.length - (k + 1) < xs.length - k; omega, rfl, by simp [subT, subV, tm, tmGo, ints]⟩⟩
        rw [List.take_succ_eq_append_getElem hk']
        simp only [List.mem_append, List.mem_singleton, not_or]
        exact ⟨hr, fun e => h2 e.symm⟩
    · conv => whnf
      have : k = xs.length := by omega
      subst this
      rw [List.take_length] at hr
      rw [decide_eq_false hr]
      exact ⟨Ends.keep ⟨rfl, rfl⟩⟩

end Go.Aw
namespace Go.Aw
open Go.Proofs
set_option maxRecDepth 100000

/- where a list goes on -/
def fromN (xs : List Int) (at' : Nat) (x : Int) : Nat := at' + ((xs.drop at').takeWhile fun y => decide (y < x)).length
structure IsFrom (xs : List Int) (at' : Nat) (x : Int) (p : Nat) : Prop where
  ge : at' ≤ p
  le : p ≤ xs.length
  lo : ∀ (k : Nat) (h : k < xs.length), at' ≤ k → k < p → xs[k] < x
  hi : ∀ h : p < xs.length, x ≤ xs[p]
theorem IsFrom.eq {xs : List Int} {x : Int} {p : Nat} : ∀ (d : Nat) {at' : Nat}, p - at' = d → IsFrom xs at' x p → p = fromN xs at' x := by
  intro d
  induction d with
  | zero =>
    intro a hd h
    have : a = p := by have := h.ge; omega
    subst this
    unfold fromN
    rcases Nat.lt_or_ge a xs.length with hl | hl
    · rw [List.drop_eq_getElem_cons hl, List.takeWhile_cons, if_neg (by have := h.hi hl; simp; omega)]; rfl
    · rw [List.drop_of_length_le hl]; rfl
  | succ d ih =>
    intro a hd h
    have hl : a < xs.length := by have := h.le; omega
    have := ih (at' := a + 1) (by omega) ⟨by omega, h.le, fun k hk h1 h2 => h.lo k hk (by omega) h2, h.hi⟩
    unfold fromN at this ⊢
    rw [List.drop_eq_getElem_cons hl, List.takeWhile_cons, if_pos (by have := h.lo a hl (Nat.le_refl _) (by omega); simpa using this)]
    simp; omega
theorem fromN_is (xs : List Int) (x : Int) : ∀ (d : Nat) {at' : Nat}, xs.length - at' = d → at' ≤ xs.length → IsFrom xs at' x (fromN xs at' x) := by
  intro d
  induction d with
  | zero =>
    intro a hd h
    have : a = xs.length := by omega
    subst this
    have e : fromN xs xs.length x = xs.length := by simp [fromN]
    rw [e]
    exact ⟨Nat.le_refl _, Nat.le_refl _, fun k _ h1 h2 => by omega, fun h => by omega⟩
  | succ d ih =>
    intro a hd h
    have hl : a < xs.length := by omega
    have := ih (at' := a + 1) (by omega) hl
    by_cases hx : xs[a] < x
    · have e : fromN xs a x = fromN xs (a + 1) x := by
        unfold fromN
        rw [List.drop_eq_getElem_cons hl, List.takeWhile_cons, if_pos (by simpa using hx)]
        simp; omega
      rw [e]
      refine ⟨by have := this.ge; omega, this.le, fun k hk h1 h2 => ?_, this.hi⟩
      rcases Nat.lt_or_ge a k with h3 | h3
      · exact this.lo k hk h3 h2
      · have : k = a := by omega
        subst this; exact hx
    · have e : fromN xs a x = a := by
        unfold fromN
        rw [List.drop_eq_getElem_cons hl, List.takeWhile_cons, if_neg (by simpa using hx)]
        simp
      rw [e]
      exact ⟨Nat.le_refl _, h, fun k _ h1 h2 => by omega, fun _ => by omega⟩

/-- none is less than one ahead of it -/
def Mono (xs : List Int) : Prop := ∀ (i j : Nat) (hi : i < j) (hj : j < xs.length), xs[i] ≤ xs[j]
theorem rise_ge : ∀ {l : Int} {xs : List Int}, rise l xs = true → (∀ (i : Nat) (h : i < xs.length), l < xs[i]) ∧ ∀ (i j : Nat) (hi : i < j) (hj : j < xs.length), xs[i] < xs[j]
  | _, [], _ => ⟨fun _ h => by simp at h, fun _ _ _ h => by simp at h⟩
  | l, x :: xs, h => by
    simp only [rise, Bool.and_eq_true, decide_eq_true_eq] at h
    obtain ⟨h1, h2⟩ := rise_ge h.2
    refine ⟨fun i hi => ?_, fun i j hi hj => ?_⟩
    · cases i with
      | zero => exact h.1
      | succ i => have := h1 i (by simpa using hi); simp; omega
    · cases j with
      | zero => omega
      | succ j =>
        cases i with
        | zero => have := h1 j (by simpa using hj); simpa using this
        | succ i => simpa using h2 i j (by omega) (by simpa using hj)
theorem mayL_mono {xs : List Int} (h : mayL xs = true) : Mono xs := by
  simp only [mayL, Bool.and_eq_true] at h
  intro i j hi hj
  have := (rise_ge h.1).2 i j hi hj
  omega

theorem half (i j : Nat) (h : i + j < 9000000000000000000) : IntKind.i64.wrap (Int.fdiv (IntKind.u64.wrap ((i : Int) + j)) (2 ^ (min (Int.toNat 1) IntKind.u64.bits))) = ((i + j) / 2 : Nat) := by
  have h1 : IntKind.u64.wrap ((i : Int) + j) = ((i + j : Nat) : Int) := by
    rw [wrap_in (by simp [inR, IntKind.min, IntKind.max, IntKind.signed, IntKind.bits]; omega)]; omega
  rw [h1]
  have h2 : Int.fdiv ((i + j : Nat) : Int) (2 ^ (min (Int.toNat 1) IntKind.u64.bits)) = ((i + j) / 2 : Nat) := by
    show Int.fdiv ((i + j : Nat) : Int) 2 = _
    rw [Int.fdiv_eq_ediv_of_nonneg _ (by decide)]; omega
  rw [h2, wrap_in (in64 (by omega) (by omega))]

def foundN (xs : List Int) (x : Int) : Bool := match xs[fromN xs 0 x]? with
  | some y => y == x
  | none => false

end Go.Aw
namespace Go.Aw
open Go.Proofs
set_option maxRecDepth 100000

theorem bin_fromN {xs : List Int} {a e : Nat} {x : Int} {p : Nat} (ha : a ≤ e) (he : e ≤ xs.length) (hhi : ∀ h : e < xs.length, x ≤ xs[e])
    (hp : p = fromN ((xs.drop a).take (e - a)) 0 x) : IsFrom xs a x (a + p) := by
  have h := fromN_is ((xs.drop a).take (e - a)) x _ rfl (Nat.zero_le _)
  rw [← hp] at h
  have hlen : ((xs.drop a).take (e - a)).length = e - a := by simp; omega
  have hget : ∀ (k : Nat) (hk : k < ((xs.drop a).take (e - a)).length), ((xs.drop a).take (e - a))[k] = xs[a + k]'(by omega) := fun k hk => by simp
  refine ⟨by omega, by have := h.le; omega, fun k hk h1 h2 => ?_, fun hp' => ?_⟩
  · have := h.lo (k - a) (by have := h.le; omega) (by omega) (by omega)
    rw [hget] at this
    have e : a + (k - a) = k := by omega
    simpa [e] using this
  · rcases Nat.lt_or_ge (a + p) e with h1 | h1
    · have := h.hi (by omega)
      rw [hget] at this; exact this
    · have e2 : a + p = e := by have := h.le; omega
      subst e2; exact hhi _

theorem mono_sub {xs : List Int} (hs : Mono xs) (a n : Nat) : Mono ((xs.drop a).take n) := by
  intro i j hi hj
  simp at hj ⊢
  exact hs _ _ (by omega) _

end Go.Aw
namespace Go.Aw
open Go.Proofs
set_option maxRecDepth 100000

end Go.Aw
namespace Go.Aw
open Go.Proofs
set_option maxRecDepth 100000

def vnats (l : List Nat) : List V := l.map fun n : Nat => V.g (.i (n : Int))
theorem vnats_get {l : List Nat} {i : Nat} (h : i < l.length) : (vnats l)[i]? = some (V.g (.i (l[i] : Nat))) := by simp [vnats, h]

/-- each place is within its list, and all ahead of it is less -/
def Ahead (ls : List (List Int)) (ats : List Nat) (x : Int) : Prop :=
  ats.length = ls.length ∧ ∀ (i : Nat) (h : i < ls.length) (h' : i < ats.length), ats[i] ≤ ls[i].length ∧ ∀ (j : Nat) (hj : j < ls[i].length), j < ats[i] → ls[i][j] < x

theorem mem_from {xs : List Int} {a : Nat} {x : Int} (hs : Mono xs) (ha : a ≤ xs.length) (hlo : ∀ (j : Nat) (hj : j < xs.length), j < a → xs[j] < x) :
    (∀ (j : Nat) (hj : j < xs.length), j < fromN xs a x → xs[j] < x) ∧ (x ∈ xs ↔ ∃ h : fromN xs a x < xs.length, xs[fromN xs a x] = x) := by
  have hf := fromN_is xs x _ rfl ha
  have h1 : ∀ (j : Nat) (hj : j < xs.length), j < fromN xs a x → xs[j] < x := fun j hj h => by
    rcases Nat.lt_or_ge j a with h2 | h2
    · exact hlo j hj h2
    · exact hf.lo j hj h2 h
  refine ⟨h1, fun hm => ?_, fun ⟨h, e⟩ => by rw [← e]; exact List.getElem_mem _⟩
  obtain ⟨j, hj, e⟩ := List.getElem_of_mem hm
  have hge : fromN xs a x ≤ j := by
    rcases Nat.lt_or_ge j (fromN xs a x) with h | h
    · have := h1 j hj h; omega
    · exact h
  have hlt : fromN xs a x < xs.length := by omega
  refine ⟨hlt, ?_⟩
  have h2 := hf.hi hlt
  rcases Nat.lt_or_ge (fromN xs a x) j with h | h
  · have := hs _ _ h hj; omega
  · have : fromN xs a x = j := by omega
    simp only [this]; exact e

/-- what is in every one -/
def andL : List (List Int) → List Int
  | [] => []
  | l :: ls => if (l :: ls).all mayL then l.filter fun x => (l :: ls).all fun k => decide (x ∈ k) else []

end Go.Aw
namespace Go.Aw
open Go.Proofs
set_option maxRecDepth 100000

def fromZ (xs : List Int) (a x : Int) : Int := if mayL xs = true ∧ 0 ≤ a ∧ a ≤ xs.length then fromN xs a.toNat x else -1

/-- what is in the one alone -/
def butL (a b : List Int) : List Int := if mayL a = true ∧ mayL b = true then a.filter fun x => !decide (x ∈ b) else []

end Go.Aw
