/- Contracts of functions of the given program, by the abstract walk, for law PolicyKeepsUpto: what each one hands back; no condition but those that each theorem states. -/
import Derived.Test.YthpnnkoaomekfaaC1
import Derived.Test.YthpnnkoaomekfaaL1
import Derived.Test.YthpnnkoaomekfaaW3
namespace Go.Aw
open Go.Proofs
set_option maxRecDepth 100000

/-- with one more, in its place -/
def withL (l : List Int) (n : Int) : List Int := if ∃ h : fromN l 0 n < l.length, l[fromN l 0 n] = n then l else l.take (fromN l 0 n) ++ n :: l.drop (fromN l 0 n)

def foldW (xs : List Int) : List Int := xs.foldl withL []
theorem withL_len (l : List Int) (n : Int) : (withL l n).length ≤ l.length + 1 := by
  unfold withL
  split
  · omega
  · have := (fromN_is l n _ rfl (Nat.zero_le _)).le
    simp; omega
theorem foldW_snoc (xs : List Int) (x : Int) : foldW (xs ++ [x]) = withL (foldW xs) x := by simp [foldW]
theorem foldW_len' : ∀ (xs l : List Int), (xs.foldl withL l).length ≤ l.length + xs.length
  | [], l => by simp
  | x :: xs, l => by
    have h1 := foldW_len' xs (withL l x)
    have h2 := withL_len l x
    simp only [List.foldl_cons, List.length_cons]; omega
theorem foldW_len (xs : List Int) : (foldW xs).length ≤ xs.length := by have := foldW_len' xs []; simpa [foldW] using this
/-- what is in one at least -/
def orL (ls : List (List Int)) : List Int := if ls.all mayL = true ∧ (foldW ls.flatten).length ≤ 2000 then foldW ls.flatten else []

end Go.Aw
namespace Go.Aw
open Go.Proofs
set_option maxRecDepth 100000

def vintl (xs : List Int) : List V := xs.map fun x => V.g (.i x)
theorem vintl_len (xs : List Int) : (vintl xs).length = xs.length := by simp [vintl]
theorem vintl_get {xs : List Int} {i : Nat} (h : i < xs.length) : (vintl xs)[i]? = some (V.g (.i xs[i])) := by simp [vintl, h]
theorem vintl_app (xs ys : List Int) : vintl (xs ++ ys) = vintl xs ++ vintl ys := by simp [vintl]
theorem gr_vintl {n d b g len : Nat} {h : List Blk} {l : List Int} (hb : h[b]? = some (.arr g 1 (vintl l))) (hn : n ≤ b) (hl : len = l.length) : gr n h (d + 1) (.own b g 0 len) = some (tints l) :=
  gr_own hb hn hl fun _ _ => gr_g

theorem c_slices_Grow_Lint_int (n : Nat) (hn : n < 1000000000) : ACalls Try.prog 110 [.nil 1, .g (.i n)] []
    (fun r h => (n = 0 ∧ r = .nil 1 ∧ h = []) ∨ (0 < n ∧ r = .own 0 0 0 0 ∧ h = [.arr 0 1 (List.replicate n (.g (.i 0)))])) := by
  refine k_slices_Grow_Lint_int.calls ?_
  conv => whnf
  refine ⟨in64 (by omega) (by omega), ?_⟩
  conv => whnf
  refine ⟨in64 (by omega) (by omega), ?_⟩
  conv => whnf
  have e : (n : Int) - (0 - 0) = n := by omega
  rw [e]
  refine Br.dec (fun h => ?_) (fun h => ?_)
  · conv => whnf
    refine ⟨by omega, ?_⟩
    conv => whnf
    refine ⟨by constructor <;> omega, rfl, ?_⟩
    conv => whnf
    refine ⟨rfl, ?_⟩
    conv => whnf
    refine ⟨by simp, ?_⟩
    conv => whnf
    exact ⟨Ends.keep (.inr ⟨by omega, rfl, by simp⟩)⟩
  · conv => whnf
    exact ⟨Ends.keep (.inl ⟨by omega, rfl, rfl⟩)⟩

theorem flat_take {α : Type} (ls : List (List α)) (k : Nat) (h : k < ls.length) : (ls.take (k + 1)).flatten = (ls.take k).flatten ++ ls[k] := by
  rw [List.take_succ_eq_append_getElem h]; simp only [List.flatten_append, List.flatten_cons, List.flatten_nil, List.append_nil]
theorem flat_le {α : Type} (ls : List (List α)) (k : Nat) : (ls.take k).flatten.length ≤ ls.flatten.length := by
  conv => rhs; rw [← List.take_append_drop k ls, List.flatten_append, List.length_append]
  omega

theorem c_slices_Concat_Lint_int (ls : List (List Int)) (hl : ls.length < 1000000000) (hfl : ls.flatten.length < 1000000000) :
    ACalls Try.prog 65 [.g (intss ls)] [] (fun r h => ∃ g, r = .own 0 g 0 ls.flatten.length ∧ h = [.arr g 1 (vintl ls.flatten)]) := by
  refine k_slices_Concat_Lint_int.calls ?_
  have hm : (ls.map tints).length = ls.length := by simp
  conv => whnf
  refine SW.loop (α := Nat) (fun k => tm 36 [(0, .g (intss ls)), (3, .g (.i (ls.take k).flatten.length)), (9, .g (intss ls)), (10, .g (.i ls.length)), (11, .g (.i k))]) (fun _ => []) (fun k => k ≤ ls.length) (fun k => ls.length - k) 0 ?_ ?_ ?_ ?_
  · exact Nat.zero_le _
  · rfl
  · simp [subT, subV, tm, tmGo, intss]
  · rintro k hk
    dsimp only at hk ⊢
    conv => whnf
    refine Br.dec (fun h => ?_) (fun h => ?_)
    · conv => whnf
      refine ⟨by simp; omega, rfl, ?_⟩
      conv => whnf
      refine ⟨_, getZ (by omega), ?_⟩
      conv => whnf
      have hk' : k < ls.length := by omega
      have hf := flat_take ls k hk'
      have hle := flat_le ls (k + 1)
      rw [hf, List.length_append] at hle
      have hmk : (ls[k].map T.i).length = ls[k].length := by simp
      refine ⟨in64 (by omega) (by omega), ?_⟩
      conv => whnf
      refine ⟨in64 (by omega) (by omega), ?_⟩
      conv => whnf
      refine ⟨⟨k + 1, hk', by omega, rfl, ?_⟩⟩
      rw [hf]; simp [subT, subV, tm, tmGo]
    · conv => whnf
      have : k = ls.length := by omega
      subst this
      rw [List.take_length]
      refine (c_slices_Grow_Lint_int _ hfl).mono ?_
      rintro r h (⟨h0, rfl, rfl⟩ | ⟨h0, rfl, rfl⟩)
      · conv => whnf
        refine SW.loopR (α := Nat × List V) (fun a => tm 36 [(0, .g (intss ls)), (6, .own 0 a.1 0 (ls.take a.1).flatten.length), (25, .g (intss ls)), (26, .g (.i ls.length)), (27, .g (.i a.1))])
          (fun a => [.arr a.1 1 (vintl (ls.take a.1).flatten ++ a.2)]) (fun a => a.1 ≤ ls.length ∧ (0 < a.1 → a.2 = []) ∧ (a.1 = 0 → a.2 = [])) (fun a => ls.length - a.1) (0, []) ?_ ?_ ?_
        · exact ⟨Nat.zero_le _, fun h => by dsimp only at h; omega, fun _ => rfl⟩
        · exact (Refi.valloc 6 1 rfl).trans (Refi.sub rfl (by simp [subT, subV, tm, tmGo, intss, setT]))
        · rintro ⟨k, junk⟩ ⟨hk, hj, hj0⟩
          dsimp only at hk hj hj0 ⊢
          conv => whnf
          refine Br.dec (fun h => ?_) (fun h => ?_)
          · conv => whnf
            refine ⟨by simp; omega, rfl, ?_⟩
            conv => whnf
            refine ⟨_, getZ (by omega), ?_⟩
            conv => whnf
            have hk' : k < ls.length := by omega
            have hf := flat_take ls k hk'
            have hle := flat_le ls (k + 1)
            rw [hf, List.length_append] at hle
            refine ⟨rfl, ?_⟩
            conv => whnf
            refine ⟨by simp only [List.length_map]; omega, ⟨rfl, rfl, rfl⟩, _, ⟨_, rfl⟩, by rw [vintl_len], ?_⟩
            conv => whnf
            refine ⟨in64 (by omega) (by omega), ?_⟩
            conv => whnf
            refine ⟨⟨(k + 1, []), ⟨hk', fun _ => rfl, fun h => by simp at h⟩, by dsimp only; omega, Refi.sub ?_ ?_⟩⟩
            · dsimp only; rw [hf, vintl_app]; simp [vintl]
            · dsimp only; rw [hf]; simp [subT, subV, tm, tmGo]
          · conv => whnf
            have : k = ls.length := by omega
            subst this
            refine ⟨Ends.keep ⟨_, by rw [List.take_length], ?_⟩⟩
            rcases Nat.eq_zero_or_pos ls.length with hz | hz
            · have : ls = [] := List.eq_nil_of_length_eq_zero hz
              rw [hj0 hz, List.take_length, List.append_nil]
            · rw [hj hz, List.take_length, List.append_nil]
      · conv => whnf
        refine SW.loopR (α := Nat × List V) (fun a => tm 36 [(0, .g (intss ls)), (6, .own 0 a.1 0 (ls.take a.1).flatten.length), (25, .g (intss ls)), (26, .g (.i ls.length)), (27, .g (.i a.1))])
          (fun a => [.arr a.1 1 (vintl (ls.take a.1).flatten ++ a.2)]) (fun a => a.1 ≤ ls.length ∧ (0 < a.1 → a.2 = []) ∧ (a.1 = 0 → a.2 = List.replicate ls.flatten.length (.g (.i 0)))) (fun a => ls.length - a.1) (0, List.replicate ls.flatten.length (.g (.i 0))) ?_ ?_ ?_
        · exact ⟨Nat.zero_le _, fun h => by dsimp only at h; omega, fun _ => rfl⟩
        · exact Refi.sub (by simp [vintl]) (by simp [subT, subV, tm, tmGo, intss])
        · rintro ⟨k, junk⟩ ⟨hk, hj, hj0⟩
          dsimp only at hk hj hj0 ⊢
          conv => whnf
          refine Br.dec (fun h => ?_) (fun h => ?_)
          · conv => whnf
            refine ⟨by simp; omega, rfl, ?_⟩
            conv => whnf
            refine ⟨_, getZ (by omega), ?_⟩
            conv => whnf
            have hk' : k < ls.length := by omega
            have hf := flat_take ls k hk'
            have hle := flat_le ls (k + 1)
            rw [hf, List.length_append] at hle
            refine ⟨rfl, ?_⟩
            conv => whnf
            refine ⟨by simp only [List.length_map]; omega, ⟨rfl, rfl, rfl⟩, _, ⟨_, rfl⟩, by rw [vintl_len], ?_⟩
            conv => whnf
            refine ⟨in64 (by omega) (by omega), ?_⟩
            conv => whnf
            refine ⟨⟨(k + 1, []), ⟨hk', fun _ => rfl, fun h => by simp at h⟩, by dsimp only; omega, Refi.sub ?_ ?_⟩⟩
            · dsimp only; rw [hf, vintl_app]; simp [vintl]
            · dsimp only; rw [hf]; simp [subT, subV, tm, tmGo]
          · conv => whnf
            have : k = ls.length := by omega
            subst this
            refine ⟨Ends.keep ⟨_, by rw [List.take_length], ?_⟩⟩
            rcases Nat.eq_zero_or_pos ls.length with hz | hz
            · have : ls = [] := List.eq_nil_of_length_eq_zero hz
              subst this; simp at h0
            · rw [hj hz, List.take_length, List.append_nil]

/-- runs of one number made one -/
def ded : List Int → List Int
  | [] => []
  | [x] => [x]
  | x :: y :: r => if x = y then ded (y :: r) else x :: ded (y :: r)
theorem ded_snoc : ∀ (l : List Int) (y x : Int), ded (l ++ [y, x]) = ded (l ++ [y]) ++ if y = x then [] else [x]
  | [], y, x => by by_cases h : y = x <;> simp [ded, h]
  | [a], y, x => by by_cases h : y = x <;> by_cases h2 : a = y <;> simp [ded, h, h2]
  | a :: b :: l, y, x => by
    have ih := ded_snoc (b :: l) y x
    simp only [List.cons_append] at ih ⊢
    by_cases h2 : a = b
    · simp only [ded, if_pos h2]; exact ih
    · simp only [ded, if_neg h2]; rw [ih]; simp
theorem ded_take {xs : List Int} {k : Nat} (h1 : 1 ≤ k) (h : k < xs.length) : ded (xs.take (k + 1)) = ded (xs.take k) ++ if xs[k - 1]'(by omega) = xs[k] then [] else [xs[k]] := by
  obtain ⟨j, rfl⟩ : ∃ j, k = j + 1 := ⟨k - 1, by omega⟩
  have e1 : xs.take (j + 1 + 1) = xs.take j ++ [xs[j], xs[j + 1]] := by
    rw [List.take_succ_eq_append_getElem h, List.take_succ_eq_append_getElem (by omega : j < xs.length)]; simp only [List.append_assoc, List.singleton_append]
  have e2 : xs.take (j + 1) = xs.take j ++ [xs[j]] := List.take_succ_eq_append_getElem (by omega)
  rw [e1, e2, ded_snoc]; rfl
theorem ded_len : ∀ (l : List Int), (ded l).length ≤ l.length
  | [] => by simp [ded]
  | [x] => by simp [ded]
  | x :: y :: r => by
    have := ded_len (y :: r)
    by_cases h : x = y
    · simp only [ded, if_pos h, List.length_cons] at this ⊢; omega
    · simp only [ded, if_neg h, List.length_cons] at this ⊢; omega

theorem c_slices_Compact_Lint_int (xs : List Int) (g : Nat) (hl : xs.length < 1000000000) :
    ACalls Try.prog 113 [.own 0 g 0 xs.length] [.arr g 1 (vintl xs)] (fun r h => ∃ junk, r = .own 0 g 0 (ded xs).length ∧ h = [.arr g 1 (vintl (ded xs) ++ junk)]) := by
  refine k_slices_Compact_Lint_int.calls ?_
  conv => whnf
  refine Br.dec (fun h => ?_) (fun h => ?_)
  · conv => whnf
    have e : ded xs = xs := by
      match xs, h with
      | [], _ => rfl
      | [x], _ => rfl
      | x :: y :: r, h => simp at h; omega
    exact ⟨Ends.keep ⟨[], by rw [e], by rw [e, List.append_nil]⟩⟩
  conv => whnf
  refine SW.loop (α := Nat) (fun k => tm 61 [(0, .own 0 g 0 xs.length), (3, .g (.i k))]) (fun _ => [.arr g 1 (vintl xs)]) (fun k => 1 ≤ k ∧ k ≤ xs.length ∧ ded (xs.take k) = xs.take k) (fun k => xs.length - k) 1 ?_ ?_ ?_ ?_
  · refine ⟨Nat.le_refl _, by omega, ?_⟩
    match xs with
    | [] => rfl
    | x :: r => simp [ded]
  · rfl
  · simp [subT, subV, tm, tmGo]
  · rintro k ⟨k1, k2, k3⟩
    dsimp only at k1 k2 k3 ⊢
    conv => whnf
    refine Br.dec (fun h1 => ?_) (fun h1 => ?_)
    · conv => whnf
      have hk : k < xs.length := by omega
      refine ⟨by omega, ⟨rfl, rfl⟩, ?_⟩
      conv => whnf
      refine ⟨rfl, _, by simpa using vintl_get hk, ?_⟩
      conv => whnf
      refine ⟨in64 (by omega) (by omega), ?_⟩
      conv => whnf
      refine ⟨by omega, ⟨rfl, rfl⟩, ?_⟩
      conv => whnf
      have ek : (0 + ((k : Int) - 1).toNat) = k - 1 := by omega
      refine ⟨rfl, _, by rw [ek]; exact vintl_get (by omega), ?_⟩
      conv => whnf
      have hd := ded_take k1 hk
      refine Br.eq (fun h2 => ?_) (fun h2 => ?_)
      · conv => whnf
        refine ⟨rfl, ?_⟩
        conv => whnf
        refine ⟨by omega, ?_⟩
        conv => whnf
        have ek0 : (0 + ((k : Nat) : Int).toNat) = k := by omega
        have eks : (xs.length : Int).toNat - ((k : Nat) : Int).toNat = xs.length - k := by omega
        rw [ek0, eks]
        have hkeq : xs[k - 1]'(by omega) = xs[k] := h2.symm
        refine SW.loop (α := Nat × Nat × List Int) (fun a => tm 61 [(0, .own 0 g 0 xs.length), (3, .g (.i a.2.1)), (4, .own 0 g k (xs.length - k)), (5, .g (.i a.1))]) (fun a => [.arr g 1 (vintl a.2.2)])
          (fun a => 1 ≤ a.1 ∧ k + a.1 ≤ xs.length ∧ a.2.2.length = xs.length ∧ a.2.1 + 1 ≤ k + a.1 ∧ a.2.2.take a.2.1 = ded (xs.take (k + a.1)) ∧ (∀ (j : Nat) (h : j < xs.length) (h' : j < a.2.2.length), k + a.1 ≤ j + 1 → a.2.2[j] = xs[j])) (fun a => xs.length - a.1) (1, k, xs) ?_ ?_ ?_ ?_
        · exact ⟨Nat.le_refl _, hk, rfl, Nat.le_refl _, by rw [hd, if_pos hkeq, k3, List.append_nil], fun _ _ _ _ => rfl⟩
        · rfl
        · simp [subT, subV, tm, tmGo]
        · rintro ⟨q, t, es⟩ ⟨q1, q2, q3, q4, q5, q6⟩
          dsimp only at q1 q2 q3 q4 q5 q6 ⊢
          conv => whnf
          have hcast : ((xs.length - k : Nat) : Int) = (xs.length : Int) - k := by omega
          refine Br.dec (fun h3 => ?_) (fun h3 => ?_)
          · conv => whnf
            have hq : k + q < xs.length := by omega
            have hq' : k + q < es.length := by omega
            refine ⟨by omega, ⟨rfl, rfl⟩, ?_⟩
            conv => whnf
            have e1 : k + ((q : Nat) : Int).toNat = k + q := by omega
            refine ⟨rfl, _, by rw [e1]; exact vintl_get hq', ?_⟩
            conv => whnf
            refine ⟨in64 (by omega) (by omega), ?_⟩
            conv => whnf
            refine ⟨by omega, ⟨rfl, rfl⟩, ?_⟩
            conv => whnf
            have e2 : k + ((q : Int) - 1).toNat = k + q - 1 := by omega
            refine ⟨rfl, _, by rw [e2]; exact vintl_get (by omega), ?_⟩
            conv => whnf
            have v1 := q6 (k + q) hq hq' (by omega)
            have v2 := q6 (k + q - 1) (by omega) (by omega) (by omega)
            have hd2 := ded_take (k := k + q) (by omega) hq
            refine Br.ne (fun h4 => ?_) (fun h4 => ?_)
            · conv => whnf
              refine ⟨by omega, ⟨rfl, rfl⟩, ?_⟩
              conv => whnf
              refine ⟨rfl, _, by rw [e1]; exact vintl_get hq', ?_⟩
              conv => whnf
              have ht : t < es.length := by omega
              refine ⟨by omega, ⟨rfl, rfl⟩, ?_⟩
              conv => whnf
              have e3 : 0 + ((t : Nat) : Int).toNat = t := by omega
              refine ⟨rfl, _, by rw [e3]; exact vintl_get ht, ⟨rfl, rfl, Nat.le_refl _⟩, ?_⟩
              rw [e3]
              have hst : List.set (vintl es) t (storeV (V.g (.i es[t])) 0 (V.g (.sc (.int .i64 es[k + q])))) = vintl (es.set t es[k + q]) := by
                simp [vintl, storeV, V.cells, T.cells]
              rw [hst]
              conv => whnf
              refine ⟨in64 (by omega) (by omega), ?_⟩
              conv => whnf
              refine ⟨in64 (by omega) (by omega), ?_⟩
              conv => whnf
              refine ⟨⟨(q + 1, t + 1, es.set t es[k + q]), ⟨by dsimp only; omega, by dsimp only; omega, by simpa using q3, by dsimp only; omega, ?_, fun j hj hj' hjk => ?_⟩, by dsimp only; omega, rfl, by simp [subT, subV, tm, tmGo, ints]⟩⟩
              · dsimp only
                have e4 : k + (q + 1) = k + q + 1 := by omega
                rw [e4, hd2, if_neg (fun e => h4 (by rw [v1, v2, e])), ← q5, ← v1]
                rw [List.take_succ_eq_append_getElem (by simpa using ht), List.take_set_of_le (Nat.le_refl _)]
                simp
              · dsimp only at hjk ⊢
                rw [List.getElem_set_ne (by omega)]
                exact q6 j hj (by omega) (by omega)
            · conv => whnf
              refine ⟨in64 (by omega) (by omega), ?_⟩
              conv => whnf
              refine ⟨⟨(q + 1, t, es), ⟨by dsimp only; omega, by dsimp only; omega, q3, by dsimp only; omega, ?_, fun j hj hj' hjk => q6 j hj hj' (by dsimp only at hjk; omega)⟩, by dsimp only; omega, rfl, by simp [subT, subV, tm, tmGo, ints]⟩⟩
              dsimp only
              have e4 : k + (q + 1) = k + q + 1 := by omega
              rw [e4, hd2, if_pos (by rw [← v1, ← v2]; exact h4.symm), List.append_nil]; exact q5
          · conv => whnf
            have hq : k + q = xs.length := by omega
            rw [hq, List.take_length] at q5
            have htl : t = (ded xs).length := by rw [← q5]; simp; omega
            refine ⟨rfl, ?_⟩
            conv => whnf
            refine ⟨by omega, ?_⟩
            conv => whnf
            refine ⟨⟨rfl, rfl, rfl⟩, ?_⟩
            conv => whnf
            refine ⟨rfl, ?_⟩
            conv => whnf
            refine ⟨by omega, ?_⟩
            conv => whnf
            refine ⟨Ends.keep ⟨(List.replicate (xs.length - t) (V.g (.i 0))), by rw [← htl]; simp, ?_⟩⟩
            have e1 : (xs.length : Int).toNat - ((t : Nat) : Int).toNat = xs.length - t := by omega
            have e2 : 0 + ((t : Nat) : Int).toNat = t := by omega
            have e3 : t + (xs.length - t) = (vintl es).length := by rw [vintl_len]; omega
            rw [← q5]
            show [Blk.arr g 1 _] = [Blk.arr g 1 _]
            rw [e1, e2, e3, List.drop_length, List.append_nil]
            have : vintl (es.take t) = (vintl es).take t := by simp [vintl]
            rw [this]
      · conv => whnf
        refine ⟨in64 (by omega) (by omega), ?_⟩
        conv => whnf
        refine ⟨⟨k + 1, ⟨by omega, hk, ?_⟩, by omega, rfl, by simp [subT, subV, tm, tmGo, ints]⟩⟩
        rw [hd, k3, if_neg (fun e => h2 e.symm), ← List.take_succ_eq_append_getElem hk]
    · conv => whnf
      have : k = xs.length := by omega
      subst this
      rw [List.take_length] at k3
      exact ⟨Ends.keep ⟨[], by rw [k3], by rw [k3, List.append_nil]⟩⟩
end Go.Aw
namespace Go.Aw
open Go.Proofs
set_option maxRecDepth 100000

/- strictly rising lists -/
abbrev Rises (l : List Int) : Prop := l.Pairwise (· < ·)

theorem rises_ext : ∀ {l m : List Int}, Rises l → Rises m → (∀ x, x ∈ l ↔ x ∈ m) → l = m
  | [], [], _, _, _ => rfl
  | [], y :: m, _, _, h => absurd ((h y).2 (by simp)) (by simp)
  | x :: l, [], _, _, h => absurd ((h x).1 (by simp)) (by simp)
  | x :: l, y :: m, hl, hm, h => by
    rw [Rises, List.pairwise_cons] at hl hm
    have hxy : x = y := by
      rcases Int.lt_trichotomy x y with h1 | h1 | h1
      · have := (h x).1 (by simp)
        rcases List.mem_cons.1 this with e | e
        · exact e
        · have := hm.1 x e; omega
      · exact h1
      · have := (h y).2 (by simp)
        rcases List.mem_cons.1 this with e | e
        · exact e.symm
        · have := hl.1 y e; omega
    subst hxy
    rw [rises_ext hl.2 hm.2 (fun z => ?_)]
    constructor
    · intro hz
      rcases List.mem_cons.1 ((h z).1 (by simp [hz])) with e | e
      · have := hl.1 z hz; omega
      · exact e
    · intro hz
      rcases List.mem_cons.1 ((h z).2 (by simp [hz])) with e | e
      · have := hm.1 z hz; omega
      · exact e

theorem ded_rises : ∀ {l : List Int}, l.Pairwise (· ≤ ·) → Rises (ded l) ∧ ∀ x, x ∈ ded l ↔ x ∈ l
  | [], _ => ⟨.nil, fun _ => Iff.rfl⟩
  | [x], _ => ⟨by simp [ded], fun _ => Iff.rfl⟩
  | x :: y :: r, h => by
    rw [List.pairwise_cons] at h
    obtain ⟨h1, h2⟩ := ded_rises h.2
    by_cases e : x = y
    · simp only [ded, if_pos e]
      refine ⟨h1, fun z => ?_⟩
      rw [h2 z]; subst e; simp
    · simp only [ded, if_neg e]
      refine ⟨List.pairwise_cons.2 ⟨fun z hz => ?_, h1⟩, fun z => by rw [List.mem_cons, h2 z, List.mem_cons (a := z) (b := x)]⟩
      have hz' := (h2 z).1 hz
      have hx := h.1 y (by simp)
      have := h.1 z hz'
      rcases List.mem_cons.1 hz' with e2 | e2
      · omega
      · have := (List.pairwise_cons.1 h.2).1 z e2
        omega

theorem withL_rises {l : List Int} {n : Int} (h : Rises l) : Rises (withL l n) ∧ ∀ x, x ∈ withL l n ↔ x ∈ l ∨ x = n := by
  have hf := fromN_is l n _ rfl (Nat.zero_le _)
  generalize hp : fromN l 0 n = p at hf
  unfold withL
  rw [hp]
  split
  · rename_i hc
    obtain ⟨h1, h2⟩ := hc
    exact ⟨h, fun x => ⟨.inl, fun hx => hx.elim id fun e => by rw [e, ← h2]; exact List.getElem_mem _⟩⟩
  · rename_i hc
    have hsp : l = l.take p ++ l.drop p := (List.take_append_drop p l).symm
    have hlo : ∀ x ∈ l.take p, x < n := fun x hx => by
      obtain ⟨i, hi, rfl⟩ := List.getElem_of_mem hx
      simp at hi ⊢
      exact hf.lo i (by omega) (Nat.zero_le _) (by omega)
    have hrd : Rises (l.drop p) := List.Pairwise.sublist (List.drop_sublist p l) h
    have hhi : ∀ x ∈ l.drop p, n < x := fun x hx => by
      have hlt : p < l.length := by
        rcases Nat.lt_or_ge p l.length with h1 | h1
        · exact h1
        · rw [List.drop_of_length_le h1] at hx; simp at hx
      have h1 := hf.hi hlt
      have h2 : l[p] ≠ n := fun e => hc ⟨hlt, e⟩
      rw [List.drop_eq_getElem_cons hlt] at hx hrd
      rcases List.mem_cons.1 hx with e | e
      · omega
      · have := (List.pairwise_cons.1 hrd).1 x e; omega
    refine ⟨?_, fun x => ?_⟩
    · refine List.pairwise_append.2 ⟨List.Pairwise.sublist (List.take_sublist p l) h, List.pairwise_cons.2 ⟨hhi, hrd⟩, fun a ha b hb => ?_⟩
      rcases List.mem_cons.1 hb with e | e
      · rw [e]; exact hlo a ha
      · have := hlo a ha; have := hhi b e; omega
    · rw [List.mem_append, List.mem_cons]
      constructor
      · rintro (h1 | h1 | h1)
        · exact .inl (List.mem_of_mem_take h1)
        · exact .inr h1
        · exact .inl (List.mem_of_mem_drop h1)
      · rintro (h1 | h1)
        · rw [hsp, List.mem_append] at h1
          exact h1.elim .inl fun h => .inr (.inr h)
        · exact .inr (.inl h1)

theorem foldW_rises' : ∀ (xs l : List Int), Rises l → Rises (xs.foldl withL l) ∧ ∀ x, x ∈ xs.foldl withL l ↔ x ∈ l ∨ x ∈ xs
  | [], l, h => ⟨h, fun x => by simp⟩
  | y :: xs, l, h => by
    obtain ⟨h1, h2⟩ := withL_rises (n := y) h
    obtain ⟨h3, h4⟩ := foldW_rises' xs (withL l y) h1
    refine ⟨h3, fun x => ?_⟩
    rw [List.foldl_cons, h4 x, h2 x, List.mem_cons, or_assoc]
theorem foldW_rises (xs : List Int) : Rises (foldW xs) ∧ ∀ x, x ∈ foldW xs ↔ x ∈ xs := by
  have := foldW_rises' xs [] .nil
  exact ⟨this.1, fun x => by rw [foldW, this.2 x]; simp⟩

theorem sort_le (xs : List Int) : (xs.mergeSort fun x y => decide (x ≤ y)).Pairwise (· ≤ ·) := by
  have := List.pairwise_mergeSort (le := fun x y : Int => decide (x ≤ y)) (fun a b c h1 h2 => by simp at h1 h2 ⊢; omega) (fun a b => by simp; omega) xs
  exact this.imp (fun h => by simpa using h)
theorem ded_sort (xs : List Int) : ded (xs.mergeSort fun x y => decide (x ≤ y)) = foldW xs := by
  obtain ⟨h1, h2⟩ := ded_rises (sort_le xs)
  obtain ⟨h3, h4⟩ := foldW_rises xs
  exact rises_ext h1 h3 fun x => by rw [h2 x, h4 x, List.mem_mergeSort]

end Go.Aw
namespace Go.Aw
open Go.Proofs
set_option maxRecDepth 100000

theorem tv_int {t : T} (h : TV (.i .i64) t) : ∃ n : Int, t = .i n ∧ inR .i64 n := by
  obtain ⟨cs, ⟨n, rfl, hn⟩, rfl⟩ := h
  exact ⟨n, rfl, hn⟩
theorem tv_ints {t : T} (h : TV (.sl 1 (.i .i64)) t) : ∃ xs : List Int, t = tints xs ∧ xs.length ≤ maxLen := by
  obtain ⟨cs, ⟨es, rfl, hl, he⟩, rfl⟩ := h
  have : ∃ xs : List Int, es = xs.map T.i := by
    clear hl
    induction es with
    | nil => exact ⟨[], rfl⟩
    | cons e es ih =>
      obtain ⟨xs, rfl⟩ := ih fun x hx => he x (by simp [hx])
      obtain ⟨ys, ⟨n, rfl, _⟩, rfl⟩ := he e (by simp)
      exact ⟨n :: xs, rfl⟩
  obtain ⟨xs, rfl⟩ := this
  exact ⟨xs, rfl, by simpa using hl⟩
theorem tv_intss {t : T} (h : TV (.sl 1 (.sl 1 (.i .i64))) t) : ∃ xs : List (List Int), t = intss xs ∧ xs.length ≤ maxLen ∧ ∀ x ∈ xs, x.length ≤ maxLen := by
  obtain ⟨cs, ⟨es, rfl, hl, he⟩, rfl⟩ := h
  have : ∃ xs : List (List Int), es = xs.map tints ∧ ∀ x ∈ xs, x.length ≤ maxLen := by
    clear hl
    induction es with
    | nil => exact ⟨[], rfl, by simp⟩
    | cons e es ih =>
      obtain ⟨xs, rfl, hxs⟩ := ih fun x hx => he x (by simp [hx])
      obtain ⟨ys, h1, rfl⟩ := he e (by simp)
      obtain ⟨zs, h2, h3⟩ := tv_ints (t := mkT (Ty.sl 1 (.i .i64)).ag ys) ⟨ys, h1, rfl⟩
      exact ⟨zs :: xs, by rw [h2]; rfl, by simpa using ⟨h3, hxs⟩⟩
  obtain ⟨xs, rfl, hxs⟩ := this
  exact ⟨xs, rfl, by simpa using hl, hxs⟩

theorem tvs_nil {ys : List T} (h : TVs [] ys) : ys = [] := by
  cases ys with
  | nil => rfl
  | cons _ _ => exact h.elim
theorem tvs_cons {a : Ty} {r : List Ty} {ys : List T} (h : TVs (a :: r) ys) : ∃ y zs, ys = y :: zs ∧ TV a y ∧ TVs r zs := by
  cases ys with
  | nil => exact h.elim
  | cons y zs => exact ⟨y, zs, rfl, h.1, h.2⟩

theorem ints_same (xs ys : List Int) (hl : xs.length < 9223372036854775808) (e : xs = ys) : CG Try.prog 46 [tints xs, tints ys] (.b true) := by
  have := c_ref01_Ints xs ys hl
  rwa [decide_eq_true e] at this

end Go.Aw
