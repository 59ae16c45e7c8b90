/- Contracts of functions of the given program, by the abstract walk, for law PhraseLess: what each one hands back; no condition but those that each theorem states. -/
import Derived.Test.YtbodcpinpomobaaC1
import Derived.Test.YtbodcpinpomobaaL1
import Derived.Test.YtbodcpinpomobaaW2
namespace Go.Aw
open Go.Proofs
set_option maxRecDepth 100000

theorem c_ref16_And (ls : List (List Int)) (hl : ls.length < 1000000000) (hls : ∀ l ∈ ls, l.length < 1000000000) : CG Try.prog 34 [intss ls] (tints (andL ls)) := by
  refine ⟨k_ref16_And.calls ?_⟩
  have hm : (ls.map tints).length = ls.length := by simp
  conv => whnf
  refine (c_ref16_all ls (by omega) (fun l h => by have := hls l h; omega)).go rfl ?_
  conv => whnf
  refine Br.not (fun h => ?_) (fun h => ?_)
  · conv => whnf
    have : andL ls = [] := by
      cases ls with
      | nil => rfl
      | cons l r => rw [andL, if_neg (by rw [h]; simp)]
    exact ⟨Ends.ground (H := []) (L := []) 1 rfl ⟨by rw [this]; rfl, rfl⟩⟩
  · conv => whnf
    refine Br.eq (fun he => ?_) (fun he => ?_)
    · conv => whnf
      have : ls = [] := List.eq_nil_of_length_eq_zero (by omega)
      subst this
      exact ⟨Ends.ground (H := []) (L := []) 1 rfl ⟨rfl, rfl⟩⟩
    · conv => whnf
      obtain ⟨l0, r, rfl⟩ : ∃ l r, ls = l :: r := by cases ls with | nil => exact absurd rfl he | cons l r => exact ⟨l, r, rfl⟩
      have hl0 := hls l0 (by simp)
      have hm0 : (l0.map T.i).length = l0.length := by simp
      let q : Int → Bool := fun x => (l0 :: r).all fun k => decide (x ∈ k)
      have hq : ∀ x, q x = (l0 :: r).all fun k => decide (x ∈ k) := fun _ => rfl
      have hand : andL (l0 :: r) = l0.filter q := by rw [andL, if_pos h]
      rw [hand]
      clear_value q
      refine SW.loopR (α := Nat) (fun k => tm 58 [(0, .g (intss (l0 :: r))), (3, .own 0 ((l0.take k).filter q).length 0 ((l0.take k).filter q).length), (5, .g (.i k))])
        (fun k => [.arr ((l0.take k).filter q).length 1 (((l0.take k).filter q).map fun x => V.g (.i x))]) (fun k => k ≤ l0.length) (fun k => l0.length - k) 0 ?_ ?_ ?_
      · exact Nat.zero_le _
      · exact (Refi.valloc 3 1 rfl).trans (Refi.sub rfl (by simp [subT, subV, tm, tmGo, intss, setT]))
      · rintro k hk
        dsimp only at hk ⊢
        conv => whnf
        refine ⟨by simp, rfl, ?_⟩
        conv => whnf
        refine ⟨_, rfl, ?_⟩
        conv => whnf
        refine Br.dec (fun h1 => ?_) (fun h1 => ?_)
        · conv => whnf
          have hk' : k < l0.length := by omega
          refine SW.loop (α := Nat) (fun j => tm 58 [(0, .g (intss (l0 :: r))), (3, .own 0 ((l0.take k).filter q).length 0 ((l0.take k).filter q).length), (5, .g (.i k)), (6, .g (.b (((l0 :: r).take j).all fun l => decide (l0[k] ∈ l)))), (7, .g (.i j))])
            (fun _ => [.arr ((l0.take k).filter q).length 1 (((l0.take k).filter q).map fun x => V.g (.i x))]) (fun j => 1 ≤ j ∧ j ≤ (l0 :: r).length) (fun j => (l0 :: r).length - j) 1 ?_ ?_ ?_ ?_
          · exact ⟨Nat.le_refl _, by simp⟩
          · rfl
          · simp [subT, subV, tm, tmGo, intss]
          · rintro j ⟨hj1, hj⟩
            dsimp only at hj1 hj ⊢
            conv => whnf
            refine Br.dec (fun h2 => ?_) (fun h2 => ?_)
            · conv => whnf
              have hj' : j < (l0 :: r).length := by omega
              have hj3 : j < r.length + 1 := by simpa using hj'
              refine ⟨by simp; omega, rfl, ?_⟩
              conv => whnf
              refine ⟨_, getZ hj', ?_⟩
              conv => whnf
              refine ⟨by simp, rfl, ?_⟩
              conv => whnf
              refine ⟨_, rfl, ?_⟩
              conv => whnf
              refine ⟨by simp; omega, rfl, ?_⟩
              conv => whnf
              refine ⟨_, getZ hk', ?_⟩
              conv => whnf
              refine (c_ref16_Has (l0 :: r)[j] l0[k] (by have := hls _ (List.getElem_mem hj'); omega)).go rfl ?_
              conv => whnf
              have e : ((l0 :: r).take (j + 1)).all (fun l => decide (l0[k] ∈ l)) = (((l0 :: r).take j).all (fun l => decide (l0[k] ∈ l)) && decide (l0[k] ∈ (l0 :: r)[j])) := by
                rw [List.take_succ_eq_append_getElem hj', List.all_append]; simp
              refine Br.intro (fun h3 => ?_) (fun h3 => ?_)
              · conv => whnf
                refine ⟨in64 (by omega) (by omega), ?_⟩
                conv => whnf
                refine ⟨⟨j + 1, ⟨by omega, hj'⟩, by omega, rfl, ?_⟩⟩
                rw [e, h3]; simp [subT, subV, tm, tmGo]
              · conv => whnf
                refine ⟨in64 (by omega) (by omega), ?_⟩
                conv => whnf
                refine ⟨⟨j + 1, ⟨by omega, hj'⟩, by omega, rfl, ?_⟩⟩
                rw [e, h3]; simp [subT, subV, tm, tmGo]
            · conv => whnf
              have : j = (l0 :: r).length := by omega
              subst this
              rw [List.take_length, ← hq]
              have htk : l0.take (k + 1) = l0.take k ++ [l0[k]] := List.take_succ_eq_append_getElem hk'
              have hfl : ((l0.take k).filter q).length ≤ l0.length := Nat.le_trans (List.length_filter_le _ _) (by simp; omega)
              refine Br.intro (fun h3 => ?_) (fun h3 => ?_)
              · conv => whnf
                refine ⟨by simp, rfl, ?_⟩
                conv => whnf
                refine ⟨_, rfl, ?_⟩
                conv => whnf
                refine ⟨by simp; omega, rfl, ?_⟩
                conv => whnf
                refine ⟨_, getZ hk', ?_⟩
                conv => whnf
                refine ⟨by repeat (first | exact trivial | refine ⟨⟨rfl, rfl⟩, ?_⟩), ?_⟩
                conv => whnf
                refine ⟨rfl, ?_⟩
                conv => whnf
                refine ⟨by simp; omega, ⟨rfl, rfl, rfl⟩, _, ⟨[], (List.append_nil _).symm⟩, by simp, ?_⟩
                conv => whnf
                refine ⟨in64 (by omega) (by omega), ?_⟩
                conv => whnf
                have e : (l0.take (k + 1)).filter q = (l0.take k).filter q ++ [l0[k]] := by rw [htk, List.filter_append]; simp [h3]
                refine ⟨⟨k + 1, hk', by omega, Refi.sub ?_ ?_⟩⟩
                · rw [e]; simp
                · rw [e]; simp [subT, subV, tm, tmGo]
              · conv => whnf
                refine ⟨in64 (by omega) (by omega), ?_⟩
                conv => whnf
                have e : (l0.take (k + 1)).filter q = (l0.take k).filter q := by rw [htk, List.filter_append]; simp [h3]
                refine ⟨⟨k + 1, hk', by omega, Refi.sub ?_ ?_⟩⟩
                · rw [e]
                · rw [e]; simp [subT, subV, tm, tmGo]
        · conv => whnf
          have : k = l0.length := by omega
          subst this
          rw [List.take_length]
          exact ⟨Ends.ground (H := []) (L := [_]) (t := tints (l0.filter q)) 1 (gr_own rfl (Nat.le_refl _) rfl fun x _ => gr_g) ⟨rfl, rfl⟩⟩

/-- with one more, in its place -/
def withL (l : List Int) (n : Int) : List Int := if ∃ h : fromN l 0 n < l.length, l[fromN l 0 n] = n then l else l.take (fromN l 0 n) ++ n :: l.drop (fromN l 0 n)

theorem c_ref16_with (l : List Int) (n : Int) (hl : l.length < 1000000000) : CG Try.prog 59 [tints l, .i n] (tints (withL l n)) := by
  refine ⟨k_ref16_with.calls ?_⟩
  have hm : (l.map T.i).length = l.length := by simp
  conv => whnf
  refine SW.loopR (α := Nat) (fun k => tm 50 [(0, ints l), (1, .g (.i n)), (5, .own 0 k 0 k), (6, .g (.i k))])
    (fun k => [.arr k 1 ((l.take k).map fun x => V.g (.i x))]) (fun k => k ≤ l.length ∧ ∀ (j : Nat) (h : j < l.length), j < k → l[j] < n) (fun k => l.length - k) 0 ?_ ?_ ?_
  · exact ⟨Nat.zero_le _, fun j _ h => by omega⟩
  · exact (Refi.valloc 5 1 rfl).trans (Refi.sub rfl (by simp [subT, subV, tm, tmGo, ints, tints, setT]))
  · rintro k ⟨hk, hlo⟩
    dsimp only at hk hlo ⊢
    have fin : (∀ h : k < l.length, n ≤ l[k]) → fromN l 0 n = k := fun h => ((IsFrom.mk (Nat.zero_le _) hk (fun j hj _ h2 => hlo j hj h2) h).eq _ rfl).symm
    have htl : (l.take k).length = k := by simp; omega
    conv => whnf
    refine Br.dec (fun h1 => ?_) (fun h1 => ?_)
    · conv => whnf
      refine ⟨by simp; omega, rfl, ?_⟩
      conv => whnf
      refine ⟨_, getZ (by omega), ?_⟩
      conv => whnf
      have hk' : k < l.length := by omega
      have htk : l.take (k + 1) = l.take k ++ [l[k]] := List.take_succ_eq_append_getElem hk'
      refine Br.dec (fun h2 => ?_) (fun h2 => ?_)
      · conv => whnf
        refine ⟨by simp; omega, rfl, ?_⟩
        conv => whnf
        refine ⟨_, getZ (by omega), ?_⟩
        conv => whnf
        refine ⟨by repeat (first | exact trivial | refine ⟨⟨rfl, rfl⟩, ?_⟩), ?_⟩
        conv => whnf
        refine ⟨rfl, ?_⟩
        conv => whnf
        refine ⟨by simp; omega, ⟨rfl, rfl, rfl⟩, _, ⟨[], (List.append_nil _).symm⟩, by simp; omega, ?_⟩
        conv => whnf
        refine ⟨in64 (by omega) (by omega), ?_⟩
        conv => whnf
        refine ⟨⟨k + 1, ⟨hk', fun j hj j1 => ?_⟩, by omega, Refi.sub ?_ ?_⟩⟩
        · rcases Nat.lt_or_ge j k with h7 | h7
          · exact hlo j hj h7
          · have : j = k := by omega
            subst this; exact h2
        · rw [htk, List.map_append]; rfl
        · simp [subT, subV, tm, tmGo, ints]
      · conv => whnf
        have hf := fin (fun _ => by omega)
        refine Br.dec (fun h3 => ?_) (fun h3 => by omega)
        conv => whnf
        refine ⟨by simp; omega, rfl, ?_⟩
        conv => whnf
        refine ⟨_, getZ (by omega), ?_⟩
        conv => whnf
        refine Br.eq (fun h4 => ?_) (fun h4 => ?_)
        · conv => whnf
          have e : withL l n = l := by rw [withL, if_pos ⟨by rw [hf]; exact hk', by simp only [hf]; exact h4⟩]
          exact ⟨Ends.ground (H := []) (L := [_]) (t := tints (withL l n)) 1 (by rw [e]; exact gr_g) ⟨rfl, rfl⟩⟩
        · conv => whnf
          refine ⟨by repeat (first | exact trivial | refine ⟨⟨rfl, rfl⟩, ?_⟩), ?_⟩
          conv => whnf
          refine ⟨rfl, ?_⟩
          conv => whnf
          refine ⟨by simp; omega, ⟨rfl, rfl, rfl⟩, _, ⟨[], (List.append_nil _).symm⟩, by simp; omega, ?_⟩
          conv => whnf
          refine ⟨rfl, ?_⟩
          conv => whnf
          refine ⟨by simp; omega, ?_⟩
          conv => whnf
          refine ⟨rfl, ?_⟩
          conv => whnf
          refine ⟨by simp; omega, ⟨rfl, rfl, rfl⟩, _, ⟨[], (List.append_nil _).symm⟩, by simp; omega, ?_⟩
          conv => whnf
          have e : withL l n = l.take k ++ n :: l.drop k := by rw [withL, if_neg (by rintro ⟨h5, h6⟩; simp only [hf] at h6; exact h4 h6), hf]
          refine ⟨Ends.ground (H := []) (L := [_]) (t := tints (withL l n)) 1 ?_ ⟨rfl, rfl⟩⟩
          rw [e]
          refine (gr_own (l := l.take k ++ n :: l.drop k) (f := fun x => V.g (.i x)) (e := T.i) ?_ (Nat.le_refl _) ?_ fun x _ => gr_g)
          · simp; rw [List.take_of_length_le (by simp)]; rfl
          · simp; omega
    · conv => whnf
      have hk2 : k = l.length := by omega
      have hf := fin (fun _ => by omega)
      refine Br.dec (fun h3 => by omega) (fun h3 => ?_)
      conv => whnf
      refine ⟨by repeat (first | exact trivial | refine ⟨⟨rfl, rfl⟩, ?_⟩), ?_⟩
      conv => whnf
      refine ⟨rfl, ?_⟩
      conv => whnf
      refine ⟨by simp; omega, ⟨rfl, rfl, rfl⟩, _, ⟨[], (List.append_nil _).symm⟩, by simp; omega, ?_⟩
      conv => whnf
      refine ⟨rfl, ?_⟩
      conv => whnf
      refine ⟨by simp; omega, ?_⟩
      conv => whnf
      refine ⟨rfl, ?_⟩
      conv => whnf
      refine ⟨by simp; omega, ⟨rfl, rfl, rfl⟩, _, ⟨[], (List.append_nil _).symm⟩, by simp; omega, ?_⟩
      conv => whnf
      have e : withL l n = l.take k ++ n :: l.drop k := by rw [withL, if_neg (by rintro ⟨h5, h6⟩; rw [hf] at h5; omega), hf]
      refine ⟨Ends.ground (H := []) (L := [_]) (t := tints (withL l n)) 1 ?_ ⟨rfl, rfl⟩⟩
      rw [e]
      refine (gr_own (l := l.take k ++ n :: l.drop k) (f := fun x => V.g (.i x)) (e := T.i) ?_ (Nat.le_refl _) ?_ fun x _ => gr_g)
      · simp; rw [List.take_of_length_le (by simp)]; rfl
      · simp; omega

def foldW (xs : List Int) : List Int := xs.foldl withL []
theorem withL_len (l : List Int) (n : Int) : (withL l n).length ≤ l.length + 1 := by
  unfold withL
  split
  · omega
  · have := (fromN_is l n _ rfl (Nat.zero_le _)).le
    simp; omega
theorem foldW_snoc (xs : List Int) (x : Int) : foldW (xs ++ [x]) = withL (foldW xs) x := by simp [foldW]
theorem foldW_len' : ∀ (xs l : List Int), (xs.foldl withL l).length ≤ l.length + xs.length
  | [], l => by simp
  | x :: xs, l => by
    have h1 := foldW_len' xs (withL l x)
    have h2 := withL_len l x
    simp only [List.foldl_cons, List.length_cons]; omega
theorem foldW_len (xs : List Int) : (foldW xs).length ≤ xs.length := by have := foldW_len' xs []; simpa [foldW] using this
/-- what is in one at least -/
def orL (ls : List (List Int)) : List Int := if ls.all mayL = true ∧ (foldW ls.flatten).length ≤ 2000 then foldW ls.flatten else []

theorem c_ref16_Or (ls : List (List Int)) (hl : ls.length < 1000000000) (hls : ∀ l ∈ ls, l.length < 1000000000) (hfl : ls.flatten.length < 1000000000) : CG Try.prog 36 [intss ls] (tints (orL ls)) := by
  refine ⟨k_ref16_Or.calls ?_⟩
  have hm : (ls.map tints).length = ls.length := by simp
  conv => whnf
  refine (c_ref16_all ls (by omega) (fun l h => by have := hls l h; omega)).go rfl ?_
  conv => whnf
  have htl : ∀ k, (ls.take k).flatten.length ≤ ls.flatten.length := fun k => by
    conv => rhs; rw [← List.take_append_drop k ls, List.flatten_append, List.length_append]
    omega
  refine SW.loop (α := Nat) (fun k => tm 40 [(0, .g (intss ls)), (3, .g (tints (foldW (ls.take k).flatten))), (4, .g (.b (ls.all mayL))), (5, .g (.i k))])
    (fun _ => []) (fun k => k ≤ ls.length ∧ (0 < k → ls.all mayL = true)) (fun k => ls.length - k) 0 ?_ ?_ ?_ ?_
  · exact ⟨Nat.zero_le _, fun h => by omega⟩
  · rfl
  · simp [subT, subV, tm, tmGo, intss, tints, foldW]
  · rintro k ⟨hk, hk0⟩
    dsimp only at hk hk0 ⊢
    have fin : (k = ls.length ∨ ¬ ls.all mayL = true) → orL ls = if (foldW (ls.take k).flatten).length ≤ 2000 then foldW (ls.take k).flatten else [] := fun h => by
      by_cases hc : ls.all mayL = true
      · rcases h with h | h
        · rw [orL, h, List.take_length]; simp [hc]
        · exact absurd hc h
      · have : k = 0 := by
          rcases Nat.eq_zero_or_pos k with h0 | h0
          · exact h0
          · exact absurd (hk0 h0) hc
        subst this
        rw [orL, if_neg (fun h => hc h.1)]; simp [foldW]
    have hmf : ((foldW (ls.take k).flatten).map T.i).length = (foldW (ls.take k).flatten).length := by simp
    conv => whnf
    refine Br.dec (fun h1 => ?_) (fun h1 => ?_)
    · conv => whnf
      refine Br.intro (fun h2 => ?_) (fun h2 => ?_)
      · conv => whnf
        have hk' : k < ls.length := by omega
        have hlk := hls _ (List.getElem_mem hk')
        have hmk : (ls[k].map T.i).length = ls[k].length := by simp
        have hfk : (ls.take (k + 1)).flatten = (ls.take k).flatten ++ ls[k] := by rw [List.take_succ_eq_append_getElem hk']; simp only [List.flatten_append, List.flatten_cons, List.flatten_nil, List.append_nil]
        refine SW.loop (α := Nat) (fun j => tm 40 [(0, .g (intss ls)), (3, .g (tints (foldW ((ls.take k).flatten ++ ls[k].take j)))), (4, .g (.b (ls.all mayL))), (5, .g (.i k)), (6, .g (.i j))])
          (fun _ => []) (fun j => j ≤ ls[k].length) (fun j => ls[k].length - j) 0 ?_ ?_ ?_ ?_
        · exact Nat.zero_le _
        · rfl
        · simp [subT, subV, tm, tmGo, h2]
        · rintro j hj
          dsimp only at hj ⊢
          conv => whnf
          refine ⟨by simp; omega, rfl, ?_⟩
          conv => whnf
          refine ⟨_, getZ (by omega), ?_⟩
          conv => whnf
          refine Br.dec (fun h3 => ?_) (fun h3 => ?_)
          · conv => whnf
            refine ⟨by simp; omega, rfl, ?_⟩
            conv => whnf
            refine ⟨_, getZ (by omega), ?_⟩
            conv => whnf
            refine ⟨by simp; omega, rfl, ?_⟩
            conv => whnf
            refine ⟨_, getZ (by omega), ?_⟩
            conv => whnf
            have hj' : j < ls[k].length := by omega
            have hlen : ((ls.take k).flatten ++ ls[k].take j).length ≤ ls.flatten.length := by
              have := htl (k + 1); rw [hfk] at this; simp at this ⊢; omega
            refine (c_ref16_with (foldW ((ls.take k).flatten ++ ls[k].take j)) ls[k][j] (by have := foldW_len ((ls.take k).flatten ++ ls[k].take j); omega)).go rfl ?_
            conv => whnf
            refine ⟨in64 (by omega) (by omega), ?_⟩
            conv => whnf
            have e : foldW ((ls.take k).flatten ++ ls[k].take (j + 1)) = withL (foldW ((ls.take k).flatten ++ ls[k].take j)) ls[k][j] := by
              rw [List.take_succ_eq_append_getElem hj', ← List.append_assoc, foldW_snoc]
            refine ⟨⟨j + 1, hj', by omega, rfl, ?_⟩⟩
            rw [e]; simp [subT, subV, tm, tmGo, h2, tints]
          · conv => whnf
            refine ⟨in64 (by omega) (by omega), ?_⟩
            conv => whnf
            have : j = ls[k].length := by omega
            subst this
            refine ⟨⟨k + 1, ⟨hk', fun _ => h2⟩, by omega, rfl, ?_⟩⟩
            rw [hfk, List.take_length]; simp [subT, subV, tm, tmGo, h2]
      · conv => whnf
        have hf := fin (.inr (by simp [h2]))
        refine Br.dec (fun h3 => ?_) (fun h3 => ?_)
        · conv => whnf
          exact ⟨Ends.ground (H := []) (L := []) (t := tints (orL ls)) 1 (by rw [hf, if_neg (by omega)]; rfl) ⟨rfl, rfl⟩⟩
        · conv => whnf
          exact ⟨Ends.ground (H := []) (L := []) (t := tints (orL ls)) 1 (by rw [hf, if_pos (by omega)]; exact gr_g) ⟨rfl, rfl⟩⟩
    · conv => whnf
      have hf := fin (.inl (by omega))
      refine Br.dec (fun h3 => ?_) (fun h3 => ?_)
      · conv => whnf
        exact ⟨Ends.ground (H := []) (L := []) (t := tints (orL ls)) 1 (by rw [hf, if_neg (by omega)]; rfl) ⟨rfl, rfl⟩⟩
      · conv => whnf
        exact ⟨Ends.ground (H := []) (L := []) (t := tints (orL ls)) 1 (by rw [hf, if_pos (by omega)]; exact gr_g) ⟨rfl, rfl⟩⟩
end Go.Aw
namespace Go.Aw
open Go.Proofs
set_option maxRecDepth 100000

def vintl (xs : List Int) : List V := xs.map fun x => V.g (.i x)
theorem vintl_len (xs : List Int) : (vintl xs).length = xs.length := by simp [vintl]
theorem vintl_get {xs : List Int} {i : Nat} (h : i < xs.length) : (vintl xs)[i]? = some (V.g (.i xs[i])) := by simp [vintl, h]
theorem vintl_app (xs ys : List Int) : vintl (xs ++ ys) = vintl xs ++ vintl ys := by simp [vintl]
theorem gr_vintl {n d b g len : Nat} {h : List Blk} {l : List Int} (hb : h[b]? = some (.arr g 1 (vintl l))) (hn : n ≤ b) (hl : len = l.length) : gr n h (d + 1) (.own b g 0 len) = some (tints l) :=
  gr_own hb hn hl fun _ _ => gr_g

theorem c_slices_Grow_Lint_int (n : Nat) (hn : n < 1000000000) : ACalls Try.prog 69 [.nil 1, .g (.i n)] []
    (fun r h => (n = 0 ∧ r = .nil 1 ∧ h = []) ∨ (0 < n ∧ r = .own 0 0 0 0 ∧ h = [.arr 0 1 (List.replicate n (.g (.i 0)))])) := by
  refine k_slices_Grow_Lint_int.calls ?_
  conv => whnf
  refine ⟨in64 (by omega) (by omega), ?_⟩
  conv => whnf
  refine ⟨in64 (by omega) (by omega), ?_⟩
  conv => whnf
  have e : (n : Int) - (0 - 0) = n := by omega
  rw [e]
  refine Br.dec (fun h => ?_) (fun h => ?_)
  · conv => whnf
    refine ⟨by omega, ?_⟩
    conv => whnf
    refine ⟨by constructor <;> omega, rfl, ?_⟩
    conv => whnf
    refine ⟨rfl, ?_⟩
    conv => whnf
    refine ⟨by simp, ?_⟩
    conv => whnf
    exact ⟨Ends.keep (.inr ⟨by omega, rfl, by simp⟩)⟩
  · conv => whnf
    exact ⟨Ends.keep (.inl ⟨by omega, rfl, rfl⟩)⟩

theorem flat_take {α : Type} (ls : List (List α)) (k : Nat) (h : k < ls.length) : (ls.take (k + 1)).flatten = (ls.take k).flatten ++ ls[k] := by
  rw [List.take_succ_eq_append_getElem h]; simp only [List.flatten_append, List.flatten_cons, List.flatten_nil, List.append_nil]
theorem flat_le {α : Type} (ls : List (List α)) (k : Nat) : (ls.take k).flatten.length ≤ ls.flatten.length := by
  conv => rhs; rw [← List.take_append_drop k ls, List.flatten_append, List.length_append]
  omega

theorem c_slices_Concat_Lint_int (ls : List (List Int)) (hl : ls.length < 1000000000) (hfl : ls.flatten.length < 1000000000) :
    ACalls Try.prog 56 [.g (intss ls)] [] (fun r h => ∃ g, r = .own 0 g 0 ls.flatten.length ∧ h = [.arr g 1 (vintl ls.flatten)]) := by
  refine k_slices_Concat_Lint_int.calls ?_
  have hm : (ls.map tints).length = ls.length := by simp
  conv => whnf
  refine SW.loop (α := Nat) (fun k => tm 36 [(0, .g (intss ls)), (3, .g (.i (ls.take k).flatten.length)), (9, .g (intss ls)), (10, .g (.i ls.length)), (11, .g (.i k))]) (fun _ => []) (fun k => k ≤ ls.length) (fun k => ls.length - k) 0 ?_ ?_ ?_ ?_
  · exact Nat.zero_le _
  · rfl
  · simp [subT, subV, tm, tmGo, intss]
  · rintro k hk
    dsimp only at hk ⊢
    conv => whnf
    refine Br.dec (fun h => ?_) (fun h => ?_)
    · conv => whnf
      refine ⟨by simp; omega, rfl, ?_⟩
      conv => whnf
      refine ⟨_, getZ (by omega), ?_⟩
      conv => whnf
      have hk' : k < ls.length := by omega
      have hf := flat_take ls k hk'
      have hle := flat_le ls (k + 1)
      rw [hf, List.length_append] at hle
      have hmk : (ls[k].map T.i).length = ls[k].length := by simp
      refine ⟨in64 (by omega) (by omega), ?_⟩
      conv => whnf
      refine ⟨in64 (by omega) (by omega), ?_⟩
      conv => whnf
      refine ⟨⟨k + 1, hk', by omega, rfl, ?_⟩⟩
      rw [hf]; simp [subT, subV, tm, tmGo]
    · conv => whnf
      have : k = ls.length := by omega
      subst this
      rw [List.take_length]
      refine (c_slices_Grow_Lint_int _ hfl).mono ?_
      rintro r h (⟨h0, rfl, rfl⟩ | ⟨h0, rfl, rfl⟩)
      · conv => whnf
        refine SW.loopR (α := Nat × List V) (fun a => tm 36 [(0, .g (intss ls)), (6, .own 0 a.1 0 (ls.take a.1).flatten.length), (25, .g (intss ls)), (26, .g (.i ls.length)), (27, .g (.i a.1))])
          (fun a => [.arr a.1 1 (vintl (ls.take a.1).flatten ++ a.2)]) (fun a => a.1 ≤ ls.length ∧ (0 < a.1 → a.2 = []) ∧ (a.1 = 0 → a.2 = [])) (fun a => ls.length - a.1) (0, []) ?_ ?_ ?_
        · exact ⟨Nat.zero_le _, fun h => by dsimp only at h; omega, fun _ => rfl⟩
        · exact (Refi.valloc 6 1 rfl).trans (Refi.sub rfl (by simp [subT, subV, tm, tmGo, intss, setT]))
        · rintro ⟨k, junk⟩ ⟨hk, hj, hj0⟩
          dsimp only at hk hj hj0 ⊢
          conv => whnf
          refine Br.dec (fun h => ?_) (fun h => ?_)
          · conv => whnf
            refine ⟨by simp; omega, rfl, ?_⟩
            conv => whnf
            refine ⟨_, getZ (by omega), ?_⟩
            conv => whnf
            have hk' : k < ls.length := by omega
            have hf := flat_take ls k hk'
            have hle := flat_le ls (k + 1)
            rw [hf, List.length_append] at hle
            refine ⟨rfl, ?_⟩
            conv => whnf
            refine ⟨by simp only [List.length_map]; omega, ⟨rfl, rfl, rfl⟩, _, ⟨_, rfl⟩, by rw [vintl_len], ?_⟩
            conv => whnf
            refine ⟨in64 (by omega) (by omega), ?_⟩
            conv => whnf
            refine ⟨⟨(k + 1, []), ⟨hk', fun _ => rfl, fun h => by simp at h⟩, by dsimp only; omega, Refi.sub ?_ ?_⟩⟩
            · dsimp only; rw [hf, vintl_app]; simp [vintl]
            · dsimp only; rw [hf]; simp [subT, subV, tm, tmGo]
          · conv => whnf
            have : k = ls.length := by omega
            subst this
            refine ⟨Ends.keep ⟨_, by rw [List.take_length], ?_⟩⟩
            rcases Nat.eq_zero_or_pos ls.length with hz | hz
            · have : ls = [] := List.eq_nil_of_length_eq_zero hz
              rw [hj0 hz, List.take_length, List.append_nil]
            · rw [hj hz, List.take_length, List.append_nil]
      · conv => whnf
        refine SW.loopR (α := Nat × List V) (fun a => tm 36 [(0, .g (intss ls)), (6, .own 0 a.1 0 (ls.take a.1).flatten.length), (25, .g (intss ls)), (26, .g (.i ls.length)), (27, .g (.i a.1))])
          (fun a => [.arr a.1 1 (vintl (ls.take a.1).flatten ++ a.2)]) (fun a => a.1 ≤ ls.length ∧ (0 < a.1 → a.2 = []) ∧ (a.1 = 0 → a.2 = List.replicate ls.flatten.length (.g (.i 0)))) (fun a => ls.length - a.1) (0, List.replicate ls.flatten.length (.g (.i 0))) ?_ ?_ ?_
        · exact ⟨Nat.zero_le _, fun h => by dsimp only at h; omega, fun _ => rfl⟩
        · exact Refi.sub (by simp [vintl]) (by simp [subT, subV, tm, tmGo, intss])
        · rintro ⟨k, junk⟩ ⟨hk, hj, hj0⟩
          dsimp only at hk hj hj0 ⊢
          conv => whnf
          refine Br.dec (fun h => ?_) (fun h => ?_)
          · conv => whnf
            refine ⟨by simp; omega, rfl, ?_⟩
            conv => whnf
            refine ⟨_, getZ (by omega), ?_⟩
            conv => whnf
            have hk' : k < ls.length := by omega
            have hf := flat_take ls k hk'
            have hle := flat_le ls (k + 1)
            rw [hf, List.length_append] at hle
            refine ⟨rfl, ?_⟩
            conv => whnf
            refine ⟨by simp only [List.length_map]; omega, ⟨rfl, rfl, rfl⟩, _, ⟨_, rfl⟩, by rw [vintl_len], ?_⟩
            conv => whnf
            refine ⟨in64 (by omega) (by omega), ?_⟩
            conv => whnf
            refine ⟨⟨(k + 1, []), ⟨hk', fun _ => rfl, fun h => by simp at h⟩, by dsimp only; omega, Refi.sub ?_ ?_⟩⟩
            · dsimp only; rw [hf, vintl_app]; simp [vintl]
            · dsimp only; rw [hf]; simp [subT, subV, tm, tmGo]
          · conv => whnf
            have : k = ls.length := by omega
            subst this
            refine ⟨Ends.keep ⟨_, by rw [List.take_length], ?_⟩⟩
            rcases Nat.eq_zero_or_pos ls.length with hz | hz
            · have : ls = [] := List.eq_nil_of_length_eq_zero hz
              subst this; simp at h0
            · rw [hj hz, List.take_length, List.append_nil]

/-- runs of one number made one -/
def ded : List Int → List Int
  | [] => []
  | [x] => [x]
  | x :: y :: r => if x = y then ded (y :: r) else x :: ded (y :: r)
theorem ded_snoc : ∀ (l : List Int) (y x : Int), ded (l ++ [y, x]) = ded (l ++ [y]) ++ if y = x then [] else [x]
  | [], y, x => by by_cases h : y = x <;> simp [ded, h]
  | [a], y, x => by by_cases h : y = x <;> by_cases h2 : a = y <;> simp [ded, h, h2]
  | a :: b :: l, y, x => by
    have ih := ded_snoc (b :: l) y x
    simp only [List.cons_append] at ih ⊢
    by_cases h2 : a = b
    · simp only [ded, if_pos h2]; exact ih
    · simp only [ded, if_neg h2]; rw [ih]; simp
theorem ded_take {xs : List Int} {k : Nat} (h1 : 1 ≤ k) (h : k < xs.length) : ded (xs.take (k + 1)) = ded (xs.take k) ++ if xs[k - 1]'(by omega) = xs[k] then [] else [xs[k]] := by
  obtain ⟨j, rfl⟩ : ∃ j, k = j + 1 := ⟨k - 1, by omega⟩
  have e1 : xs.take (j + 1 + 1) = xs.take j ++ [xs[j], xs[j + 1]] := by
    rw [List.take_succ_eq_append_getElem h, List.take_succ_eq_append_getElem (by omega : j < xs.length)]; simp only [List.append_assoc, List.singleton_append]
  have e2 : xs.take (j + 1) = xs.take j ++ [xs[j]] := List.take_succ_eq_append_getElem (by omega)
  rw [e1, e2, ded_snoc]; rfl
theorem ded_len : ∀ (l : List Int), (ded l).length ≤ l.length
  | [] => by simp [ded]
  | [x] => by simp [ded]
  | x :: y :: r => by
    have := ded_len (y :: r)
    by_cases h : x = y
    · simp only [ded, if_pos h, List.length_cons] at this ⊢; omega
    · simp only [ded, if_neg h, List.length_cons] at this ⊢; omega

theorem c_slices_Compact_Lint_int (xs : List Int) (g : Nat) (hl : xs.length < 1000000000) :
    ACalls Try.prog 58 [.own 0 g 0 xs.length] [.arr g 1 (vintl xs)] (fun r h => ∃ junk, r = .own 0 g 0 (ded xs).length ∧ h = [.arr g 1 (vintl (ded xs) ++ junk)]) := by
  refine k_slices_Compact_Lint_int.calls ?_
  conv => whnf
  refine Br.dec (fun h => ?_) (fun h => ?_)
  · conv => whnf
    have e : ded xs = xs := by
      match xs, h with
      | [], _ => rfl
      | [x], _ => rfl
      | x :: y :: r, h => simp at h; omega
    exact ⟨Ends.keep ⟨[], by rw [e], by rw [e, List.append_nil]⟩⟩
  conv => whnf
  refine SW.loop (α := Nat) (fun k => tm 61 [(0, .own 0 g 0 xs.length), (3, .g (.i k))]) (fun _ => [.arr g 1 (vintl xs)]) (fun k => 1 ≤ k ∧ k ≤ xs.length ∧ ded (xs.take k) = xs.take k) (fun k => xs.length - k) 1 ?_ ?_ ?_ ?_
  · refine ⟨Nat.le_refl _, by omega, ?_⟩
    match xs with
    | [] => rfl
    | x :: r => simp [ded]
  · rfl
  · simp [subT, subV, tm, tmGo]
  · rintro k ⟨k1, k2, k3⟩
    dsimp only at k1 k2 k3 ⊢
    conv => whnf
    refine Br.dec (fun h1 => ?_) (fun h1 => ?_)
    · conv => whnf
      have hk : k < xs.length := by omega
      refine ⟨by omega, ⟨rfl, rfl⟩, ?_⟩
      conv => whnf
      refine ⟨rfl, _, by simpa using vintl_get hk, ?_⟩
      conv => whnf
      refine ⟨in64 (by omega) (by omega), ?_⟩
      conv => whnf
      refine ⟨by omega, ⟨rfl, rfl⟩, ?_⟩
      conv => whnf
      have ek : (0 + ((k : Int) - 1).toNat) = k - 1 := by omega
      refine ⟨rfl, _, by rw [ek]; exact vintl_get (by omega), ?_⟩
      conv => whnf
      have hd := ded_take k1 hk
      refine Br.eq (fun h2 => ?_) (fun h2 => ?_)
      · conv => whnf
        refine ⟨rfl, ?_⟩
        conv => whnf
        refine ⟨by omega, ?_⟩
        conv => whnf
        have ek0 : (0 + ((k : Nat) : Int).toNat) = k := by omega
        have eks : (xs.length : Int).toNat - ((k : Nat) : Int).toNat = xs.length - k := by omega
        rw [ek0, eks]
        have hkeq : xs[k - 1]'(by omega) = xs[k] := h2.symm
        refine SW.loop (α := Nat × Nat × List Int) (fun a => tm 61 [(0, .own 0 g 0 xs.length), (3, .g (.i a.2.1)), (4, .own 0 g k (xs.length - k)), (5, .g (.i a.1))]) (fun a => [.arr g 1 (vintl a.2.2)])
          (fun a => 1 ≤ a.1 ∧ k + a.1 ≤ xs.length ∧ a.2.2.length = xs.length ∧ a.2.1 + 1 ≤ k + a.1 ∧ a.2.2.take a.2.1 = ded (xs.take (k + a.1)) ∧ (∀ (j : Nat) (h : j < xs.length) (h' : j < a.2.2.length), k + a.1 ≤ j + 1 → a.2.2[j] = xs[j])) (fun a => xs.length - a.1) (1, k, xs) ?_ ?_ ?_ ?_
        · exact ⟨Nat.le_refl _, hk, rfl, Nat.le_refl _, by rw [hd, if_pos hkeq, k3, List.append_nil], fun _ _ _ _ => rfl⟩
        · rfl
        · simp [subT, subV, tm, tmGo]
        · rintro ⟨q, t, es⟩ ⟨q1, q2, q3, q4, q5, q6⟩
          dsimp only at q1 q2 q3 q4 q5 q6 ⊢
          conv => whnf
          have hcast : ((xs.length - k : Nat) : Int) = (xs.length : Int) - k := by omega
          refine Br.dec (fun h3 => ?_) (fun h3 => ?_)
          · conv => whnf
            have hq : k + q < xs.length := by omega
            have hq' : k + q < es.length := by omega
            refine ⟨by omega, ⟨rfl, rfl⟩, ?_⟩
            conv => whnf
            have e1 : k + ((q : Nat) : Int).toNat = k + q := by omega
            refine ⟨rfl, _, by rw [e1]; exact vintl_get hq', ?_⟩
            conv => whnf
            refine ⟨in64 (by omega) (by omega), ?_⟩
            conv => whnf
            refine ⟨by omega, ⟨rfl, rfl⟩, ?_⟩
            conv => whnf
            have e2 : k + ((q : Int) - 1).toNat = k + q - 1 := by omega
            refine ⟨rfl, _, by rw [e2]; exact vintl_get (by omega), ?_⟩
            conv => whnf
            have v1 := q6 (k + q) hq hq' (by omega)
            have v2 := q6 (k + q - 1) (by omega) (by omega) (by omega)
            have hd2 := ded_take (k := k + q) (by omega) hq
            refine Br.ne (fun h4 => ?_) (fun h4 => ?_)
            · conv => whnf
              refine ⟨by omega, ⟨rfl, rfl⟩, ?_⟩
              conv => whnf
              refine ⟨rfl, _, by rw [e1]; exact vintl_get hq', ?_⟩
              conv => whnf
              have ht : t < es.length := by omega
              refine ⟨by omega, ⟨rfl, rfl⟩, ?_⟩
              conv => whnf
              have e3 : 0 + ((t : Nat) : Int).toNat = t := by omega
              refine ⟨rfl, _, by rw [e3]; exact vintl_get ht, ⟨rfl, rfl, Nat.le_refl _⟩, ?_⟩
              rw [e3]
              have hst : List.set (vintl es) t (storeV (V.g (.i es[t])) 0 (V.g (.sc (.int .i64 es[k + q])))) = vintl (es.set t es[k + q]) := by
                simp [vintl, storeV, V.cells, T.cells]
              rw [hst]
              conv => whnf
              refine ⟨in64 (by omega) (by omega), ?_⟩
              conv => whnf
              refine ⟨in64 (by omega) (by omega), ?_⟩
              conv => whnf
              refine ⟨⟨(q + 1, t + 1, es.set t es[k + q]), ⟨by dsimp only; omega, by dsimp only; omega, by simpa using q3, by dsimp only; omega, ?_, fun j hj hj' hjk => ?_⟩, by dsimp only; omega, rfl, by simp [subT, subV, tm, tmGo]⟩⟩
              · dsimp only
                have e4 : k + (q + 1) = k + q + 1 := by omega
                rw [e4, hd2, if_neg (fun e => h4 (by rw [v1, v2, e])), ← q5, ← v1]
                rw [List.take_succ_eq_append_getElem (by simpa using ht), List.take_set_of_le (Nat.le_refl _)]
                simp
              · dsimp only at hjk ⊢
                rw [List.getElem_set_ne (by omega)]
                exact q6 j hj (by omega) (by omega)
            · conv => whnf
              refine ⟨in64 (by omega) (by omega), ?_⟩
              conv => whnf
              refine ⟨⟨(q + 1, t, es), ⟨by dsimp only; omega, by dsimp only; omega, q3, by dsimp only; omega, ?_, fun j hj hj' hjk => q6 j hj hj' (by dsimp only at hjk; omega)⟩, by dsimp only; omega, rfl, by simp [subT, subV, tm, tmGo]⟩⟩
              dsimp only
              have e4 : k + (q + 1) = k + q + 1 := by omega
              rw [e4, hd2, if_pos (by rw [← v1, ← v2]; exact h4.symm), List.append_nil]; exact q5
          · conv => whnf
            have hq : k + q = xs.length := by omega
            rw [hq, List.take_length] at q5
            have htl : t = (ded xs).length := by rw [← q5]; simp; omega
            refine ⟨rfl, ?_⟩
            conv => whnf
            refine ⟨by omega, ?_⟩
            conv => whnf
            refine ⟨⟨rfl, rfl, rfl⟩, ?_⟩
            conv => whnf
            refine ⟨rfl, ?_⟩
            conv => whnf
            refine ⟨by omega, ?_⟩
            conv => whnf
            refine ⟨Ends.keep ⟨(List.replicate (xs.length - t) (V.g (.i 0))), by rw [← htl]; simp, ?_⟩⟩
            have e1 : (xs.length : Int).toNat - ((t : Nat) : Int).toNat = xs.length - t := by omega
            have e2 : 0 + ((t : Nat) : Int).toNat = t := by omega
            have e3 : t + (xs.length - t) = (vintl es).length := by rw [vintl_len]; omega
            rw [← q5]
            show [Blk.arr g 1 _] = [Blk.arr g 1 _]
            rw [e1, e2, e3, List.drop_length, List.append_nil]
            have : vintl (es.take t) = (vintl es).take t := by simp [vintl]
            rw [this]
      · conv => whnf
        refine ⟨in64 (by omega) (by omega), ?_⟩
        conv => whnf
        refine ⟨⟨k + 1, ⟨by omega, hk, ?_⟩, by omega, rfl, by simp [subT, subV, tm, tmGo]⟩⟩
        rw [hd, k3, if_neg (fun e => h2 e.symm), ← List.take_succ_eq_append_getElem hk]
    · conv => whnf
      have : k = xs.length := by omega
      subst this
      rw [List.take_length] at k3
      exact ⟨Ends.keep ⟨[], by rw [k3], by rw [k3, List.append_nil]⟩⟩
end Go.Aw
namespace Go.Aw
open Go.Proofs
set_option maxRecDepth 100000

/- strictly rising lists -/
abbrev Rises (l : List Int) : Prop := l.Pairwise (· < ·)

theorem rises_ext : ∀ {l m : List Int}, Rises l → Rises m → (∀ x, x ∈ l ↔ x ∈ m) → l = m
  | [], [], _, _, _ => rfl
  | [], y :: m, _, _, h => absurd ((h y).2 (by simp)) (by simp)
  | x :: l, [], _, _, h => absurd ((h x).1 (by simp)) (by simp)
  | x :: l, y :: m, hl, hm, h => by
    rw [Rises, List.pairwise_cons] at hl hm
    have hxy : x = y := by
      rcases Int.lt_trichotomy x y with h1 | h1 | h1
      · have := (h x).1 (by simp)
        rcases List.mem_cons.1 this with e | e
        · exact e
        · have := hm.1 x e; omega
      · exact h1
      · have := (h y).2 (by simp)
        rcases List.mem_cons.1 this with e | e
        · exact e.symm
        · have := hl.1 y e; omega
    subst hxy
    rw [rises_ext hl.2 hm.2 (fun z => ?_)]
    constructor
    · intro hz
      rcases List.mem_cons.1 ((h z).1 (by simp [hz])) with e | e
      · have := hl.1 z hz; omega
      · exact e
    · intro hz
      rcases List.mem_cons.1 ((h z).2 (by simp [hz])) with e | e
      · have := hm.1 z hz; omega
      · exact e

theorem ded_rises : ∀ {l : List Int}, l.Pairwise (· ≤ ·) → Rises (ded l) ∧ ∀ x, x ∈ ded l ↔ x ∈ l
  | [], _ => ⟨.nil, fun _ => Iff.rfl⟩
  | [x], _ => ⟨by simp [ded], fun _ => Iff.rfl⟩
  | x :: y :: r, h => by
    rw [List.pairwise_cons] at h
    obtain ⟨h1, h2⟩ := ded_rises h.2
    by_cases e : x = y
    · simp only [ded, if_pos e]
      refine ⟨h1, fun z => ?_⟩
      rw [h2 z]; subst e; simp
    · simp only [ded, if_neg e]
      refine ⟨List.pairwise_cons.2 ⟨fun z hz => ?_, h1⟩, fun z => by rw [List.mem_cons, h2 z, List.mem_cons (a := z) (b := x)]⟩
      have hz' := (h2 z).1 hz
      have hx := h.1 y (by simp)
      have := h.1 z hz'
      rcases List.mem_cons.1 hz' with e2 | e2
      · omega
      · have := (List.pairwise_cons.1 h.2).1 z e2
        omega

theorem withL_rises {l : List Int} {n : Int} (h : Rises l) : Rises (withL l n) ∧ ∀ x, x ∈ withL l n ↔ x ∈ l ∨ x = n := by
  have hf := fromN_is l n _ rfl (Nat.zero_le _)
  generalize hp : fromN l 0 n = p at hf
  unfold withL
  rw [hp]
  split
  · rename_i hc
    obtain ⟨h1, h2⟩ := hc
    exact ⟨h, fun x => ⟨.inl, fun hx => hx.elim id fun e => by rw [e, ← h2]; exact List.getElem_mem _⟩⟩
  · rename_i hc
    have hsp : l = l.take p ++ l.drop p := (List.take_append_drop p l).symm
    have hlo : ∀ x ∈ l.take p, x < n := fun x hx => by
      obtain ⟨i, hi, rfl⟩ := List.getElem_of_mem hx
      simp at hi ⊢
      exact hf.lo i (by omega) (Nat.zero_le _) (by omega)
    have hrd : Rises (l.drop p) := List.Pairwise.sublist (List.drop_sublist p l) h
    have hhi : ∀ x ∈ l.drop p, n < x := fun x hx => by
      have hlt : p < l.length := by
        rcases Nat.lt_or_ge p l.length with h1 | h1
        · exact h1
        · rw [List.drop_of_length_le h1] at hx; simp at hx
      have h1 := hf.hi hlt
      have h2 : l[p] ≠ n := fun e => hc ⟨hlt, e⟩
      rw [List.drop_eq_getElem_cons hlt] at hx hrd
      rcases List.mem_cons.1 hx with e | e
      · omega
      · have := (List.pairwise_cons.1 hrd).1 x e; omega
    refine ⟨?_, fun x => ?_⟩
    · refine List.pairwise_append.2 ⟨List.Pairwise.sublist (List.take_sublist p l) h, List.pairwise_cons.2 ⟨hhi, hrd⟩, fun a ha b hb => ?_⟩
      rcases List.mem_cons.1 hb with e | e
      · rw [e]; exact hlo a ha
      · have := hlo a ha; have := hhi b e; omega
    · rw [List.mem_append, List.mem_cons]
      constructor
      · rintro (h1 | h1 | h1)
        · exact .inl (List.mem_of_mem_take h1)
        · exact .inr h1
        · exact .inl (List.mem_of_mem_drop h1)
      · rintro (h1 | h1)
        · rw [hsp, List.mem_append] at h1
          exact h1.elim .inl fun h => .inr (.inr h)
        · exact .inr (.inl h1)

theorem foldW_rises' : ∀ (xs l : List Int), Rises l → Rises (xs.foldl withL l) ∧ ∀ x, x ∈ xs.foldl withL l ↔ x ∈ l ∨ x ∈ xs
  | [], l, h => ⟨h, fun x => by simp⟩
  | y :: xs, l, h => by
    obtain ⟨h1, h2⟩ := withL_rises (n := y) h
    obtain ⟨h3, h4⟩ := foldW_rises' xs (withL l y) h1
    refine ⟨h3, fun x => ?_⟩
    rw [List.foldl_cons, h4 x, h2 x, List.mem_cons, or_assoc]
theorem foldW_rises (xs : List Int) : Rises (foldW xs) ∧ ∀ x, x ∈ foldW xs ↔ x ∈ xs := by
  have := foldW_rises' xs [] .nil
  exact ⟨this.1, fun x => by rw [foldW, this.2 x]; simp⟩

theorem sort_le (xs : List Int) : (xs.mergeSort fun x y => decide (x ≤ y)).Pairwise (· ≤ ·) := by
  have := List.pairwise_mergeSort (le := fun x y : Int => decide (x ≤ y)) (fun a b c h1 h2 => by simp at h1 h2 ⊢; omega) (fun a b => by simp; omega) xs
  exact this.imp (fun h => by simpa using h)
theorem ded_sort (xs : List Int) : ded (xs.mergeSort fun x y => decide (x ≤ y)) = foldW xs := by
  obtain ⟨h1, h2⟩ := ded_rises (sort_le xs)
  obtain ⟨h3, h4⟩ := foldW_rises xs
  exact rises_ext h1 h3 fun x => by rw [h2 x, h4 x, List.mem_mergeSort]

theorem c_lists_Or (ls : List (List Int)) (hl : ls.length < 1000000000) (hls : ∀ l ∈ ls, l.length < 1000000000) (hfl : ls.flatten.length < 1000000000) : CG Try.prog 35 [intss ls] (tints (orL ls)) := by
  refine ⟨k_lists_Or.calls ?_⟩
  conv => whnf
  refine (c_lists_all ls hl hls).go rfl ?_
  conv => whnf
  refine Br.not (fun h => ?_) (fun h => ?_)
  · conv => whnf
    exact ⟨Ends.ground (H := []) (L := []) 1 rfl ⟨by rw [orL, if_neg (by simp [h])]; rfl, rfl⟩⟩
  · conv => whnf
    refine (c_slices_Concat_Lint_int ls hl hfl).mono ?_
    rintro r hh ⟨g, rfl, rfl⟩
    conv => whnf
    refine (sortI_ok (P := Try.prog) k_slices_Sort_Lint_int.callOk Try.slices_Sort_int Try.slices_Sort_int_none (H := [.arr g 1 (vintl ls.flatten)]) (b := 0) (g := g) (xs := ls.flatten) (by omega) rfl).mono ?_
    rintro r hh ⟨rfl, rfl⟩
    conv => whnf
    have hsl : (ls.flatten.mergeSort fun x y => decide (x ≤ y)).length = ls.flatten.length := List.length_mergeSort ..
    rw [← hsl]
    refine (c_slices_Compact_Lint_int _ g (by rw [hsl]; exact hfl)).mono ?_
    rintro r hh ⟨junk, rfl, rfl⟩
    rw [ded_sort]
    conv => whnf
    refine Br.dec (fun h3 => ?_) (fun h3 => ?_)
    · conv => whnf
      exact ⟨Ends.ground (H := []) (L := [_]) (t := tints (orL ls)) 1 (by rw [orL, if_neg (by omega)]; rfl) ⟨rfl, rfl⟩⟩
    · conv => whnf
      refine ⟨Ends.ground (H := []) (L := [_]) (t := tints (orL ls)) 1 ?_ ⟨rfl, rfl⟩⟩
      rw [orL, if_pos ⟨h, by omega⟩]
      exact gr_part (l := foldW ls.flatten) (f := fun x => V.g (.i x)) (e := T.i) rfl (Nat.le_refl _) rfl fun _ _ => gr_g
end Go.Aw
namespace Go.Aw
open Go.Proofs
set_option maxRecDepth 100000

theorem tv_int {t : T} (h : TV (.i .i64) t) : ∃ n : Int, t = .i n ∧ inR .i64 n := by
  obtain ⟨cs, ⟨n, rfl, hn⟩, rfl⟩ := h
  exact ⟨n, rfl, hn⟩
theorem tv_ints {t : T} (h : TV (.sl 1 (.i .i64)) t) : ∃ xs : List Int, t = tints xs ∧ xs.length ≤ maxLen := by
  obtain ⟨cs, ⟨es, rfl, hl, he⟩, rfl⟩ := h
  have : ∃ xs : List Int, es = xs.map T.i := by
    clear hl
    induction es with
    | nil => exact ⟨[], rfl⟩
    | cons e es ih =>
      obtain ⟨xs, rfl⟩ := ih fun x hx => he x (by simp [hx])
      obtain ⟨ys, ⟨n, rfl, _⟩, rfl⟩ := he e (by simp)
      exact ⟨n :: xs, rfl⟩
  obtain ⟨xs, rfl⟩ := this
  exact ⟨xs, rfl, by simpa using hl⟩
theorem tv_intss {t : T} (h : TV (.sl 1 (.sl 1 (.i .i64))) t) : ∃ xs : List (List Int), t = intss xs ∧ xs.length ≤ maxLen ∧ ∀ x ∈ xs, x.length ≤ maxLen := by
  obtain ⟨cs, ⟨es, rfl, hl, he⟩, rfl⟩ := h
  have : ∃ xs : List (List Int), es = xs.map tints ∧ ∀ x ∈ xs, x.length ≤ maxLen := by
    clear hl
    induction es with
    | nil => exact ⟨[], rfl, by simp⟩
    | cons e es ih =>
      obtain ⟨xs, rfl, hxs⟩ := ih fun x hx => he x (by simp [hx])
      obtain ⟨ys, h1, rfl⟩ := he e (by simp)
      obtain ⟨zs, h2, h3⟩ := tv_ints (t := mkT (Ty.sl 1 (.i .i64)).ag ys) ⟨ys, h1, rfl⟩
      exact ⟨zs :: xs, by rw [h2]; rfl, by simpa using ⟨h3, hxs⟩⟩
  obtain ⟨xs, rfl, hxs⟩ := this
  exact ⟨xs, rfl, by simpa using hl, hxs⟩

theorem tvs_nil {ys : List T} (h : TVs [] ys) : ys = [] := by
  cases ys with
  | nil => rfl
  | cons _ _ => exact h.elim
theorem tvs_cons {a : Ty} {r : List Ty} {ys : List T} (h : TVs (a :: r) ys) : ∃ y zs, ys = y :: zs ∧ TV a y ∧ TVs r zs := by
  cases ys with
  | nil => exact h.elim
  | cons y zs => exact ⟨y, zs, rfl, h.1, h.2⟩

theorem ints_same (xs ys : List Int) (hl : xs.length < 9223372036854775808) (e : xs = ys) : CG Try.prog 20 [tints xs, tints ys] (.b true) := by
  have := c_ref01_Ints xs ys hl
  rwa [decide_eq_true e] at this

theorem c_law16_awake : CG Try.prog 31 [] (.b true) := by
  refine ⟨k_law16_awake.calls ?_⟩
  have e1 : andL [[1, 3, 5], [3, 4, 5]] = [3, 5] := by decide
  have e2 : orL [[1, 3, 5], [3, 4, 5]] = [1, 3, 4, 5] := by decide
  have e3 : butL [1, 3, 5] [3, 4, 5] = [1] := by decide
  have e4 : fromZ [1, 3, 5] 0 4 = 2 := by decide
  have e5 : mayL [1, 3, 5] = true := by decide
  have c1 := c_lists_And [[1, 3, 5], [3, 4, 5]] (by decide) (by decide)
  have c2 := c_lists_Or [[1, 3, 5], [3, 4, 5]] (by decide) (by decide) (by decide)
  have c3 := c_lists_But [1, 3, 5] [3, 4, 5] (by decide) (by decide)
  have c4 := c_lists_From [1, 3, 5] 0 4 (by decide)
  have c5 := c_lists_May [1, 3, 5] (by decide)
  rw [e1] at c1; rw [e2] at c2; rw [e3] at c3; rw [e4] at c4; rw [e5] at c5
  have i1 := ints_same [3, 5] [3, 5] (by decide) rfl
  have i2 := ints_same [1, 3, 4, 5] [1, 3, 4, 5] (by decide) rfl
  have i3 := ints_same [1] [1] (by decide) rfl
  conv => whnf
  repeat ((first | refine (c1).go rfl ?_ | refine (c2).go rfl ?_ | refine (c3).go rfl ?_ | refine (c4).go rfl ?_ | refine (c5).go rfl ?_ | refine (i1).go rfl ?_ | refine (i2).go rfl ?_ | refine (i3).go rfl ?_ | refine And.intro (show cellsAll _ _ from by repeat (first | exact trivial | refine ⟨⟨rfl, rfl⟩, ?_⟩)) ?_); conv => whnf)
  exact ⟨Ends.keep ⟨rfl, rfl⟩⟩

theorem c_law16_ListsFrom : ∀ ys, TVs [.sl 1 (.i .i64), .i .i64, .i .i64] ys → CG Try.prog 12 ys (.b true) := by
  intro ys hy
  obtain ⟨y0, ys, rfl, h0, hy⟩ := tvs_cons hy
  obtain ⟨y1, ys, rfl, h1, hy⟩ := tvs_cons hy
  obtain ⟨y2, ys, rfl, h2, hy⟩ := tvs_cons hy
  cases tvs_nil hy
  obtain ⟨l, rfl, hl0⟩ := tv_ints h0
  obtain ⟨a, rfl, ha⟩ := tv_int h1
  obtain ⟨x, rfl, hx⟩ := tv_int h2
  refine ⟨k_law16_ListsFrom.calls ?_⟩
  have hm : (l.map T.i).length = l.length := by simp
  conv => whnf
  repeat ((first | refine (c_law16_awake).go rfl ?_ | refine And.intro (show cellsAll _ _ from by repeat (first | exact trivial | refine ⟨⟨rfl, rfl⟩, ?_⟩)) ?_); conv => whnf)
  refine Br.dec (fun h => ?_) (fun h => ?_)
  · conv => whnf
    exact ⟨Ends.keep ⟨rfl, rfl⟩⟩
  · conv => whnf
    have hl : l.length < 1000000000 := by omega
    refine (c_lists_From l a x hl).go rfl ?_
    conv => whnf
    refine (c_lists_May l (by omega)).go rfl ?_
    conv => whnf
    have bad : ¬ (mayL l = true ∧ 0 ≤ a ∧ a ≤ l.length) → Fin [] (fun r h => r = V.g (.b true) ∧ h = []) (.g (.sc (.bool (fromZ l a x == -1)))) [] := fun h => ⟨Ends.keep ⟨by rw [fromZ, if_neg h]; rfl, rfl⟩⟩
    refine Br.not (fun h => ?_) (fun h => ?_)
    · conv => whnf
      exact bad (by simp [h])
    · conv => whnf
      refine Br.dec (fun h1 => ?_) (fun h1 => ?_)
      · conv => whnf
        exact bad (by omega)
      · conv => whnf
        refine Br.dec (fun h2 => ?_) (fun h2 => ?_)
        · conv => whnf
          exact bad (by omega)
        · conv => whnf
          obtain ⟨n, rfl⟩ : ∃ n : Nat, a = n := ⟨a.toNat, by omega⟩
          have hn : n ≤ l.length := by omega
          have hf := fromN_is l x _ rfl hn
          have hz : fromZ l n x = (fromN l n x : Nat) := by rw [fromZ, if_pos ⟨h, by omega, by omega⟩]; simp
          rw [hz]
          generalize fromN l n x = p at hf
          have hge := hf.ge
          have hle := hf.le
          refine Br.dec (fun h3 => by omega) (fun h3 => ?_)
          conv => whnf
          refine Br.dec (fun h4 => by omega) (fun h4 => ?_)
          conv => whnf
          refine Br.dec (fun h5 => ?_) (fun h5 => ?_)
          · conv => whnf
            refine ⟨by simp; omega, rfl, ?_⟩
            conv => whnf
            refine ⟨_, getZ (by omega), ?_⟩
            conv => whnf
            refine Br.dec (fun h6 => by have := hf.hi (by omega); omega) (fun h6 => ?_)
            conv => whnf
            refine Br.eq (fun h7 => ?_) (fun h7 => ?_)
            · conv => whnf
              exact ⟨Ends.keep ⟨rfl, rfl⟩⟩
            · conv => whnf
              refine ⟨in64 (by omega) (by omega), ?_⟩
              conv => whnf
              refine ⟨by simp; omega, rfl, ?_⟩
              conv => whnf
              have e : ((p : Int) - 1).toNat = p - 1 := by omega
              refine ⟨_, by rw [e]; exact getM (by omega), ?_⟩
              conv => whnf
              have := hf.lo (p - 1) (by omega) (by omega) (by omega)
              exact ⟨Ends.keep ⟨by rw [decide_eq_true this], rfl⟩⟩
          · conv => whnf
            refine Br.eq (fun h7 => ?_) (fun h7 => ?_)
            · conv => whnf
              exact ⟨Ends.keep ⟨rfl, rfl⟩⟩
            · conv => whnf
              refine ⟨in64 (by omega) (by omega), ?_⟩
              conv => whnf
              refine ⟨by simp; omega, rfl, ?_⟩
              conv => whnf
              have e : ((p : Int) - 1).toNat = p - 1 := by omega
              refine ⟨_, by rw [e]; exact getM (by omega), ?_⟩
              conv => whnf
              have := hf.lo (p - 1) (by omega) (by omega) (by omega)
              exact ⟨Ends.keep ⟨by rw [decide_eq_true this], rfl⟩⟩
end Go.Aw
namespace Go.Aw
open Go.Proofs
set_option maxRecDepth 100000

theorem rise_iff : ∀ {l : List Int} {m : Int}, rise m l = true ↔ Rises l ∧ ∀ x ∈ l, m < x
  | [], m => by simp [rise]
  | x :: r, m => by
    have e : Rises (x :: r) ↔ (∀ y ∈ r, x < y) ∧ Rises r := List.pairwise_cons
    rw [rise, Bool.and_eq_true, decide_eq_true_eq, rise_iff, e]
    constructor
    · rintro ⟨h1, h2, h3⟩
      exact ⟨⟨h3, h2⟩, fun y hy => by
        rcases List.mem_cons.1 hy with e | e
        · omega
        · have := h3 y e; omega⟩
    · rintro ⟨⟨h1, h2⟩, h3⟩
      exact ⟨h3 x (by simp), h2, h1⟩
theorem mayL_iff {l : List Int} : mayL l = true ↔ Rises l ∧ (∀ x ∈ l, -1 < x) ∧ l.length ≤ 2000 := by
  rw [mayL, Bool.and_eq_true, decide_eq_true_eq, rise_iff, and_assoc]
theorem may_filter {l : List Int} {q : Int → Bool} (h : mayL l = true) : mayL (l.filter q) = true := by
  rw [mayL_iff] at h ⊢
  exact ⟨List.Pairwise.sublist List.filter_sublist h.1, fun x hx => h.2.1 x (List.mem_filter.1 hx).1, Nat.le_trans (List.length_filter_le _ _) h.2.2⟩
theorem all_may {ls : List (List Int)} (h : ls.all mayL = true) {l : List Int} (hl : l ∈ ls) : mayL l = true := by
  rw [List.all_eq_true] at h; exact h l hl

theorem andL_mem {ls : List (List Int)} (hn : ls ≠ []) (h : ls.all mayL = true) (x : Int) : x ∈ andL ls ↔ ∀ l ∈ ls, x ∈ l := by
  cases ls with
  | nil => exact absurd rfl hn
  | cons l r =>
    rw [andL, if_pos h, List.mem_filter, List.all_eq_true]
    constructor
    · rintro ⟨_, h2⟩ k hk; simpa using h2 k hk
    · intro h2; exact ⟨h2 l (by simp), fun k hk => by simpa using h2 k hk⟩
theorem andL_may {ls : List (List Int)} (h : ls.all mayL = true) : mayL (andL ls) = true := by
  cases ls with
  | nil => rfl
  | cons l r => rw [andL, if_pos h]; exact may_filter (all_may h (by simp))
theorem butL_mem {a b : List Int} (ha : mayL a = true) (hb : mayL b = true) (x : Int) : x ∈ butL a b ↔ x ∈ a ∧ x ∉ b := by
  rw [butL, if_pos ⟨ha, hb⟩, List.mem_filter]; simp
theorem butL_may {a b : List Int} (ha : mayL a = true) (hb : mayL b = true) : mayL (butL a b) = true := by
  rw [butL, if_pos ⟨ha, hb⟩]; exact may_filter ha
theorem orL_mem {ls : List (List Int)} (h : ls.all mayL = true) (hl : ls.flatten.length ≤ 2000) (x : Int) : x ∈ orL ls ↔ ∃ l ∈ ls, x ∈ l := by
  rw [orL, if_pos ⟨h, Nat.le_trans (foldW_len _) hl⟩, (foldW_rises _).2 x, List.mem_flatten]
theorem orL_may {ls : List (List Int)} (h : ls.all mayL = true) (hl : ls.flatten.length ≤ 2000) : mayL (orL ls) = true := by
  rw [mayL_iff]
  refine ⟨?_, fun x hx => ?_, ?_⟩
  · rw [orL, if_pos ⟨h, Nat.le_trans (foldW_len _) hl⟩]; exact (foldW_rises _).1
  · obtain ⟨l, h1, h2⟩ := (orL_mem h hl x).1 hx
    exact (mayL_iff.1 (all_may h h1)).2.1 x h2
  · rw [orL, if_pos ⟨h, Nat.le_trans (foldW_len _) hl⟩]; exact Nat.le_trans (foldW_len _) hl
theorem orL_len {ls : List (List Int)} : (orL ls).length ≤ ls.flatten.length := by
  unfold orL; split
  · exact foldW_len _
  · simp
theorem andL_len {l : List Int} {r : List (List Int)} : (andL (l :: r)).length ≤ l.length := by
  rw [andL]
  split
  · exact List.length_filter_le _ _
  · simp
theorem butL_len {a b : List Int} : (butL a b).length ≤ a.length := by
  unfold butL; split
  · exact List.length_filter_le _ _
  · simp
theorem may_ext {a b : List Int} (ha : mayL a = true) (hb : mayL b = true) (h : ∀ x, x ∈ a ↔ x ∈ b) : a = b := rises_ext (mayL_iff.1 ha).1 (mayL_iff.1 hb).1 h

theorem foldW_self {a : List Int} (h : Rises a) : foldW a = a := rises_ext (foldW_rises a).1 h (foldW_rises a).2
theorem withL_length {l : List Int} {n : Int} (h : Rises l) : (withL l n).length = l.length + if n ∈ l then 0 else 1 := by
  have hm := (withL_rises (n := n) h).2
  by_cases hn : n ∈ l
  · rw [if_pos hn, rises_ext (withL_rises (n := n) h).1 h fun x => ⟨fun hx => ((hm x).1 hx).elim id fun e => e ▸ hn, fun hx => (hm x).2 (.inl hx)⟩]; rfl
  · rw [if_neg hn, withL, if_neg (fun ⟨h1, h2⟩ => hn (by rw [← h2]; exact List.getElem_mem _))]
    have := (fromN_is l n _ rfl (Nat.zero_le _)).le
    simp; omega
theorem foldl_length : ∀ {b l : List Int}, Rises l → Rises b → (b.foldl withL l).length = l.length + (b.filter fun x => !decide (x ∈ l)).length
  | [], l, _, _ => by simp
  | y :: b, l, hl, hb => by
    rw [Rises, List.pairwise_cons] at hb
    rw [List.foldl_cons, foldl_length (withL_rises (n := y) hl).1 hb.2, withL_length hl]
    have e : b.filter (fun x => !decide (x ∈ withL l y)) = b.filter (fun x => !decide (x ∈ l)) := by
      apply List.filter_congr
      intro x hx
      have hne : x ≠ y := by have := hb.1 x hx; omega
      have := (withL_rises (n := y) hl).2 x
      by_cases h : x ∈ l
      · rw [decide_eq_true h, decide_eq_true (this.2 (.inl h))]
      · rw [decide_eq_false h, decide_eq_false (fun h2 => (this.1 h2).elim h hne)]
    rw [e]
    by_cases h : y ∈ l
    · rw [if_pos h, List.filter_cons, if_neg (by simp [h])]; rfl
    · rw [if_neg h, List.filter_cons, if_pos (by simp [h])]; simp; omega
theorem or_and_len {a b : List Int} (ha : mayL a = true) (hb : mayL b = true) (hl : a.length + b.length ≤ 2000) : (orL [a, b]).length + (andL [a, b]).length = a.length + b.length := by
  have hra := (mayL_iff.1 ha).1
  have hrb := (mayL_iff.1 hb).1
  have hall : [a, b].all mayL = true := by simp [ha, hb]
  have e1 : orL [a, b] = b.foldl withL a := by
    rw [orL, if_pos ⟨hall, Nat.le_trans (foldW_len _) (by simpa using hl)⟩]
    have : foldW [a, b].flatten = b.foldl withL (foldW a) := by simp [foldW]
    rw [this, foldW_self hra]
  have e2 : andL [a, b] = b.filter fun x => decide (x ∈ a) := by
    refine rises_ext (mayL_iff.1 (andL_may hall)).1 (List.Pairwise.sublist List.filter_sublist hrb) fun x => ?_
    rw [andL_mem (by simp) hall, List.mem_filter]
    simp [and_comm]
  rw [e1, e2, foldl_length hra hrb]
  have h3 : ∀ (b : List Int) (p : Int → Bool), (b.filter fun x => !p x).length + (b.filter p).length = b.length := by
    intro b p
    induction b with
    | nil => rfl
    | cons x b ih => cases h : p x <;> simp [h] <;> omega
  have := h3 b fun x => decide (x ∈ a)
  omega
end Go.Aw
namespace Go.Aw
open Go.Proofs
set_option maxRecDepth 100000

theorem few_true {ls : List (List Int)} (h : (decide (ls.length ≤ 5) && ls.all fun l => decide (l.length ≤ 300)) = true) : ls.length ≤ 5 ∧ ∀ l ∈ ls, l.length ≤ 300 := by
  rw [Bool.and_eq_true, List.all_eq_true, decide_eq_true_eq] at h
  exact ⟨h.1, fun l hl => by simpa using h.2 l hl⟩
theorem flat_bound : ∀ {ls : List (List Int)} {n : Nat}, (∀ l ∈ ls, l.length ≤ n) → ls.flatten.length ≤ ls.length * n
  | [], _, _ => by simp
  | l :: r, n, h => by
    have h1 := h l (by simp)
    have h2 := flat_bound (ls := r) (n := n) fun k hk => h k (by simp [hk])
    rw [List.flatten_cons, List.length_append, List.length_cons, Nat.add_mul]; omega
theorem has_true {xs : List Int} {n : Int} {b : Bool} (hl : xs.length < 9223372036854775808) (e : decide (n ∈ xs) = b) : CG Try.prog 29 [tints xs, .i n] (.b b) := by
  have := c_ref16_Has xs n hl; rwa [e] at this

theorem c_law16_ListsTell : ∀ ys, TVs [.sl 1 (.sl 1 (.i .i64)), .sl 1 (.i .i64), .sl 1 (.i .i64), .i .i64, .i .i64] ys → CG Try.prog 8 ys (.b true) := by
  intro ys hy
  obtain ⟨y0, ys, rfl, h0, hy⟩ := tvs_cons hy
  obtain ⟨y1, ys, rfl, h1, hy⟩ := tvs_cons hy
  obtain ⟨y2, ys, rfl, h2, hy⟩ := tvs_cons hy
  obtain ⟨y3, ys, rfl, h3, hy⟩ := tvs_cons hy
  obtain ⟨y4, ys, rfl, h4, hy⟩ := tvs_cons hy
  cases tvs_nil hy
  obtain ⟨l, rfl, hl0, hl1⟩ := tv_intss h0
  obtain ⟨a, rfl, ha0⟩ := tv_ints h1
  obtain ⟨b, rfl, hb0⟩ := tv_ints h2
  obtain ⟨n, rfl, _⟩ := tv_int h3
  obtain ⟨x, rfl, _⟩ := tv_int h4
  unfold maxLen at hl0 hl1 ha0 hb0
  refine ⟨k_law16_ListsTell.calls ?_⟩
  have f1 := c_law16_few l (by omega)
  have f2 := c_law16_few [a, b] (by simp)
  conv => whnf
  cases hv1 : (decide (l.length ≤ 5) && l.all fun l => decide (l.length ≤ 300)) <;> cases hv2 : (decide ([a, b].length ≤ 5) && [a, b].all fun l => decide (l.length ≤ 300)) <;> rw [hv1] at f1 <;> rw [hv2] at f2
  · repeat ((first | refine (c_law16_awake).go rfl ?_ | refine (f1).go rfl ?_ | refine (f2).go rfl ?_ | refine And.intro (show cellsAll _ _ from by repeat (first | exact trivial | refine ⟨⟨rfl, rfl⟩, ?_⟩)) ?_); conv => whnf)
    exact ⟨Ends.keep ⟨rfl, rfl⟩⟩
  · repeat ((first | refine (c_law16_awake).go rfl ?_ | refine (f1).go rfl ?_ | refine (f2).go rfl ?_ | refine And.intro (show cellsAll _ _ from by repeat (first | exact trivial | refine ⟨⟨rfl, rfl⟩, ?_⟩)) ?_); conv => whnf)
    exact ⟨Ends.keep ⟨rfl, rfl⟩⟩
  · repeat ((first | refine (c_law16_awake).go rfl ?_ | refine (f1).go rfl ?_ | refine (f2).go rfl ?_ | refine And.intro (show cellsAll _ _ from by repeat (first | exact trivial | refine ⟨⟨rfl, rfl⟩, ?_⟩)) ?_); conv => whnf)
    exact ⟨Ends.keep ⟨rfl, rfl⟩⟩
  · obtain ⟨p1, p2⟩ := few_true hv1
    obtain ⟨q1, q2⟩ := few_true hv2
    have ha : a.length ≤ 300 := q2 a (by simp)
    have hb : b.length ≤ 300 := q2 b (by simp)
    have hls : ∀ k ∈ l, k.length < 1000000000 := fun k hk => by have := p2 k hk; omega
    have hfl := flat_bound p2
    have a1 := c_lists_And l (by omega) hls
    have a2 := c_ref16_And l (by omega) hls
    have a3 := ints_same (andL l) (andL l) (by cases l with | nil => simp [andL] | cons k r => have := andL_len (l := k) (r := r); have := p2 k (by simp); omega) rfl
    have b1 := c_lists_Or l (by omega) hls (by omega)
    have b2 := c_ref16_Or l (by omega) hls (by omega)
    have b3 := ints_same (orL l) (orL l) (by have := orL_len (ls := l); omega) rfl
    have d1 := c_lists_But a b (by omega) (by omega)
    have d2 := c_ref16_But a b (by omega) (by omega)
    have d3 := ints_same (butL a b) (butL a b) (by have := butL_len (a := a) (b := b); omega) rfl
    have e1 := c_lists_May a (by omega)
    have e2 := c_ref16_May a (by omega)
    have g1 := c_lists_From a n x (by omega)
    have g2 := c_ref16_From a n x (by omega)
    repeat ((first | refine (c_law16_awake).go rfl ?_ | refine (f1).go rfl ?_ | refine (f2).go rfl ?_ | refine (a1).go rfl ?_ | refine (a2).go rfl ?_ | refine (a3).go rfl ?_ | refine (b1).go rfl ?_ | refine (b2).go rfl ?_ | refine (b3).go rfl ?_ | refine (d1).go rfl ?_ | refine (d2).go rfl ?_ | refine (d3).go rfl ?_ | refine (e1).go rfl ?_ | refine (e2).go rfl ?_ | refine (g1).go rfl ?_ | refine (g2).go rfl ?_ | refine And.intro (show cellsAll _ _ from by repeat (first | exact trivial | refine ⟨⟨rfl, rfl⟩, ?_⟩)) ?_); conv => whnf)
    refine Br.intro (fun h => ?_) (fun h => by simp at h)
    conv => whnf
    repeat ((first | refine (g1).go rfl ?_ | refine (g2).go rfl ?_ | refine And.intro (show cellsAll _ _ from by repeat (first | exact trivial | refine ⟨⟨rfl, rfl⟩, ?_⟩)) ?_); conv => whnf)
    exact ⟨Ends.keep ⟨by simp, rfl⟩⟩

theorem c_law16_ListsAnd : ∀ ys, TVs [.sl 1 (.i .i64), .sl 1 (.i .i64), .i .i64] ys → CG Try.prog 9 ys (.b true) := by
  intro ys hy
  obtain ⟨y0, ys, rfl, h0, hy⟩ := tvs_cons hy
  obtain ⟨y1, ys, rfl, h1, hy⟩ := tvs_cons hy
  obtain ⟨y2, ys, rfl, h2, hy⟩ := tvs_cons hy
  cases tvs_nil hy
  obtain ⟨a, rfl, ha0⟩ := tv_ints h0
  obtain ⟨b, rfl, hb0⟩ := tv_ints h1
  obtain ⟨x, rfl, _⟩ := tv_int h2
  unfold maxLen at ha0 hb0
  refine ⟨k_law16_ListsAnd.calls ?_⟩
  have f2 := c_law16_few [a, b] (by simp)
  have m1 := c_lists_May a (by omega)
  have m2 := c_lists_May b (by omega)
  conv => whnf
  cases hv2 : (decide ([a, b].length ≤ 5) && [a, b].all fun l => decide (l.length ≤ 300)) <;> rw [hv2] at f2
  · repeat ((first | refine (c_law16_awake).go rfl ?_ | refine (f2).go rfl ?_ | refine And.intro (show cellsAll _ _ from by repeat (first | exact trivial | refine ⟨⟨rfl, rfl⟩, ?_⟩)) ?_); conv => whnf)
    exact ⟨Ends.keep ⟨rfl, rfl⟩⟩
  cases hma : mayL a <;> rw [hma] at m1
  · repeat ((first | refine (c_law16_awake).go rfl ?_ | refine (f2).go rfl ?_ | refine (m1).go rfl ?_ | refine And.intro (show cellsAll _ _ from by repeat (first | exact trivial | refine ⟨⟨rfl, rfl⟩, ?_⟩)) ?_); conv => whnf)
    exact ⟨Ends.keep ⟨rfl, rfl⟩⟩
  cases hmb : mayL b <;> rw [hmb] at m2
  · repeat ((first | refine (c_law16_awake).go rfl ?_ | refine (f2).go rfl ?_ | refine (m1).go rfl ?_ | refine (m2).go rfl ?_ | refine And.intro (show cellsAll _ _ from by repeat (first | exact trivial | refine ⟨⟨rfl, rfl⟩, ?_⟩)) ?_); conv => whnf)
    exact ⟨Ends.keep ⟨rfl, rfl⟩⟩
  · obtain ⟨q1, q2⟩ := few_true hv2
    have ha : a.length ≤ 300 := q2 a (by simp)
    have hb : b.length ≤ 300 := q2 b (by simp)
    have al2 : [a, b].all mayL = true := by simp [hma, hmb]
    have al3 : [b, a, b].all mayL = true := by simp [hma, hmb]
    have al1 : [a].all mayL = true := by simp [hma]
    have e1 : andL [b, a, b] = andL [a, b] := may_ext (andL_may al3) (andL_may al2) fun z => by
      rw [andL_mem (by simp) al3, andL_mem (by simp) al2]; simp [and_left_comm]
    have e2 : andL [a] = a := may_ext (andL_may al1) hma fun z => by rw [andL_mem (by simp) al1]; simp
    have c1 := c_lists_And [a, b] (by simp) (by simp; omega)
    have c2 := c_lists_And [b, a, b] (by simp) (by simp; omega)
    have c3 := c_lists_And [a] (by simp) (by simp; omega)
    have c4 := c_lists_And [] (by simp) (by simp)
    rw [e1] at c2; rw [e2] at c3
    have hlen := andL_len (l := a) (r := [b])
    have i1 := ints_same (andL [a, b]) (andL [a, b]) (by omega) rfl
    have i2 := ints_same a a (by omega) rfl
    have mm := c_lists_May (andL [a, b]) (by omega)
    rw [andL_may al2] at mm
    have hx := andL_mem (ls := [a, b]) (by simp) al2 x
    have x1 := has_true (b := decide (x ∈ a) && decide (x ∈ b)) (xs := andL [a, b]) (n := x) (by omega) (by rw [Bool.eq_iff_iff]; simp [hx])
    have x2 := c_ref16_Has a x (by omega)
    have x3 := c_ref16_Has b x (by omega)
    generalize decide (x ∈ a) = p at x1 x2
    generalize decide (x ∈ b) = q at x1 x3
    repeat ((first | refine (c_law16_awake).go rfl ?_ | refine (f2).go rfl ?_ | refine (m1).go rfl ?_ | refine (m2).go rfl ?_ | refine (c1).go rfl ?_ | refine (c2).go rfl ?_ | refine (c3).go rfl ?_ | refine (i1).go rfl ?_ | refine (i2).go rfl ?_ | refine (x1).go rfl ?_ | refine (x2).go rfl ?_ | refine (x3).go rfl ?_ | refine And.intro (show cellsAll _ _ from by repeat (first | exact trivial | refine ⟨⟨rfl, rfl⟩, ?_⟩)) ?_); conv => whnf)
    cases p <;> cases q <;> (conv => whnf)
    all_goals
      repeat ((first | refine (mm).go rfl ?_ | refine (c4).go rfl ?_ | refine And.intro (show cellsAll _ _ from by repeat (first | exact trivial | refine ⟨⟨rfl, rfl⟩, ?_⟩)) ?_); conv => whnf)
      exact ⟨Ends.keep ⟨rfl, rfl⟩⟩
end Go.Aw
