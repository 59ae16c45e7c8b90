/- Contracts of functions of the given program, by the abstract walk, for law ShelfPutsUpto: what each one hands back; no condition but those that each theorem states. -/
import Derived.Test.YthcihkgopmmolaaC16
import Derived.Test.YthcihkgopmmolaaK
namespace Go.Aw
open Go.Proofs Go.Sort
set_option maxRecDepth 100000
set_option maxHeartbeats 4000000

/- SHELVES, IN PLAIN WORDS -/
def srtI (l : List Cd) : Prop := l.Pairwise fun x y => ltB' x.id y.id = true
instance (l : List Cd) : Decidable (srtI l) := by unfold srtI; exact inferInstance
def mayH (l : List Cd) : Bool := decide (l.length ≤ 1100) && (l.all mayC && decide (srtI l))
def lowI (l : List Cd) (x : ByteArray) : Nat := (l.filter fun c => ltB' c.id x).length
def hasI (l : List Cd) (x : ByteArray) : Bool := l.any fun c => decide (c.id = x)
def findH (l : List Cd) (x : ByteArray) : Int := if mayH l = true ∧ hasI l x = true then (lowI l x : Int) else -1
def withO (l : List Cd) (x : ByteArray) : List Cd := l.filter fun c => !decide (c.id = x)
def withI : List Cd → Cd → List Cd
  | [], c => [c]
  | y :: r, c => if ltB' y.id c.id = true then y :: withI r c else c :: y :: r
def putH (l : List Cd) (c : Cd) : List Cd × Int := if (mayH l && mayC c) = false then (l, 1) else if l.length = 1100 ∧ hasI l c.id = false then (l, 4) else (withI (withO l c.id) c, 0)
def delH (l : List Cd) (x : ByteArray) : List Cd × Bool := if mayH l = true ∧ hasI l x = true then (withO l x, true) else (l, false)
def keyH (l : List Cd) : List Cd := if mayH l = true then inC l else []
theorem mayH_iff {l : List Cd} : mayH l = true ↔ l.length ≤ 1100 ∧ (∀ c ∈ l, mayC c = true) ∧ srtI l := by
  simp only [mayH, Bool.and_eq_true, List.all_eq_true, decide_eq_true_eq]
theorem hasI_iff {l : List Cd} {x : ByteArray} : hasI l x = true ↔ ∃ c ∈ l, c.id = x := by simp [hasI]
theorem hasI_no {l : List Cd} {x : ByteArray} (h : hasI l x = false) : ∀ c ∈ l, c.id ≠ x := fun c hc e => by
  have := hasI_iff.2 ⟨c, hc, e⟩
  rw [h] at this; cases this
theorem ltB_ne {a b : ByteArray} (h : ltB' a b = true) : a ≠ b := fun e => by subst e; rw [ltB_irr] at h; cases h
theorem ltB_asym {a b : ByteArray} (h : ltB' a b = true) : ltB' b a = false := by
  cases q : ltB' b a with
  | false => rfl
  | true => have := ltB_trans h q; rw [ltB_irr] at this; cases this
theorem ltB_tot {a b : ByteArray} (h : ltB' a b = false) (k : a ≠ b) : ltB' b a = true := by
  have h1 := of_decide_eq_false h
  have h2 := cmpL_neg a.data.toList b.data.toList
  have h3 : Lib.compareBytes a.data.toList b.data.toList ≠ 0 := fun q => k (cmpS_zero.1 q)
  refine decide_eq_true ?_
  unfold cmpS at h1 ⊢
  omega
theorem srtI.get {l : List Cd} (h : srtI l) {i j : Nat} (hi : i < j) (hj : j < l.length) : ltB' l[i].id l[j].id = true := List.pairwise_iff_getElem.1 h i j (by omega) hj hi
theorem srtI.nodup {l : List Cd} (h : srtI l) : (l.map (·.id)).Nodup := by
  refine List.Pairwise.map _ (fun a b h => ?_) h
  exact ltB_ne h
theorem srtI.inj {l : List Cd} (h : srtI l) {x y : Cd} (hx : x ∈ l) (hy : y ∈ l) (e : x.id = y.id) : x = y := id_inj h.nodup hx hy e
theorem lowI_eq {l : List Cd} {y : ByteArray} {i : Nat} (hi : i ≤ l.length) (h1 : ∀ (k : Nat) (h : k < l.length), k < i → ltB' l[k].id y = true) (h2 : ∀ (k : Nat) (h : k < l.length), i ≤ k → ltB' l[k].id y = false) : lowI l y = i := by
  rw [lowI, ← List.take_append_drop i l, List.filter_append]
  have e1 : (l.take i).filter (fun x => ltB' x.id y) = l.take i := by
    rw [List.filter_eq_self]
    intro a ha
    obtain ⟨k, hk, rfl⟩ := List.getElem_of_mem ha
    rw [List.getElem_take]; exact h1 k (by simp at hk; omega) (by simp at hk; omega)
  have e2 : (l.drop i).filter (fun x => ltB' x.id y) = [] := by
    rw [List.filter_eq_nil_iff]
    intro a ha
    obtain ⟨k, hk, rfl⟩ := List.getElem_of_mem ha
    rw [List.getElem_drop, h2 (i + k) (by simp at hk; omega) (by omega)]; simp
  rw [e1, e2, List.append_nil, List.length_take]; omega
theorem srtI.low {l : List Cd} (h : srtI l) {i : Nat} (hi : i < l.length) : lowI l l[i].id = i :=
  lowI_eq (by omega) (fun k hk hki => h.get hki hi) (fun k hk hki => by
    rcases Nat.lt_or_ge i k with h6 | h6
    · exact ltB_asym (h.get h6 hk)
    · have : k = i := by omega
      subst this; exact ltB_irr)
theorem srtI.find {l : List Cd} (h : srtI l) {x : Cd} (hx : x ∈ l) : ∃ hi : lowI l x.id < l.length, l[lowI l x.id] = x := by
  obtain ⟨i, hi, rfl⟩ := List.getElem_of_mem hx
  have e := h.low hi
  exact ⟨by omega, by simp only [e]⟩
/-- what Find tells -/
theorem findH_cases (l : List Cd) (x : ByteArray) : (∃ (i : Nat) (hi : i < l.length), findH l x = i ∧ l[i].id = x ∧ mayH l = true) ∨ (findH l x = -1 ∧ (mayH l = true → hasI l x = false)) := by
  by_cases h : mayH l = true ∧ hasI l x = true
  · obtain ⟨h1, h2⟩ := h
    obtain ⟨c, hc, rfl⟩ := hasI_iff.1 h2
    obtain ⟨hi, e⟩ := (mayH_iff.1 h1).2.2.find hc
    exact .inl ⟨_, hi, by rw [findH, if_pos ⟨h1, h2⟩], by rw [e], h1⟩
  · refine .inr ⟨by rw [findH, if_neg h], fun h1 => ?_⟩
    cases h2 : hasI l x with
    | false => rfl
    | true => exact absurd ⟨h1, h2⟩ h
theorem findH_at {l : List Cd} (h : mayH l = true) {i : Nat} (hi : i < l.length) : findH l l[i].id = i := by
  rw [findH, if_pos ⟨h, hasI_iff.2 ⟨_, List.getElem_mem _, rfl⟩⟩, (mayH_iff.1 h).2.2.low hi]

/- WITH, WITHOUT -/
theorem withI_take : ∀ {l : List Cd} {c : Cd} {k : Nat}, (∀ y ∈ l.take k, ltB' y.id c.id = true) → k ≤ l.length → withI l c = l.take k ++ withI (l.drop k) c
  | _, _, 0, _, _ => by simp
  | [], _, k + 1, _, h => by simp at h
  | y :: r, c, k + 1, h, hk => by
    have h1 := h y (by simp)
    have ih := withI_take (l := r) (c := c) (k := k) (fun z hz => h z (by simp [hz])) (by simpa using hk)
    rw [withI, if_pos h1, ih]; rfl
theorem withI_at {l : List Cd} {c : Cd} {k : Nat} (h1 : ∀ y ∈ l.take k, ltB' y.id c.id = true) (hk : k ≤ l.length) (h2 : ∀ (h : k < l.length), ltB' l[k].id c.id = false) : withI l c = l.take k ++ c :: l.drop k := by
  rw [withI_take h1 hk]
  congr 1
  by_cases h : k < l.length
  · rw [List.drop_eq_getElem_cons h, withI, if_neg (by rw [h2 h]; simp)]
  · rw [List.drop_eq_nil_of_le (by omega)]; rfl
theorem withI_mem : ∀ {l : List Cd} {c x : Cd}, x ∈ withI l c ↔ x ∈ l ∨ x = c
  | [], _, _ => by simp [withI]
  | y :: r, c, x => by
    have ih := withI_mem (l := r) (c := c) (x := x)
    unfold withI; split
    · simp [ih, or_assoc]
    · simp [or_comm, or_left_comm]
theorem withI_len : ∀ {l : List Cd} {c : Cd}, (withI l c).length = l.length + 1
  | [], _ => rfl
  | y :: r, c => by
    have := withI_len (l := r) (c := c)
    unfold withI; split <;> simp [this]
theorem withO_mem {l : List Cd} {x : ByteArray} {c : Cd} : c ∈ withO l x ↔ c ∈ l ∧ c.id ≠ x := by simp [withO]
theorem withI_srt : ∀ {l : List Cd} {c : Cd}, srtI l → (∀ y ∈ l, y.id ≠ c.id) → srtI (withI l c)
  | [], _, _, _ => by simp [withI, srtI]
  | y :: r, c, h, hn => by
    obtain ⟨h1, h2⟩ := List.pairwise_cons.1 h
    have ih := withI_srt (c := c) h2 fun z hz => hn z (List.mem_cons_of_mem _ hz)
    unfold withI; split
    · rename_i e
      refine List.pairwise_cons.2 ⟨fun z hz => ?_, ih⟩
      rcases withI_mem.1 hz with hz | rfl
      · exact h1 z hz
      · exact e
    · rename_i e
      have e : ltB' c.id y.id = true := ltB_tot (by simpa using e) (hn y (by simp))
      refine List.pairwise_cons.2 ⟨fun z hz => ?_, h⟩
      rcases List.mem_cons.1 hz with rfl | hz
      · exact e
      · exact ltB_trans e (h1 z hz)
theorem withO_srt {l : List Cd} {x : ByteArray} (h : srtI l) : srtI (withO l x) := List.Pairwise.filter _ h
theorem withO_none {l : List Cd} {x : ByteArray} (h : hasI l x = false) : withO l x = l := by
  rw [withO, List.filter_eq_self]
  intro c hc
  have := hasI_no h c hc
  simp [this]
theorem withO_at {l : List Cd} (h : srtI l) {i : Nat} (hi : i < l.length) : withO l l[i].id = l.take i ++ l.drop (i + 1) := by
  have e : l = l.take i ++ l[i] :: l.drop (i + 1) := by rw [← List.drop_eq_getElem_cons hi, List.take_append_drop]
  have h1 : (l.take i).filter (fun c => !decide (c.id = l[i].id)) = l.take i := by
    rw [List.filter_eq_self]
    intro a ha
    obtain ⟨k, hk, rfl⟩ := List.getElem_of_mem ha
    rw [List.getElem_take]
    have := ltB_ne (h.get (i := k) (j := i) (by simp at hk; omega) hi)
    simp [this]
  have h2 : (l.drop (i + 1)).filter (fun c => !decide (c.id = l[i].id)) = l.drop (i + 1) := by
    rw [List.filter_eq_self]
    intro a ha
    obtain ⟨k, hk, rfl⟩ := List.getElem_of_mem ha
    rw [List.getElem_drop]
    have := ltB_ne (h.get (i := i) (j := i + 1 + k) (by omega) (by simp at hk; omega))
    simp [Ne.symm this]
  have h3 : withO l l[i].id = (l.take i).filter (fun c => !decide (c.id = l[i].id)) ++ (l[i] :: l.drop (i + 1)).filter (fun c => !decide (c.id = l[i].id)) := by
    rw [← List.filter_append, ← e]; rfl
  rw [h3, h1, List.filter_cons, if_neg (by simp), h2]
/-- a card is put in the place of one of the same text -/
theorem put_set {l : List Cd} {c : Cd} (h : srtI l) {i : Nat} (hi : i < l.length) (e : l[i].id = c.id) : withI (withO l c.id) c = l.set i c := by
  rw [← e, withO_at h hi]
  have hl : (l.take i).length = i := by simp; omega
  rw [withI_at (k := i)]
  · rw [List.take_append_of_le_length (by omega), List.take_of_length_le (by omega), List.drop_append_of_le_length (by omega), List.drop_of_length_le (by omega), List.nil_append, List.set_eq_take_append_cons_drop, if_pos hi]
  · intro y hy
    rw [List.take_append_of_le_length (by omega), List.take_of_length_le (by omega)] at hy
    obtain ⟨k, hk, rfl⟩ := List.getElem_of_mem hy
    rw [List.getElem_take, ← e]
    exact h.get (by simp at hk; omega) hi
  · simp; omega
  · intro h2
    rw [List.getElem_append_right (by omega), List.getElem_drop, ← e]
    simp only [List.length_append, List.length_drop, hl] at h2
    exact ltB_asym (h.get (by omega) (by omega))
theorem put_ins {l : List Cd} {c : Cd} (hn : hasI l c.id = false) {i : Nat} (hi : i ≤ l.length) (h1 : ∀ (k : Nat) (h : k < l.length), k < i → ltB' l[k].id c.id = true) (h2 : ∀ (k : Nat) (h : k < l.length), i ≤ k → ltB' l[k].id c.id = false) : withI (withO l c.id) c = l.take i ++ c :: l.drop i := by
  rw [withO_none hn]
  refine withI_at (fun y hy => ?_) hi fun h => h2 i h (Nat.le_refl _)
  obtain ⟨k, hk, rfl⟩ := List.getElem_of_mem hy
  rw [List.getElem_take]
  exact h1 k (by simp at hk; omega) (by simp at hk; omega)
/-- what Put makes -/
theorem put_ok {l : List Cd} {c : Cd} (h : (putH l c).2 = 0) : mayH l = true ∧ mayC c = true ∧ (putH l c).1 = withI (withO l c.id) c ∧ (l.length < 1100 ∨ hasI l c.id = true) := by
  unfold putH at h ⊢
  by_cases h1 : (mayH l && mayC c) = false
  · rw [if_pos h1] at h; cases h
  · rw [if_neg h1] at h ⊢
    have h1 : mayH l = true ∧ mayC c = true := by simpa using h1
    by_cases h2 : l.length = 1100 ∧ hasI l c.id = false
    · rw [if_pos h2] at h; cases h
    · rw [if_neg h2]
      refine ⟨h1.1, h1.2, rfl, ?_⟩
      have := (mayH_iff.1 h1.1).1
      by_cases h3 : l.length = 1100
      · right
        cases q : hasI l c.id with
        | true => rfl
        | false => exact absurd ⟨h3, q⟩ h2
      · left; omega
theorem put_len {l : List Cd} {c : Cd} (h : srtI l) : (withI (withO l c.id) c).length = if hasI l c.id = true then l.length else l.length + 1 := by
  by_cases q : hasI l c.id = true
  · obtain ⟨x, hx, e⟩ := hasI_iff.1 q
    obtain ⟨i, hi, rfl⟩ := List.getElem_of_mem hx
    rw [if_pos q, put_set h hi e, List.length_set]
  · rw [if_neg q, withI_len, withO_none (by simpa using q)]
theorem put_mem {l : List Cd} {c x : Cd} : x ∈ withI (withO l c.id) c ↔ (x ∈ l ∧ x.id ≠ c.id) ∨ x = c := by rw [withI_mem, withO_mem]
theorem put_srt {l : List Cd} {c : Cd} (h : srtI l) : srtI (withI (withO l c.id) c) := withI_srt (withO_srt h) fun _ hy => (withO_mem.1 hy).2
theorem put_may {l : List Cd} {c : Cd} (h : mayH l = true) (hc : mayC c = true) (hl : l.length < 1100 ∨ hasI l c.id = true) : mayH (withI (withO l c.id) c) = true := by
  obtain ⟨h1, h2, h3⟩ := mayH_iff.1 h
  refine mayH_iff.2 ⟨?_, fun x hx => ?_, put_srt h3⟩
  · rw [put_len h3]
    split
    · exact h1
    · rename_i q
      rcases hl with hl | hl
      · omega
      · exact absurd hl q
  · rcases put_mem.1 hx with ⟨hx, _⟩ | rfl
    · exact h2 x hx
    · exact hc
theorem del_may {l : List Cd} {x : ByteArray} (h : mayH l = true) : mayH (withO l x) = true := by
  obtain ⟨h1, h2, h3⟩ := mayH_iff.1 h
  exact mayH_iff.2 ⟨Nat.le_trans (List.length_filter_le _ _) h1, fun c hc => h2 c (withO_mem.1 hc).1, withO_srt h3⟩
theorem del_len {l : List Cd} {x : ByteArray} (h : srtI l) (q : hasI l x = true) : (withO l x).length = l.length - 1 := by
  obtain ⟨c, hc, rfl⟩ := hasI_iff.1 q
  obtain ⟨i, hi, rfl⟩ := List.getElem_of_mem hc
  rw [withO_at h hi]; simp; omega
/-- of which card something is, by its text -/
theorem find_same {l m : List Cd} {x : ByteArray} {i j : Nat} (hl : srtI l) (hi : i < l.length) (hj : j < m.length) (e1 : l[i].id = x) (e2 : m[j].id = x) (h : ∀ c ∈ m, c ∈ l) : l[i] = m[j] :=
  hl.inj (List.getElem_mem _) (h _ (List.getElem_mem _)) (e1.trans e2.symm)
end Go.Aw
namespace Go.Aw
open Go.Proofs Go.Sort
set_option maxRecDepth 100000
set_option maxHeartbeats 4000000

/- SHELF, THE PROGRAM'S -/
theorem c_Clone_strs (xs : List ByteArray) (hl : xs.length < 1000000000) : CG Try.prog 34 [tstrs xs] (tstrs xs) := by
  refine ⟨k_slices_Clone_Lstring_string.calls ?_⟩
  conv => whnf
  intro r hr
  conv => whnf
  refine Br.intro (fun h => ?_) (fun h => ?_)
  · conv => whnf
    have : xs = [] := by simpa using hr h
    subst this
    exact ⟨Ends.ground (H := []) (L := []) 0 rfl ⟨rfl, rfl⟩⟩
  · conv => whnf
    refine ⟨rfl, ?_⟩
    conv => whnf
    refine ⟨by simp; omega, ⟨rfl, rfl, rfl⟩, [], ⟨[], rfl⟩, rfl, ?_⟩
    conv => whnf
    refine ⟨Ends.ground (H := []) (L := [_]) (t := tstrs xs) 1 ?_ ⟨rfl, rfl⟩⟩
    have e : ((xs.map T.s).map V.g) = xs.map fun x => V.g (.s x) := by rw [List.map_map]; rfl
    exact gr_own (n := 0) (d := 0) (b := 0) (g := 1) (sz := 1) (len := 0 + ((xs.map T.s).map V.g).length) (h := [.arr 1 1 ([] ++ (xs.map T.s).map V.g)]) (l := xs) (f := fun x => V.g (.s x)) (e := T.s) (by rw [e]; rfl) (Nat.le_refl _) (by simp) (fun x _ => gr_g)
theorem fits_one (c : Cd) : ((buildS [c] false).2 != 1) = mayC c := by
  have e : okL [c] = mayC c := by simp [okL]
  unfold buildS
  rw [e]
  cases mayC c
  · rfl
  · rw [if_neg (by simp), if_neg (by simp)]
    split <;> rfl
theorem c_shelf_fits (c : Cd) (hb : bndC [c]) : CG Try.prog 26 [tcard c] (.b (mayC c)) := by
  refine ⟨k_shelf_fits.calls ?_⟩
  have b1 := c_seg_Build [c] false hb
  (try conv => whnf); repeat ((first | refine (b1).go rfl ?_ | refine ⟨_, (b1).go rfl ⟨rfl, rfl⟩, ?_⟩ | refine And.intro (show cellsAll _ _ from by repeat (first | exact trivial | refine ⟨⟨rfl, rfl⟩, ?_⟩)) ?_ | refine ⟨_, getZ (by omega), ?_⟩ | refine ⟨_, getI (by omega) (by omega), ?_⟩ | refine ⟨by omega, rfl, ?_⟩ | refine ⟨by (simp; omega), rfl, ?_⟩ | refine ⟨rfl, _, rfl, ⟨rfl, rfl, by decide⟩, ?_⟩ | refine ⟨rfl, _, rfl, ?_⟩ | refine ⟨rfl, _, getO (by omega), ?_⟩ | refine ⟨rfl, ⟨by omega, by omega, by omega⟩, ?_⟩ | refine ⟨⟨rfl, rfl⟩, ?_⟩ | refine ⟨⟨rfl, rfl, rfl⟩, ?_⟩ | refine ⟨⟨rfl, rfl, by decide⟩, ?_⟩ | refine ⟨rfl, ?_⟩ | refine ⟨⟨by omega, by omega⟩, ⟨rfl, rfl⟩, ?_⟩ | refine ⟨in64 (by omega) (by omega), ?_⟩ | refine Br.dec (fun _ => ?_) (fun hh => absurd (by omega) hh) | refine Br.dec (fun hh => absurd hh (by omega)) (fun _ => ?_) | refine Br.eq (fun _ => ?_) (fun hh => absurd (by omega) hh) | refine Br.eq (fun hh => absurd hh (by omega)) (fun _ => ?_) | refine Br.ne (fun _ => ?_) (fun hh => absurd (by omega) hh) | refine Br.ne (fun hh => absurd hh (by omega)) (fun _ => ?_) | refine ⟨_, rfl, ?_⟩ | rw [← List.map_drop, ← List.map_take]); conv => whnf)
  rw [fits_one]
  exact ⟨Ends.ground (H := []) (L := [_, _]) 0 rfl ⟨rfl, rfl⟩⟩

/- WHERE A CARD IS -/
theorem c_shelf_placeS1 (c : Cd) (x : ByteArray) : ACalls Try.prog 46 [.g (tcard c), .pa 0 0 0 0] [.arr 0 1 [.g (.s x)]] (fun r h => r = .g (.b (!ltB' c.id x)) ∧ h = [.arr 0 1 [.g (.s x)]]) := by
  refine k_shelf_placeS1.calls ?_
  (try conv => whnf); repeat ((first | refine And.intro (show cellsAll _ _ from by repeat (first | exact trivial | refine ⟨⟨rfl, rfl⟩, ?_⟩)) ?_ | refine ⟨_, getZ (by omega), ?_⟩ | refine ⟨_, getI (by omega) (by omega), ?_⟩ | refine ⟨by omega, rfl, ?_⟩ | refine ⟨by (simp; omega), rfl, ?_⟩ | refine ⟨rfl, _, rfl, ⟨rfl, rfl, by decide⟩, ?_⟩ | refine ⟨rfl, _, rfl, ?_⟩ | refine ⟨rfl, _, getO (by omega), ?_⟩ | refine ⟨rfl, ⟨by omega, by omega, by omega⟩, ?_⟩ | refine ⟨⟨rfl, rfl⟩, ?_⟩ | refine ⟨⟨rfl, rfl, rfl⟩, ?_⟩ | refine ⟨⟨rfl, rfl, by decide⟩, ?_⟩ | refine ⟨rfl, ?_⟩ | refine ⟨⟨by omega, by omega⟩, ⟨rfl, rfl⟩, ?_⟩ | refine ⟨in64 (by omega) (by omega), ?_⟩ | refine Br.dec (fun _ => ?_) (fun hh => absurd (by omega) hh) | refine Br.dec (fun hh => absurd hh (by omega)) (fun _ => ?_) | refine Br.eq (fun _ => ?_) (fun hh => absurd (by omega) hh) | refine Br.eq (fun hh => absurd hh (by omega)) (fun _ => ?_) | refine Br.ne (fun _ => ?_) (fun hh => absurd (by omega) hh) | refine Br.ne (fun hh => absurd hh (by omega)) (fun _ => ?_) | refine ⟨_, rfl, ?_⟩ | rw [← List.map_drop, ← List.map_take]); conv => whnf)
  rw [bl_lt]
  exact ⟨Ends.ground (H := [_]) (L := [_]) 0 rfl ⟨rfl, rfl⟩⟩
def isP (l : List Cd) (x : ByteArray) (i : Nat) : Prop := srtI l → (∀ (k : Nat) (h : k < l.length), k < i → ltB' l[k].id x = true) ∧ (∀ (k : Nat) (h : k < l.length), i ≤ k → ltB' l[k].id x = false)
theorem c_shelf_first (l : List Cd) (x : ByteArray) (hl : l.length < 1000000000) :
    ACalls Try.prog 45 [cards l, .fn 46 [.pa 0 0 0 0]] [.arr 0 1 [.g (.s x)]] (fun r h => (∃ i : Nat, r = .g (.i i) ∧ i ≤ l.length ∧ isP l x i) ∧ h = [.arr 0 1 [.g (.s x)]]) := by
  refine k_shelf_first_Card.calls ?_
  have hm : (l.map tcard).length = l.length := by simp
  (try conv => whnf); repeat ((first | refine And.intro (show cellsAll _ _ from by repeat (first | exact trivial | refine ⟨⟨rfl, rfl⟩, ?_⟩)) ?_ | refine ⟨_, getZ (by omega), ?_⟩ | refine ⟨_, getI (by omega) (by omega), ?_⟩ | refine ⟨by omega, rfl, ?_⟩ | refine ⟨by (simp; omega), rfl, ?_⟩ | refine ⟨rfl, _, rfl, ⟨rfl, rfl, by decide⟩, ?_⟩ | refine ⟨rfl, _, rfl, ?_⟩ | refine ⟨rfl, _, getO (by omega), ?_⟩ | refine ⟨rfl, ⟨by omega, by omega, by omega⟩, ?_⟩ | refine ⟨⟨rfl, rfl⟩, ?_⟩ | refine ⟨⟨rfl, rfl, rfl⟩, ?_⟩ | refine ⟨⟨rfl, rfl, by decide⟩, ?_⟩ | refine ⟨rfl, ?_⟩ | refine ⟨⟨by omega, by omega⟩, ⟨rfl, rfl⟩, ?_⟩ | refine ⟨in64 (by omega) (by omega), ?_⟩ | refine Br.dec (fun _ => ?_) (fun hh => absurd (by omega) hh) | refine Br.dec (fun hh => absurd hh (by omega)) (fun _ => ?_) | refine Br.eq (fun _ => ?_) (fun hh => absurd (by omega) hh) | refine Br.eq (fun hh => absurd hh (by omega)) (fun _ => ?_) | refine Br.ne (fun _ => ?_) (fun hh => absurd (by omega) hh) | refine Br.ne (fun hh => absurd hh (by omega)) (fun _ => ?_) | refine ⟨_, rfl, ?_⟩ | rw [← List.map_drop, ← List.map_take]); conv => whnf)
  refine SW.loopR (α := Nat × Nat) (fun a => tm 27 [(0, cards l), (1, .fn 46 [.pa 0 0 0 0]), (5, .g (.i a.1)), (6, .g (.i a.2))]) (fun _ => [.arr 0 1 [.g (.s x)]])
    (fun a => a.1 ≤ a.2 ∧ a.2 ≤ l.length ∧ (srtI l → (∀ (k : Nat) (h : k < l.length), k < a.1 → ltB' l[k].id x = true) ∧ (∀ (k : Nat) (h : k < l.length), a.2 ≤ k → ltB' l[k].id x = false))) (fun a => a.2 - a.1) (0, l.length) ?_ ?_ ?_
  · exact ⟨Nat.zero_le _, Nat.le_refl _, fun _ => ⟨fun _ _ h => by simp at h, fun k h1 h2 => by dsimp only at h2; omega⟩⟩
  · exact Refi.sub rfl (by simp [subT, subV, tm, tmGo, cards])
  · rintro ⟨i, j⟩ ⟨h1, h2', h3'⟩
    dsimp only at h1 h2' h3' ⊢
    conv => whnf
    refine Br.dec (fun h => ?_) (fun h => ?_)
    · conv => whnf
      refine ⟨in64 (by omega) (by omega), ?_⟩
      conv => whnf
      have e : ((i : Int) + (j : Int)).tdiv 2 = (((i + j) / 2 : Nat) : Int) := by rw [Int.tdiv_eq_ediv_of_nonneg (by omega)]; omega
      rw [e]
      refine ⟨by omega, in64 (by omega) (by omega), ?_⟩
      have hmid : i ≤ (i + j) / 2 ∧ (i + j) / 2 < j := by omega
      generalize (i + j) / 2 = m at hmid
      have hm' : m < l.length := by omega
      (try conv => whnf); repeat ((first | refine And.intro (show cellsAll _ _ from by repeat (first | exact trivial | refine ⟨⟨rfl, rfl⟩, ?_⟩)) ?_ | refine ⟨_, getZ (by omega), ?_⟩ | refine ⟨_, getI (by omega) (by omega), ?_⟩ | refine ⟨by omega, rfl, ?_⟩ | refine ⟨by (simp; omega), rfl, ?_⟩ | refine ⟨rfl, _, rfl, ⟨rfl, rfl, by decide⟩, ?_⟩ | refine ⟨rfl, _, rfl, ?_⟩ | refine ⟨rfl, _, getO (by omega), ?_⟩ | refine ⟨rfl, ⟨by omega, by omega, by omega⟩, ?_⟩ | refine ⟨⟨rfl, rfl⟩, ?_⟩ | refine ⟨⟨rfl, rfl, rfl⟩, ?_⟩ | refine ⟨⟨rfl, rfl, by decide⟩, ?_⟩ | refine ⟨rfl, ?_⟩ | refine ⟨⟨by omega, by omega⟩, ⟨rfl, rfl⟩, ?_⟩ | refine ⟨in64 (by omega) (by omega), ?_⟩ | refine Br.dec (fun _ => ?_) (fun hh => absurd (by omega) hh) | refine Br.dec (fun hh => absurd hh (by omega)) (fun _ => ?_) | refine Br.eq (fun _ => ?_) (fun hh => absurd (by omega) hh) | refine Br.eq (fun hh => absurd hh (by omega)) (fun _ => ?_) | refine Br.ne (fun _ => ?_) (fun hh => absurd (by omega) hh) | refine Br.ne (fun hh => absurd hh (by omega)) (fun _ => ?_) | refine ⟨_, rfl, ?_⟩ | rw [← List.map_drop, ← List.map_take]); conv => whnf)
      refine (c_shelf_placeS1 l[m] x).mono ?_
      rintro r h ⟨rfl, rfl⟩
      (try conv => whnf); repeat ((first | refine And.intro (show cellsAll _ _ from by repeat (first | exact trivial | refine ⟨⟨rfl, rfl⟩, ?_⟩)) ?_ | refine ⟨_, getZ (by omega), ?_⟩ | refine ⟨_, getI (by omega) (by omega), ?_⟩ | refine ⟨by omega, rfl, ?_⟩ | refine ⟨by (simp; omega), rfl, ?_⟩ | refine ⟨rfl, _, rfl, ⟨rfl, rfl, by decide⟩, ?_⟩ | refine ⟨rfl, _, rfl, ?_⟩ | refine ⟨rfl, _, getO (by omega), ?_⟩ | refine ⟨rfl, ⟨by omega, by omega, by omega⟩, ?_⟩ | refine ⟨⟨rfl, rfl⟩, ?_⟩ | refine ⟨⟨rfl, rfl, rfl⟩, ?_⟩ | refine ⟨⟨rfl, rfl, by decide⟩, ?_⟩ | refine ⟨rfl, ?_⟩ | refine ⟨⟨by omega, by omega⟩, ⟨rfl, rfl⟩, ?_⟩ | refine ⟨in64 (by omega) (by omega), ?_⟩ | refine Br.dec (fun _ => ?_) (fun hh => absurd (by omega) hh) | refine Br.dec (fun hh => absurd hh (by omega)) (fun _ => ?_) | refine Br.eq (fun _ => ?_) (fun hh => absurd (by omega) hh) | refine Br.eq (fun hh => absurd hh (by omega)) (fun _ => ?_) | refine Br.ne (fun _ => ?_) (fun hh => absurd (by omega) hh) | refine Br.ne (fun hh => absurd hh (by omega)) (fun _ => ?_) | refine ⟨_, rfl, ?_⟩ | rw [← List.map_drop, ← List.map_take]); conv => whnf)
      refine Br.not (fun h5 => ?_) (fun h5 => ?_)
      · (try conv => whnf); repeat ((first | refine And.intro (show cellsAll _ _ from by repeat (first | exact trivial | refine ⟨⟨rfl, rfl⟩, ?_⟩)) ?_ | refine ⟨_, getZ (by omega), ?_⟩ | refine ⟨_, getI (by omega) (by omega), ?_⟩ | refine ⟨by omega, rfl, ?_⟩ | refine ⟨by (simp; omega), rfl, ?_⟩ | refine ⟨rfl, _, rfl, ⟨rfl, rfl, by decide⟩, ?_⟩ | refine ⟨rfl, _, rfl, ?_⟩ | refine ⟨rfl, _, getO (by omega), ?_⟩ | refine ⟨rfl, ⟨by omega, by omega, by omega⟩, ?_⟩ | refine ⟨⟨rfl, rfl⟩, ?_⟩ | refine ⟨⟨rfl, rfl, rfl⟩, ?_⟩ | refine ⟨⟨rfl, rfl, by decide⟩, ?_⟩ | refine ⟨rfl, ?_⟩ | refine ⟨⟨by omega, by omega⟩, ⟨rfl, rfl⟩, ?_⟩ | refine ⟨in64 (by omega) (by omega), ?_⟩ | refine Br.dec (fun _ => ?_) (fun hh => absurd (by omega) hh) | refine Br.dec (fun hh => absurd hh (by omega)) (fun _ => ?_) | refine Br.eq (fun _ => ?_) (fun hh => absurd (by omega) hh) | refine Br.eq (fun hh => absurd hh (by omega)) (fun _ => ?_) | refine Br.ne (fun _ => ?_) (fun hh => absurd (by omega) hh) | refine Br.ne (fun hh => absurd hh (by omega)) (fun _ => ?_) | refine ⟨_, rfl, ?_⟩ | rw [← List.map_drop, ← List.map_take]); conv => whnf)
        refine ⟨⟨(i, m), ⟨by dsimp only; omega, by dsimp only; omega, fun hs => ⟨(h3' hs).1, fun k hk hkm => ?_⟩⟩, by show m - i < j - i; omega, Refi.sub rfl (by simp [subT, subV, tm, tmGo, cards])⟩⟩
        rcases Nat.lt_or_ge m k with h6 | h6
        · cases q : ltB' l[k].id x with
          | false => rfl
          | true => rw [ltB_trans (hs.get h6 hk) q] at h5; cases h5
        · have : k = m := by dsimp only at hkm; omega
          subst this; exact h5
      · (try conv => whnf); repeat ((first | refine And.intro (show cellsAll _ _ from by repeat (first | exact trivial | refine ⟨⟨rfl, rfl⟩, ?_⟩)) ?_ | refine ⟨_, getZ (by omega), ?_⟩ | refine ⟨_, getI (by omega) (by omega), ?_⟩ | refine ⟨by omega, rfl, ?_⟩ | refine ⟨by (simp; omega), rfl, ?_⟩ | refine ⟨rfl, _, rfl, ⟨rfl, rfl, by decide⟩, ?_⟩ | refine ⟨rfl, _, rfl, ?_⟩ | refine ⟨rfl, _, getO (by omega), ?_⟩ | refine ⟨rfl, ⟨by omega, by omega, by omega⟩, ?_⟩ | refine ⟨⟨rfl, rfl⟩, ?_⟩ | refine ⟨⟨rfl, rfl, rfl⟩, ?_⟩ | refine ⟨⟨rfl, rfl, by decide⟩, ?_⟩ | refine ⟨rfl, ?_⟩ | refine ⟨⟨by omega, by omega⟩, ⟨rfl, rfl⟩, ?_⟩ | refine ⟨in64 (by omega) (by omega), ?_⟩ | refine Br.dec (fun _ => ?_) (fun hh => absurd (by omega) hh) | refine Br.dec (fun hh => absurd hh (by omega)) (fun _ => ?_) | refine Br.eq (fun _ => ?_) (fun hh => absurd (by omega) hh) | refine Br.eq (fun hh => absurd hh (by omega)) (fun _ => ?_) | refine Br.ne (fun _ => ?_) (fun hh => absurd (by omega) hh) | refine Br.ne (fun hh => absurd hh (by omega)) (fun _ => ?_) | refine ⟨_, rfl, ?_⟩ | rw [← List.map_drop, ← List.map_take]); conv => whnf)
        refine ⟨⟨(m + 1, j), ⟨by dsimp only; omega, h2', fun hs => ⟨fun k hk hkm => ?_, (h3' hs).2⟩⟩, by show j - (m + 1) < j - i; omega, Refi.sub rfl (by simp [subT, subV, tm, tmGo, cards])⟩⟩
        rcases Nat.lt_or_ge k m with h6 | h6
        · exact ltB_trans (hs.get h6 hm') h5
        · have : k = m := by dsimp only at hkm; omega
          subst this; exact h5
    · have : i = j := by omega
      subst this
      (try conv => whnf); repeat ((first | refine And.intro (show cellsAll _ _ from by repeat (first | exact trivial | refine ⟨⟨rfl, rfl⟩, ?_⟩)) ?_ | refine ⟨_, getZ (by omega), ?_⟩ | refine ⟨_, getI (by omega) (by omega), ?_⟩ | refine ⟨by omega, rfl, ?_⟩ | refine ⟨by (simp; omega), rfl, ?_⟩ | refine ⟨rfl, _, rfl, ⟨rfl, rfl, by decide⟩, ?_⟩ | refine ⟨rfl, _, rfl, ?_⟩ | refine ⟨rfl, _, getO (by omega), ?_⟩ | refine ⟨rfl, ⟨by omega, by omega, by omega⟩, ?_⟩ | refine ⟨⟨rfl, rfl⟩, ?_⟩ | refine ⟨⟨rfl, rfl, rfl⟩, ?_⟩ | refine ⟨⟨rfl, rfl, by decide⟩, ?_⟩ | refine ⟨rfl, ?_⟩ | refine ⟨⟨by omega, by omega⟩, ⟨rfl, rfl⟩, ?_⟩ | refine ⟨in64 (by omega) (by omega), ?_⟩ | refine Br.dec (fun _ => ?_) (fun hh => absurd (by omega) hh) | refine Br.dec (fun hh => absurd hh (by omega)) (fun _ => ?_) | refine Br.eq (fun _ => ?_) (fun hh => absurd (by omega) hh) | refine Br.eq (fun hh => absurd hh (by omega)) (fun _ => ?_) | refine Br.ne (fun _ => ?_) (fun hh => absurd (by omega) hh) | refine Br.ne (fun hh => absurd hh (by omega)) (fun _ => ?_) | refine ⟨_, rfl, ?_⟩ | rw [← List.map_drop, ← List.map_take]); conv => whnf)
      exact ⟨Ends.keep ⟨⟨i, rfl, h2', h3'⟩, rfl⟩⟩
/-- what place tells -/
def plcP (l : List Cd) (x : ByteArray) (i : Nat) (b : Bool) : Prop := i ≤ l.length ∧ isP l x i ∧ (b = true → ∃ h : i < l.length, l[i].id = x) ∧ (b = false → ∀ h : i < l.length, l[i].id ≠ x)
theorem c_shelf_place (l : List Cd) (x : ByteArray) (hl : l.length < 1000000000) :
    ACalls Try.prog 29 [cards l, .g (.s x)] [] (fun r h => (∃ (i : Nat) (b : Bool), r = .tu [.g (.i i), .g (.b b)] ∧ plcP l x i b) ∧ h = []) := by
  refine k_shelf_place.calls ?_
  have hm : (l.map tcard).length = l.length := by simp
  (try conv => whnf); repeat ((first | refine And.intro (show cellsAll _ _ from by repeat (first | exact trivial | refine ⟨⟨rfl, rfl⟩, ?_⟩)) ?_ | refine ⟨_, getZ (by omega), ?_⟩ | refine ⟨_, getI (by omega) (by omega), ?_⟩ | refine ⟨by omega, rfl, ?_⟩ | refine ⟨by (simp; omega), rfl, ?_⟩ | refine ⟨rfl, _, rfl, ⟨rfl, rfl, by decide⟩, ?_⟩ | refine ⟨rfl, _, rfl, ?_⟩ | refine ⟨rfl, _, getO (by omega), ?_⟩ | refine ⟨rfl, ⟨by omega, by omega, by omega⟩, ?_⟩ | refine ⟨⟨rfl, rfl⟩, ?_⟩ | refine ⟨⟨rfl, rfl, rfl⟩, ?_⟩ | refine ⟨⟨rfl, rfl, by decide⟩, ?_⟩ | refine ⟨rfl, ?_⟩ | refine ⟨⟨by omega, by omega⟩, ⟨rfl, rfl⟩, ?_⟩ | refine ⟨in64 (by omega) (by omega), ?_⟩ | refine Br.dec (fun _ => ?_) (fun hh => absurd (by omega) hh) | refine Br.dec (fun hh => absurd hh (by omega)) (fun _ => ?_) | refine Br.eq (fun _ => ?_) (fun hh => absurd (by omega) hh) | refine Br.eq (fun hh => absurd hh (by omega)) (fun _ => ?_) | refine Br.ne (fun _ => ?_) (fun hh => absurd (by omega) hh) | refine Br.ne (fun hh => absurd hh (by omega)) (fun _ => ?_) | refine ⟨_, rfl, ?_⟩ | rw [← List.map_drop, ← List.map_take]); conv => whnf)
  refine (c_shelf_first l x hl).mono ?_
  rintro r h ⟨⟨i, rfl, hi, hp⟩, rfl⟩
  (try conv => whnf); repeat ((first | refine And.intro (show cellsAll _ _ from by repeat (first | exact trivial | refine ⟨⟨rfl, rfl⟩, ?_⟩)) ?_ | refine ⟨_, getZ (by omega), ?_⟩ | refine ⟨_, getI (by omega) (by omega), ?_⟩ | refine ⟨by omega, rfl, ?_⟩ | refine ⟨by (simp; omega), rfl, ?_⟩ | refine ⟨rfl, _, rfl, ⟨rfl, rfl, by decide⟩, ?_⟩ | refine ⟨rfl, _, rfl, ?_⟩ | refine ⟨rfl, _, getO (by omega), ?_⟩ | refine ⟨rfl, ⟨by omega, by omega, by omega⟩, ?_⟩ | refine ⟨⟨rfl, rfl⟩, ?_⟩ | refine ⟨⟨rfl, rfl, rfl⟩, ?_⟩ | refine ⟨⟨rfl, rfl, by decide⟩, ?_⟩ | refine ⟨rfl, ?_⟩ | refine ⟨⟨by omega, by omega⟩, ⟨rfl, rfl⟩, ?_⟩ | refine ⟨in64 (by omega) (by omega), ?_⟩ | refine Br.dec (fun _ => ?_) (fun hh => absurd (by omega) hh) | refine Br.dec (fun hh => absurd hh (by omega)) (fun _ => ?_) | refine Br.eq (fun _ => ?_) (fun hh => absurd (by omega) hh) | refine Br.eq (fun hh => absurd hh (by omega)) (fun _ => ?_) | refine Br.ne (fun _ => ?_) (fun hh => absurd (by omega) hh) | refine Br.ne (fun hh => absurd hh (by omega)) (fun _ => ?_) | refine ⟨_, rfl, ?_⟩ | rw [← List.map_drop, ← List.map_take]); conv => whnf)
  refine Br.dec (fun h1 => ?_) (fun h1 => ?_)
  · have hi' : i < l.length := by omega
    (try conv => whnf); repeat ((first | refine And.intro (show cellsAll _ _ from by repeat (first | exact trivial | refine ⟨⟨rfl, rfl⟩, ?_⟩)) ?_ | refine ⟨_, getZ (by omega), ?_⟩ | refine ⟨_, getI (by omega) (by omega), ?_⟩ | refine ⟨by omega, rfl, ?_⟩ | refine ⟨by (simp; omega), rfl, ?_⟩ | refine ⟨rfl, _, rfl, ⟨rfl, rfl, by decide⟩, ?_⟩ | refine ⟨rfl, _, rfl, ?_⟩ | refine ⟨rfl, _, getO (by omega), ?_⟩ | refine ⟨rfl, ⟨by omega, by omega, by omega⟩, ?_⟩ | refine ⟨⟨rfl, rfl⟩, ?_⟩ | refine ⟨⟨rfl, rfl, rfl⟩, ?_⟩ | refine ⟨⟨rfl, rfl, by decide⟩, ?_⟩ | refine ⟨rfl, ?_⟩ | refine ⟨⟨by omega, by omega⟩, ⟨rfl, rfl⟩, ?_⟩ | refine ⟨in64 (by omega) (by omega), ?_⟩ | refine Br.dec (fun _ => ?_) (fun hh => absurd (by omega) hh) | refine Br.dec (fun hh => absurd hh (by omega)) (fun _ => ?_) | refine Br.eq (fun _ => ?_) (fun hh => absurd (by omega) hh) | refine Br.eq (fun hh => absurd hh (by omega)) (fun _ => ?_) | refine Br.ne (fun _ => ?_) (fun hh => absurd (by omega) hh) | refine Br.ne (fun hh => absurd hh (by omega)) (fun _ => ?_) | refine ⟨_, rfl, ?_⟩ | rw [← List.map_drop, ← List.map_take]); conv => whnf)
    rw [bl_beq]
    refine ⟨Ends.grounds (H := []) (L := [_]) (ts := [.i i, .b (decide (l[i].id = x))]) 0 rfl ⟨⟨i, decide (l[i].id = x), rfl, hi, hp, fun e => ⟨hi', of_decide_eq_true e⟩, fun e _ => of_decide_eq_false e⟩, rfl⟩⟩
  · (try conv => whnf); repeat ((first | refine And.intro (show cellsAll _ _ from by repeat (first | exact trivial | refine ⟨⟨rfl, rfl⟩, ?_⟩)) ?_ | refine ⟨_, getZ (by omega), ?_⟩ | refine ⟨_, getI (by omega) (by omega), ?_⟩ | refine ⟨by omega, rfl, ?_⟩ | refine ⟨by (simp; omega), rfl, ?_⟩ | refine ⟨rfl, _, rfl, ⟨rfl, rfl, by decide⟩, ?_⟩ | refine ⟨rfl, _, rfl, ?_⟩ | refine ⟨rfl, _, getO (by omega), ?_⟩ | refine ⟨rfl, ⟨by omega, by omega, by omega⟩, ?_⟩ | refine ⟨⟨rfl, rfl⟩, ?_⟩ | refine ⟨⟨rfl, rfl, rfl⟩, ?_⟩ | refine ⟨⟨rfl, rfl, by decide⟩, ?_⟩ | refine ⟨rfl, ?_⟩ | refine ⟨⟨by omega, by omega⟩, ⟨rfl, rfl⟩, ?_⟩ | refine ⟨in64 (by omega) (by omega), ?_⟩ | refine Br.dec (fun _ => ?_) (fun hh => absurd (by omega) hh) | refine Br.dec (fun hh => absurd hh (by omega)) (fun _ => ?_) | refine Br.eq (fun _ => ?_) (fun hh => absurd (by omega) hh) | refine Br.eq (fun hh => absurd hh (by omega)) (fun _ => ?_) | refine Br.ne (fun _ => ?_) (fun hh => absurd (by omega) hh) | refine Br.ne (fun hh => absurd hh (by omega)) (fun _ => ?_) | refine ⟨_, rfl, ?_⟩ | rw [← List.map_drop, ← List.map_take]); conv => whnf)
    exact ⟨Ends.grounds (H := []) (L := [_]) (ts := [.i i, .b false]) 0 rfl ⟨⟨i, false, rfl, hi, hp, fun e => (by cases e), fun _ h => absurd h (by omega)⟩, rfl⟩⟩
theorem plc_find {l : List Cd} {x : ByteArray} {i : Nat} {b : Bool} (h : plcP l x i b) (hm : mayH l = true) : hasI l x = b ∧ (b = true → lowI l x = i) := by
  obtain ⟨h1, h2, h3, h4⟩ := h
  have hs := (mayH_iff.1 hm).2.2
  obtain ⟨g1, g2⟩ := h2 hs
  refine ⟨?_, fun _ => lowI_eq h1 g1 g2⟩
  cases b
  · cases q : hasI l x with
    | false => rfl
    | true =>
      obtain ⟨c, hc, rfl⟩ := hasI_iff.1 q
      obtain ⟨j, hj, rfl⟩ := List.getElem_of_mem hc
      have h5 : i ≤ j := by
        rcases Nat.lt_or_ge j i with h5 | h5
        · have := g1 j hj h5; rw [ltB_irr] at this; cases this
        · exact h5
      have h6 := h4 rfl (by omega)
      rcases Nat.lt_or_ge i j with h7 | h7
      · have := g2 i (by omega) (Nat.le_refl _); rw [hs.get h7 hj] at this; cases this
      · have : i = j := by omega
        subst this; exact absurd rfl h6
  · obtain ⟨hi, e⟩ := h3 rfl
    exact hasI_iff.2 ⟨_, List.getElem_mem hi, e⟩
end Go.Aw
namespace Go.Aw
open Go.Proofs Go.Sort
set_option maxRecDepth 100000
set_option maxHeartbeats 4000000

/- MAY A SHELF BE? -/
theorem srtI_succ {l : List Cd} {k : Nat} (hk : k < l.length) (h : srtI (l.take k)) (h2 : 0 < k → ltB' (l[k - 1]'(by omega)).id l[k].id = true) : srtI (l.take (k + 1)) := by
  rw [List.take_succ_eq_append_getElem hk]
  unfold srtI at h ⊢
  rw [List.pairwise_append]
  refine ⟨h, by simp, fun a ha b hb => ?_⟩
  simp at hb; subst hb
  obtain ⟨j, hj, rfl⟩ := List.getElem_of_mem ha
  rw [List.getElem_take]
  have hjk : j < k := by simp at hj; omega
  rcases Nat.lt_or_ge j (k - 1) with h3 | h3
  · have := List.pairwise_iff_getElem.1 h j (k - 1) (by simp; omega) (by simp; omega) h3
    rw [List.getElem_take, List.getElem_take] at this
    exact ltB_trans this (h2 (by omega))
  · have : j = k - 1 := by omega
    subst this; exact h2 (by omega)
theorem mayH_no1 {l : List Cd} {k : Nat} (hk : k < l.length) (h : mayC l[k] = false) : mayH l = false := by
  cases q : mayH l with
  | false => rfl
  | true => have := (mayH_iff.1 q).2.1 _ (List.getElem_mem hk); rw [h] at this; cases this
theorem mayH_no2 {l : List Cd} {k : Nat} (hk : k < l.length) (h0 : 0 < k) (h : ltB' (l[k - 1]'(by omega)).id l[k].id = false) : mayH l = false := by
  cases q : mayH l with
  | false => rfl
  | true => have := (mayH_iff.1 q).2.2.get (i := k - 1) (j := k) (by omega) hk; rw [h] at this; cases this
theorem mayH_no3 {l : List Cd} (h : 1100 < l.length) : mayH l = false := by
  cases q : mayH l with
  | false => rfl
  | true => have := (mayH_iff.1 q).1; omega
theorem c_shelf_May (l : List Cd) (hl : l.length < 1000000000) (hb : ∀ c ∈ l, bndC [c]) : CG Try.prog 11 [tcards l] (.b (mayH l)) := by
  refine ⟨k_shelf_May.calls ?_⟩
  have hm : (l.map tcard).length = l.length := by simp
  (try conv => whnf); repeat ((first | refine And.intro (show cellsAll _ _ from by repeat (first | exact trivial | refine ⟨⟨rfl, rfl⟩, ?_⟩)) ?_ | refine ⟨_, getZ (by omega), ?_⟩ | refine ⟨_, getI (by omega) (by omega), ?_⟩ | refine ⟨by omega, rfl, ?_⟩ | refine ⟨by (simp; omega), rfl, ?_⟩ | refine ⟨rfl, _, rfl, ⟨rfl, rfl, by decide⟩, ?_⟩ | refine ⟨rfl, _, rfl, ?_⟩ | refine ⟨rfl, _, getO (by omega), ?_⟩ | refine ⟨rfl, ⟨by omega, by omega, by omega⟩, ?_⟩ | refine ⟨⟨rfl, rfl⟩, ?_⟩ | refine ⟨⟨rfl, rfl, rfl⟩, ?_⟩ | refine ⟨⟨rfl, rfl, by decide⟩, ?_⟩ | refine ⟨rfl, ?_⟩ | refine ⟨⟨by omega, by omega⟩, ⟨rfl, rfl⟩, ?_⟩ | refine ⟨in64 (by omega) (by omega), ?_⟩ | refine Br.dec (fun _ => ?_) (fun hh => absurd (by omega) hh) | refine Br.dec (fun hh => absurd hh (by omega)) (fun _ => ?_) | refine Br.eq (fun _ => ?_) (fun hh => absurd (by omega) hh) | refine Br.eq (fun hh => absurd hh (by omega)) (fun _ => ?_) | refine Br.ne (fun _ => ?_) (fun hh => absurd (by omega) hh) | refine Br.ne (fun hh => absurd hh (by omega)) (fun _ => ?_) | refine ⟨_, rfl, ?_⟩ | rw [← List.map_drop, ← List.map_take]); conv => whnf)
  refine SW.loopR (α := Nat) (fun k => tm 35 [(0, cards l), (5, cards l), (6, .g (.i l.length)), (7, .g (.i k))]) (fun _ => []) (fun k => k ≤ l.length ∧ k ≤ 1100 ∧ (∀ c ∈ l.take k, mayC c = true) ∧ srtI (l.take k)) (fun k => l.length - k) 0 ?_ ?_ ?_
  · exact ⟨Nat.zero_le _, Nat.zero_le _, by simp, by simp [srtI]⟩
  · exact Refi.sub rfl (by simp [subT, subV, tm, tmGo, cards, tcards])
  · rintro k ⟨hk, hk2, hc, hs⟩
    dsimp only at hk hk2 hc hs ⊢
    conv => whnf
    refine Br.dec (fun h => ?_) (fun h => ?_)
    · have hk' : k < l.length := by omega
      have f1 := c_shelf_fits l[k] (hb _ (List.getElem_mem hk'))
      have no : ∀ {x : Bool}, x = false → ∀ L : List Blk, Ends [] (fun r h => r = V.g (T.b x) ∧ h = []) (V.g (T.sc (Value.bool false))) L := fun {x} e L => by
        subst e; exact Ends.ground (H := []) (L := L) 0 rfl ⟨rfl, rfl⟩
      (try conv => whnf); repeat ((first | refine And.intro (show cellsAll _ _ from by repeat (first | exact trivial | refine ⟨⟨rfl, rfl⟩, ?_⟩)) ?_ | refine ⟨_, getZ (by omega), ?_⟩ | refine ⟨_, getI (by omega) (by omega), ?_⟩ | refine ⟨by omega, rfl, ?_⟩ | refine ⟨by (simp; omega), rfl, ?_⟩ | refine ⟨rfl, _, rfl, ⟨rfl, rfl, by decide⟩, ?_⟩ | refine ⟨rfl, _, rfl, ?_⟩ | refine ⟨rfl, _, getO (by omega), ?_⟩ | refine ⟨rfl, ⟨by omega, by omega, by omega⟩, ?_⟩ | refine ⟨⟨rfl, rfl⟩, ?_⟩ | refine ⟨⟨rfl, rfl, rfl⟩, ?_⟩ | refine ⟨⟨rfl, rfl, by decide⟩, ?_⟩ | refine ⟨rfl, ?_⟩ | refine ⟨⟨by omega, by omega⟩, ⟨rfl, rfl⟩, ?_⟩ | refine ⟨in64 (by omega) (by omega), ?_⟩ | refine Br.dec (fun _ => ?_) (fun hh => absurd (by omega) hh) | refine Br.dec (fun hh => absurd hh (by omega)) (fun _ => ?_) | refine Br.eq (fun _ => ?_) (fun hh => absurd (by omega) hh) | refine Br.eq (fun hh => absurd hh (by omega)) (fun _ => ?_) | refine Br.ne (fun _ => ?_) (fun hh => absurd (by omega) hh) | refine Br.ne (fun hh => absurd hh (by omega)) (fun _ => ?_) | refine ⟨_, rfl, ?_⟩ | rw [← List.map_drop, ← List.map_take]); conv => whnf)
      refine Br.dec (fun h1 => ?_) (fun h1 => ?_)
      · (try conv => whnf); repeat ((first | refine And.intro (show cellsAll _ _ from by repeat (first | exact trivial | refine ⟨⟨rfl, rfl⟩, ?_⟩)) ?_ | refine ⟨_, getZ (by omega), ?_⟩ | refine ⟨_, getI (by omega) (by omega), ?_⟩ | refine ⟨by omega, rfl, ?_⟩ | refine ⟨by (simp; omega), rfl, ?_⟩ | refine ⟨rfl, _, rfl, ⟨rfl, rfl, by decide⟩, ?_⟩ | refine ⟨rfl, _, rfl, ?_⟩ | refine ⟨rfl, _, getO (by omega), ?_⟩ | refine ⟨rfl, ⟨by omega, by omega, by omega⟩, ?_⟩ | refine ⟨⟨rfl, rfl⟩, ?_⟩ | refine ⟨⟨rfl, rfl, rfl⟩, ?_⟩ | refine ⟨⟨rfl, rfl, by decide⟩, ?_⟩ | refine ⟨rfl, ?_⟩ | refine ⟨⟨by omega, by omega⟩, ⟨rfl, rfl⟩, ?_⟩ | refine ⟨in64 (by omega) (by omega), ?_⟩ | refine Br.dec (fun _ => ?_) (fun hh => absurd (by omega) hh) | refine Br.dec (fun hh => absurd hh (by omega)) (fun _ => ?_) | refine Br.eq (fun _ => ?_) (fun hh => absurd (by omega) hh) | refine Br.eq (fun hh => absurd hh (by omega)) (fun _ => ?_) | refine Br.ne (fun _ => ?_) (fun hh => absurd (by omega) hh) | refine Br.ne (fun hh => absurd hh (by omega)) (fun _ => ?_) | refine ⟨_, rfl, ?_⟩ | rw [← List.map_drop, ← List.map_take]); conv => whnf)
        exact ⟨no (mayH_no3 (by omega)) _⟩
      · cases hf : mayC l[k] <;> rw [hf] at f1
        · (try conv => whnf); repeat ((first | refine (f1).go rfl ?_ | refine ⟨_, (f1).go rfl ⟨rfl, rfl⟩, ?_⟩ | refine And.intro (show cellsAll _ _ from by repeat (first | exact trivial | refine ⟨⟨rfl, rfl⟩, ?_⟩)) ?_ | refine ⟨_, getZ (by omega), ?_⟩ | refine ⟨_, getI (by omega) (by omega), ?_⟩ | refine ⟨by omega, rfl, ?_⟩ | refine ⟨by (simp; omega), rfl, ?_⟩ | refine ⟨rfl, _, rfl, ⟨rfl, rfl, by decide⟩, ?_⟩ | refine ⟨rfl, _, rfl, ?_⟩ | refine ⟨rfl, _, getO (by omega), ?_⟩ | refine ⟨rfl, ⟨by omega, by omega, by omega⟩, ?_⟩ | refine ⟨⟨rfl, rfl⟩, ?_⟩ | refine ⟨⟨rfl, rfl, rfl⟩, ?_⟩ | refine ⟨⟨rfl, rfl, by decide⟩, ?_⟩ | refine ⟨rfl, ?_⟩ | refine ⟨⟨by omega, by omega⟩, ⟨rfl, rfl⟩, ?_⟩ | refine ⟨in64 (by omega) (by omega), ?_⟩ | refine Br.dec (fun _ => ?_) (fun hh => absurd (by omega) hh) | refine Br.dec (fun hh => absurd hh (by omega)) (fun _ => ?_) | refine Br.eq (fun _ => ?_) (fun hh => absurd (by omega) hh) | refine Br.eq (fun hh => absurd hh (by omega)) (fun _ => ?_) | refine Br.ne (fun _ => ?_) (fun hh => absurd (by omega) hh) | refine Br.ne (fun hh => absurd hh (by omega)) (fun _ => ?_) | refine ⟨_, rfl, ?_⟩ | rw [← List.map_drop, ← List.map_take]); conv => whnf)
          exact ⟨no (mayH_no1 hk' hf) _⟩
        · (try conv => whnf); repeat ((first | refine (f1).go rfl ?_ | refine ⟨_, (f1).go rfl ⟨rfl, rfl⟩, ?_⟩ | refine And.intro (show cellsAll _ _ from by repeat (first | exact trivial | refine ⟨⟨rfl, rfl⟩, ?_⟩)) ?_ | refine ⟨_, getZ (by omega), ?_⟩ | refine ⟨_, getI (by omega) (by omega), ?_⟩ | refine ⟨by omega, rfl, ?_⟩ | refine ⟨by (simp; omega), rfl, ?_⟩ | refine ⟨rfl, _, rfl, ⟨rfl, rfl, by decide⟩, ?_⟩ | refine ⟨rfl, _, rfl, ?_⟩ | refine ⟨rfl, _, getO (by omega), ?_⟩ | refine ⟨rfl, ⟨by omega, by omega, by omega⟩, ?_⟩ | refine ⟨⟨rfl, rfl⟩, ?_⟩ | refine ⟨⟨rfl, rfl, rfl⟩, ?_⟩ | refine ⟨⟨rfl, rfl, by decide⟩, ?_⟩ | refine ⟨rfl, ?_⟩ | refine ⟨⟨by omega, by omega⟩, ⟨rfl, rfl⟩, ?_⟩ | refine ⟨in64 (by omega) (by omega), ?_⟩ | refine Br.dec (fun _ => ?_) (fun hh => absurd (by omega) hh) | refine Br.dec (fun hh => absurd hh (by omega)) (fun _ => ?_) | refine Br.eq (fun _ => ?_) (fun hh => absurd (by omega) hh) | refine Br.eq (fun hh => absurd hh (by omega)) (fun _ => ?_) | refine Br.ne (fun _ => ?_) (fun hh => absurd (by omega) hh) | refine Br.ne (fun hh => absurd hh (by omega)) (fun _ => ?_) | refine ⟨_, rfl, ?_⟩ | rw [← List.map_drop, ← List.map_take]); conv => whnf)
          have more : ∀ c ∈ l.take (k + 1), mayC c = true := fun c hcc => by
            rw [List.take_succ_eq_append_getElem hk', List.mem_append, List.mem_singleton] at hcc
            rcases hcc with hcc | rfl
            · exact hc c hcc
            · exact hf
          refine Br.dec (fun h2 => ?_) (fun h2 => ?_)
          · (try conv => whnf); repeat ((first | refine And.intro (show cellsAll _ _ from by repeat (first | exact trivial | refine ⟨⟨rfl, rfl⟩, ?_⟩)) ?_ | refine ⟨_, getZ (by omega), ?_⟩ | refine ⟨_, getI (by omega) (by omega), ?_⟩ | refine ⟨by omega, rfl, ?_⟩ | refine ⟨by (simp; omega), rfl, ?_⟩ | refine ⟨rfl, _, rfl, ⟨rfl, rfl, by decide⟩, ?_⟩ | refine ⟨rfl, _, rfl, ?_⟩ | refine ⟨rfl, _, getO (by omega), ?_⟩ | refine ⟨rfl, ⟨by omega, by omega, by omega⟩, ?_⟩ | refine ⟨⟨rfl, rfl⟩, ?_⟩ | refine ⟨⟨rfl, rfl, rfl⟩, ?_⟩ | refine ⟨⟨rfl, rfl, by decide⟩, ?_⟩ | refine ⟨rfl, ?_⟩ | refine ⟨⟨by omega, by omega⟩, ⟨rfl, rfl⟩, ?_⟩ | refine ⟨in64 (by omega) (by omega), ?_⟩ | refine Br.dec (fun _ => ?_) (fun hh => absurd (by omega) hh) | refine Br.dec (fun hh => absurd hh (by omega)) (fun _ => ?_) | refine Br.eq (fun _ => ?_) (fun hh => absurd (by omega) hh) | refine Br.eq (fun hh => absurd hh (by omega)) (fun _ => ?_) | refine Br.ne (fun _ => ?_) (fun hh => absurd (by omega) hh) | refine Br.ne (fun hh => absurd hh (by omega)) (fun _ => ?_) | refine ⟨_, rfl, ?_⟩ | rw [← List.map_drop, ← List.map_take]); conv => whnf)
            rw [bl_le]
            have e : (((k : Nat) : Int) - 1).toNat = k - 1 := by omega
            simp only [e]
            refine Br.not (fun h3 => ?_) (fun h3 => ?_)
            · (try conv => whnf); repeat ((first | refine And.intro (show cellsAll _ _ from by repeat (first | exact trivial | refine ⟨⟨rfl, rfl⟩, ?_⟩)) ?_ | refine ⟨_, getZ (by omega), ?_⟩ | refine ⟨_, getI (by omega) (by omega), ?_⟩ | refine ⟨by omega, rfl, ?_⟩ | refine ⟨by (simp; omega), rfl, ?_⟩ | refine ⟨rfl, _, rfl, ⟨rfl, rfl, by decide⟩, ?_⟩ | refine ⟨rfl, _, rfl, ?_⟩ | refine ⟨rfl, _, getO (by omega), ?_⟩ | refine ⟨rfl, ⟨by omega, by omega, by omega⟩, ?_⟩ | refine ⟨⟨rfl, rfl⟩, ?_⟩ | refine ⟨⟨rfl, rfl, rfl⟩, ?_⟩ | refine ⟨⟨rfl, rfl, by decide⟩, ?_⟩ | refine ⟨rfl, ?_⟩ | refine ⟨⟨by omega, by omega⟩, ⟨rfl, rfl⟩, ?_⟩ | refine ⟨in64 (by omega) (by omega), ?_⟩ | refine Br.dec (fun _ => ?_) (fun hh => absurd (by omega) hh) | refine Br.dec (fun hh => absurd hh (by omega)) (fun _ => ?_) | refine Br.eq (fun _ => ?_) (fun hh => absurd (by omega) hh) | refine Br.eq (fun hh => absurd hh (by omega)) (fun _ => ?_) | refine Br.ne (fun _ => ?_) (fun hh => absurd (by omega) hh) | refine Br.ne (fun hh => absurd hh (by omega)) (fun _ => ?_) | refine ⟨_, rfl, ?_⟩ | rw [← List.map_drop, ← List.map_take]); conv => whnf)
              exact ⟨no (mayH_no2 hk' (by omega) h3) _⟩
            · (try conv => whnf); repeat ((first | refine And.intro (show cellsAll _ _ from by repeat (first | exact trivial | refine ⟨⟨rfl, rfl⟩, ?_⟩)) ?_ | refine ⟨_, getZ (by omega), ?_⟩ | refine ⟨_, getI (by omega) (by omega), ?_⟩ | refine ⟨by omega, rfl, ?_⟩ | refine ⟨by (simp; omega), rfl, ?_⟩ | refine ⟨rfl, _, rfl, ⟨rfl, rfl, by decide⟩, ?_⟩ | refine ⟨rfl, _, rfl, ?_⟩ | refine ⟨rfl, _, getO (by omega), ?_⟩ | refine ⟨rfl, ⟨by omega, by omega, by omega⟩, ?_⟩ | refine ⟨⟨rfl, rfl⟩, ?_⟩ | refine ⟨⟨rfl, rfl, rfl⟩, ?_⟩ | refine ⟨⟨rfl, rfl, by decide⟩, ?_⟩ | refine ⟨rfl, ?_⟩ | refine ⟨⟨by omega, by omega⟩, ⟨rfl, rfl⟩, ?_⟩ | refine ⟨in64 (by omega) (by omega), ?_⟩ | refine Br.dec (fun _ => ?_) (fun hh => absurd (by omega) hh) | refine Br.dec (fun hh => absurd hh (by omega)) (fun _ => ?_) | refine Br.eq (fun _ => ?_) (fun hh => absurd (by omega) hh) | refine Br.eq (fun hh => absurd hh (by omega)) (fun _ => ?_) | refine Br.ne (fun _ => ?_) (fun hh => absurd (by omega) hh) | refine Br.ne (fun hh => absurd hh (by omega)) (fun _ => ?_) | refine ⟨_, rfl, ?_⟩ | rw [← List.map_drop, ← List.map_take]); conv => whnf)
              refine ⟨⟨k + 1, ⟨hk', by omega, more, srtI_succ hk' hs fun _ => h3⟩, by omega, Refi.back (H' := []) (L := [_]) rfl (Nat.zero_le _) (fun _ h => by cases h) (by simp [subT, subV, tm, tmGo, cards, cutV, ltB, ltS])⟩⟩
          · (try conv => whnf); repeat ((first | refine And.intro (show cellsAll _ _ from by repeat (first | exact trivial | refine ⟨⟨rfl, rfl⟩, ?_⟩)) ?_ | refine ⟨_, getZ (by omega), ?_⟩ | refine ⟨_, getI (by omega) (by omega), ?_⟩ | refine ⟨by omega, rfl, ?_⟩ | refine ⟨by (simp; omega), rfl, ?_⟩ | refine ⟨rfl, _, rfl, ⟨rfl, rfl, by decide⟩, ?_⟩ | refine ⟨rfl, _, rfl, ?_⟩ | refine ⟨rfl, _, getO (by omega), ?_⟩ | refine ⟨rfl, ⟨by omega, by omega, by omega⟩, ?_⟩ | refine ⟨⟨rfl, rfl⟩, ?_⟩ | refine ⟨⟨rfl, rfl, rfl⟩, ?_⟩ | refine ⟨⟨rfl, rfl, by decide⟩, ?_⟩ | refine ⟨rfl, ?_⟩ | refine ⟨⟨by omega, by omega⟩, ⟨rfl, rfl⟩, ?_⟩ | refine ⟨in64 (by omega) (by omega), ?_⟩ | refine Br.dec (fun _ => ?_) (fun hh => absurd (by omega) hh) | refine Br.dec (fun hh => absurd hh (by omega)) (fun _ => ?_) | refine Br.eq (fun _ => ?_) (fun hh => absurd (by omega) hh) | refine Br.eq (fun hh => absurd hh (by omega)) (fun _ => ?_) | refine Br.ne (fun _ => ?_) (fun hh => absurd (by omega) hh) | refine Br.ne (fun hh => absurd hh (by omega)) (fun _ => ?_) | refine ⟨_, rfl, ?_⟩ | rw [← List.map_drop, ← List.map_take]); conv => whnf)
            refine ⟨⟨k + 1, ⟨hk', by omega, more, srtI_succ hk' hs fun h => absurd h (by omega)⟩, by omega, Refi.back (H' := []) (L := [_]) rfl (Nat.zero_le _) (fun _ h => by cases h) (by simp [subT, subV, tm, tmGo, cards, cutV, ltB, ltS])⟩⟩
    · have : k = l.length := by omega
      subst this
      rw [List.take_length] at hc hs
      rw [show mayH l = true from mayH_iff.2 ⟨hk2, hc, hs⟩]
      (try conv => whnf); repeat ((first | refine And.intro (show cellsAll _ _ from by repeat (first | exact trivial | refine ⟨⟨rfl, rfl⟩, ?_⟩)) ?_ | refine ⟨_, getZ (by omega), ?_⟩ | refine ⟨_, getI (by omega) (by omega), ?_⟩ | refine ⟨by omega, rfl, ?_⟩ | refine ⟨by (simp; omega), rfl, ?_⟩ | refine ⟨rfl, _, rfl, ⟨rfl, rfl, by decide⟩, ?_⟩ | refine ⟨rfl, _, rfl, ?_⟩ | refine ⟨rfl, _, getO (by omega), ?_⟩ | refine ⟨rfl, ⟨by omega, by omega, by omega⟩, ?_⟩ | refine ⟨⟨rfl, rfl⟩, ?_⟩ | refine ⟨⟨rfl, rfl, rfl⟩, ?_⟩ | refine ⟨⟨rfl, rfl, by decide⟩, ?_⟩ | refine ⟨rfl, ?_⟩ | refine ⟨⟨by omega, by omega⟩, ⟨rfl, rfl⟩, ?_⟩ | refine ⟨in64 (by omega) (by omega), ?_⟩ | refine Br.dec (fun _ => ?_) (fun hh => absurd (by omega) hh) | refine Br.dec (fun hh => absurd hh (by omega)) (fun _ => ?_) | refine Br.eq (fun _ => ?_) (fun hh => absurd (by omega) hh) | refine Br.eq (fun hh => absurd hh (by omega)) (fun _ => ?_) | refine Br.ne (fun _ => ?_) (fun hh => absurd (by omega) hh) | refine Br.ne (fun hh => absurd hh (by omega)) (fun _ => ?_) | refine ⟨_, rfl, ?_⟩ | rw [← List.map_drop, ← List.map_take]); conv => whnf)
      exact ⟨Ends.ground (H := []) (L := []) 0 rfl ⟨rfl, rfl⟩⟩
theorem c_shelf_Find (l : List Cd) (x : ByteArray) (hl : l.length < 1000000000) (hb : ∀ c ∈ l, bndC [c]) : CG Try.prog 13 [tcards l, .s x] (.i (findH l x)) := by
  refine ⟨k_shelf_Find.calls ?_⟩
  have m1 := c_shelf_May l hl hb
  (try conv => whnf); repeat ((first | refine And.intro (show cellsAll _ _ from by repeat (first | exact trivial | refine ⟨⟨rfl, rfl⟩, ?_⟩)) ?_ | refine ⟨_, getZ (by omega), ?_⟩ | refine ⟨_, getI (by omega) (by omega), ?_⟩ | refine ⟨by omega, rfl, ?_⟩ | refine ⟨by (simp; omega), rfl, ?_⟩ | refine ⟨rfl, _, rfl, ⟨rfl, rfl, by decide⟩, ?_⟩ | refine ⟨rfl, _, rfl, ?_⟩ | refine ⟨rfl, _, getO (by omega), ?_⟩ | refine ⟨rfl, ⟨by omega, by omega, by omega⟩, ?_⟩ | refine ⟨⟨rfl, rfl⟩, ?_⟩ | refine ⟨⟨rfl, rfl, rfl⟩, ?_⟩ | refine ⟨⟨rfl, rfl, by decide⟩, ?_⟩ | refine ⟨rfl, ?_⟩ | refine ⟨⟨by omega, by omega⟩, ⟨rfl, rfl⟩, ?_⟩ | refine ⟨in64 (by omega) (by omega), ?_⟩ | refine Br.dec (fun _ => ?_) (fun hh => absurd (by omega) hh) | refine Br.dec (fun hh => absurd hh (by omega)) (fun _ => ?_) | refine Br.eq (fun _ => ?_) (fun hh => absurd (by omega) hh) | refine Br.eq (fun hh => absurd hh (by omega)) (fun _ => ?_) | refine Br.ne (fun _ => ?_) (fun hh => absurd (by omega) hh) | refine Br.ne (fun hh => absurd hh (by omega)) (fun _ => ?_) | refine ⟨_, rfl, ?_⟩ | rw [← List.map_drop, ← List.map_take]); conv => whnf)
  refine (c_shelf_place l x hl).mono ?_
  rintro r h ⟨⟨i, b, rfl, hp⟩, rfl⟩
  (try conv => whnf); repeat ((first | refine And.intro (show cellsAll _ _ from by repeat (first | exact trivial | refine ⟨⟨rfl, rfl⟩, ?_⟩)) ?_ | refine ⟨_, getZ (by omega), ?_⟩ | refine ⟨_, getI (by omega) (by omega), ?_⟩ | refine ⟨by omega, rfl, ?_⟩ | refine ⟨by (simp; omega), rfl, ?_⟩ | refine ⟨rfl, _, rfl, ⟨rfl, rfl, by decide⟩, ?_⟩ | refine ⟨rfl, _, rfl, ?_⟩ | refine ⟨rfl, _, getO (by omega), ?_⟩ | refine ⟨rfl, ⟨by omega, by omega, by omega⟩, ?_⟩ | refine ⟨⟨rfl, rfl⟩, ?_⟩ | refine ⟨⟨rfl, rfl, rfl⟩, ?_⟩ | refine ⟨⟨rfl, rfl, by decide⟩, ?_⟩ | refine ⟨rfl, ?_⟩ | refine ⟨⟨by omega, by omega⟩, ⟨rfl, rfl⟩, ?_⟩ | refine ⟨in64 (by omega) (by omega), ?_⟩ | refine Br.dec (fun _ => ?_) (fun hh => absurd (by omega) hh) | refine Br.dec (fun hh => absurd hh (by omega)) (fun _ => ?_) | refine Br.eq (fun _ => ?_) (fun hh => absurd (by omega) hh) | refine Br.eq (fun hh => absurd hh (by omega)) (fun _ => ?_) | refine Br.ne (fun _ => ?_) (fun hh => absurd (by omega) hh) | refine Br.ne (fun hh => absurd hh (by omega)) (fun _ => ?_) | refine ⟨_, rfl, ?_⟩ | rw [← List.map_drop, ← List.map_take]); conv => whnf)
  cases b
  · have e : findH l x = -1 := by
      rw [findH, if_neg]
      rintro ⟨h1, h2⟩
      rw [(plc_find hp h1).1] at h2; cases h2
    rw [e]
    (try conv => whnf); repeat ((first | refine And.intro (show cellsAll _ _ from by repeat (first | exact trivial | refine ⟨⟨rfl, rfl⟩, ?_⟩)) ?_ | refine ⟨_, getZ (by omega), ?_⟩ | refine ⟨_, getI (by omega) (by omega), ?_⟩ | refine ⟨by omega, rfl, ?_⟩ | refine ⟨by (simp; omega), rfl, ?_⟩ | refine ⟨rfl, _, rfl, ⟨rfl, rfl, by decide⟩, ?_⟩ | refine ⟨rfl, _, rfl, ?_⟩ | refine ⟨rfl, _, getO (by omega), ?_⟩ | refine ⟨rfl, ⟨by omega, by omega, by omega⟩, ?_⟩ | refine ⟨⟨rfl, rfl⟩, ?_⟩ | refine ⟨⟨rfl, rfl, rfl⟩, ?_⟩ | refine ⟨⟨rfl, rfl, by decide⟩, ?_⟩ | refine ⟨rfl, ?_⟩ | refine ⟨⟨by omega, by omega⟩, ⟨rfl, rfl⟩, ?_⟩ | refine ⟨in64 (by omega) (by omega), ?_⟩ | refine Br.dec (fun _ => ?_) (fun hh => absurd (by omega) hh) | refine Br.dec (fun hh => absurd hh (by omega)) (fun _ => ?_) | refine Br.eq (fun _ => ?_) (fun hh => absurd (by omega) hh) | refine Br.eq (fun hh => absurd hh (by omega)) (fun _ => ?_) | refine Br.ne (fun _ => ?_) (fun hh => absurd (by omega) hh) | refine Br.ne (fun hh => absurd hh (by omega)) (fun _ => ?_) | refine ⟨_, rfl, ?_⟩ | rw [← List.map_drop, ← List.map_take]); conv => whnf)
    exact ⟨Ends.ground (H := []) (L := []) 0 rfl ⟨rfl, rfl⟩⟩
  · cases hm : mayH l <;> rw [hm] at m1
    · rw [findH, if_neg (by rw [hm]; simp)]
      (try conv => whnf); repeat ((first | refine (m1).go rfl ?_ | refine ⟨_, (m1).go rfl ⟨rfl, rfl⟩, ?_⟩ | refine And.intro (show cellsAll _ _ from by repeat (first | exact trivial | refine ⟨⟨rfl, rfl⟩, ?_⟩)) ?_ | refine ⟨_, getZ (by omega), ?_⟩ | refine ⟨_, getI (by omega) (by omega), ?_⟩ | refine ⟨by omega, rfl, ?_⟩ | refine ⟨by (simp; omega), rfl, ?_⟩ | refine ⟨rfl, _, rfl, ⟨rfl, rfl, by decide⟩, ?_⟩ | refine ⟨rfl, _, rfl, ?_⟩ | refine ⟨rfl, _, getO (by omega), ?_⟩ | refine ⟨rfl, ⟨by omega, by omega, by omega⟩, ?_⟩ | refine ⟨⟨rfl, rfl⟩, ?_⟩ | refine ⟨⟨rfl, rfl, rfl⟩, ?_⟩ | refine ⟨⟨rfl, rfl, by decide⟩, ?_⟩ | refine ⟨rfl, ?_⟩ | refine ⟨⟨by omega, by omega⟩, ⟨rfl, rfl⟩, ?_⟩ | refine ⟨in64 (by omega) (by omega), ?_⟩ | refine Br.dec (fun _ => ?_) (fun hh => absurd (by omega) hh) | refine Br.dec (fun hh => absurd hh (by omega)) (fun _ => ?_) | refine Br.eq (fun _ => ?_) (fun hh => absurd (by omega) hh) | refine Br.eq (fun hh => absurd hh (by omega)) (fun _ => ?_) | refine Br.ne (fun _ => ?_) (fun hh => absurd (by omega) hh) | refine Br.ne (fun hh => absurd hh (by omega)) (fun _ => ?_) | refine ⟨_, rfl, ?_⟩ | rw [← List.map_drop, ← List.map_take]); conv => whnf)
      exact ⟨Ends.ground (H := []) (L := []) 0 rfl ⟨rfl, rfl⟩⟩
    · obtain ⟨h1, h2⟩ := plc_find hp hm
      rw [findH, if_pos ⟨hm, h1⟩, h2 rfl]
      (try conv => whnf); repeat ((first | refine (m1).go rfl ?_ | refine ⟨_, (m1).go rfl ⟨rfl, rfl⟩, ?_⟩ | refine And.intro (show cellsAll _ _ from by repeat (first | exact trivial | refine ⟨⟨rfl, rfl⟩, ?_⟩)) ?_ | refine ⟨_, getZ (by omega), ?_⟩ | refine ⟨_, getI (by omega) (by omega), ?_⟩ | refine ⟨by omega, rfl, ?_⟩ | refine ⟨by (simp; omega), rfl, ?_⟩ | refine ⟨rfl, _, rfl, ⟨rfl, rfl, by decide⟩, ?_⟩ | refine ⟨rfl, _, rfl, ?_⟩ | refine ⟨rfl, _, getO (by omega), ?_⟩ | refine ⟨rfl, ⟨by omega, by omega, by omega⟩, ?_⟩ | refine ⟨⟨rfl, rfl⟩, ?_⟩ | refine ⟨⟨rfl, rfl, rfl⟩, ?_⟩ | refine ⟨⟨rfl, rfl, by decide⟩, ?_⟩ | refine ⟨rfl, ?_⟩ | refine ⟨⟨by omega, by omega⟩, ⟨rfl, rfl⟩, ?_⟩ | refine ⟨in64 (by omega) (by omega), ?_⟩ | refine Br.dec (fun _ => ?_) (fun hh => absurd (by omega) hh) | refine Br.dec (fun hh => absurd hh (by omega)) (fun _ => ?_) | refine Br.eq (fun _ => ?_) (fun hh => absurd (by omega) hh) | refine Br.eq (fun hh => absurd hh (by omega)) (fun _ => ?_) | refine Br.ne (fun _ => ?_) (fun hh => absurd (by omega) hh) | refine Br.ne (fun hh => absurd hh (by omega)) (fun _ => ?_) | refine ⟨_, rfl, ?_⟩ | rw [← List.map_drop, ← List.map_take]); conv => whnf)
      exact ⟨Ends.ground (H := []) (L := []) 0 rfl ⟨rfl, rfl⟩⟩

/- CARDS OF ONE'S OWN -/
theorem set_card (l : List Cd) (k : Nat) (hk : k < l.length) : (vcards l).set (0 + ((k : Nat) : Int).toNat) (storeV (V.g (tcard l[k])) 2 (.g (tstrs l[k].w))) = vcards l := by
  have e : storeV (V.g (tcard l[k])) 2 (.g (tstrs l[k].w)) = V.g (tcard l[k]) := by unfold storeV; rw [if_neg (by simp)]; rfl
  rw [e, show 0 + ((k : Nat) : Int).toNat = k from by omega]
  refine List.ext_getElem? fun j => ?_
  rw [List.getElem?_set]
  split
  · rename_i h; subst h
    rw [if_pos (by simpa [vcards] using hk)]; simp [vcards, hk]
  · rfl
theorem c_shelf_own (l : List Cd) (hl : l.length < 1000000000) (hw : ∀ c ∈ l, c.w.length < 1000000000) : ACalls Try.prog 33 [cards l] [] (fun r h => (∃ g, r = .own 0 g 0 l.length ∧ h = [.arr g 3 (vcards l)])) := by
  refine k_shelf_own.calls ?_
  have hm : (vcards l).length = l.length := by simp [vcards]
  (try conv => whnf); repeat ((first | refine And.intro (show cellsAll _ _ from by repeat (first | exact trivial | refine ⟨⟨rfl, rfl⟩, ?_⟩)) ?_ | refine ⟨_, getZ (by omega), ?_⟩ | refine ⟨_, getI (by omega) (by omega), ?_⟩ | refine ⟨by omega, rfl, ?_⟩ | refine ⟨by (simp; omega), rfl, ?_⟩ | refine ⟨rfl, _, rfl, ⟨rfl, rfl, by decide⟩, ?_⟩ | refine ⟨rfl, _, rfl, ?_⟩ | refine ⟨rfl, _, getO (by omega), ?_⟩ | refine ⟨rfl, ⟨by omega, by omega, by omega⟩, ?_⟩ | refine ⟨⟨rfl, rfl⟩, ?_⟩ | refine ⟨⟨rfl, rfl, rfl⟩, ?_⟩ | refine ⟨⟨rfl, rfl, by decide⟩, ?_⟩ | refine ⟨rfl, ?_⟩ | refine ⟨⟨by omega, by omega⟩, ⟨rfl, rfl⟩, ?_⟩ | refine ⟨in64 (by omega) (by omega), ?_⟩ | refine Br.dec (fun _ => ?_) (fun hh => absurd (by omega) hh) | refine Br.dec (fun hh => absurd hh (by omega)) (fun _ => ?_) | refine Br.eq (fun _ => ?_) (fun hh => absurd (by omega) hh) | refine Br.eq (fun hh => absurd hh (by omega)) (fun _ => ?_) | refine Br.ne (fun _ => ?_) (fun hh => absurd (by omega) hh) | refine Br.ne (fun hh => absurd hh (by omega)) (fun _ => ?_) | refine ⟨_, rfl, ?_⟩ | rw [← List.map_drop, ← List.map_take]); conv => whnf)
  refine (c_Clone_cards l hl).mono ?_
  rintro r h ⟨g, rfl, rfl⟩
  (try conv => whnf); repeat ((first | refine And.intro (show cellsAll _ _ from by repeat (first | exact trivial | refine ⟨⟨rfl, rfl⟩, ?_⟩)) ?_ | refine ⟨_, getZ (by omega), ?_⟩ | refine ⟨_, getI (by omega) (by omega), ?_⟩ | refine ⟨by omega, rfl, ?_⟩ | refine ⟨by (simp; omega), rfl, ?_⟩ | refine ⟨rfl, _, rfl, ⟨rfl, rfl, by decide⟩, ?_⟩ | refine ⟨rfl, _, rfl, ?_⟩ | refine ⟨rfl, _, getO (by omega), ?_⟩ | refine ⟨rfl, ⟨by omega, by omega, by omega⟩, ?_⟩ | refine ⟨⟨rfl, rfl⟩, ?_⟩ | refine ⟨⟨rfl, rfl, rfl⟩, ?_⟩ | refine ⟨⟨rfl, rfl, by decide⟩, ?_⟩ | refine ⟨rfl, ?_⟩ | refine ⟨⟨by omega, by omega⟩, ⟨rfl, rfl⟩, ?_⟩ | refine ⟨in64 (by omega) (by omega), ?_⟩ | refine Br.dec (fun _ => ?_) (fun hh => absurd (by omega) hh) | refine Br.dec (fun hh => absurd hh (by omega)) (fun _ => ?_) | refine Br.eq (fun _ => ?_) (fun hh => absurd (by omega) hh) | refine Br.eq (fun hh => absurd hh (by omega)) (fun _ => ?_) | refine Br.ne (fun _ => ?_) (fun hh => absurd (by omega) hh) | refine Br.ne (fun hh => absurd hh (by omega)) (fun _ => ?_) | refine ⟨_, rfl, ?_⟩ | rw [← List.map_drop, ← List.map_take]); conv => whnf)
  refine SW.loopR (α := Nat) (fun k => tm 24 [(3, .own 0 g 0 l.length), (8, .g (.i l.length)), (9, .g (.i k))]) (fun _ => [.arr g 3 (vcards l)]) (fun k => k ≤ l.length) (fun k => l.length - k) 0 ?_ ?_ ?_
  · exact Nat.zero_le _
  · exact Refi.sub rfl (by simp [subT, subV, tm, tmGo])
  · intro k hk
    dsimp only at hk ⊢
    conv => whnf
    refine Br.dec (fun h => ?_) (fun h => ?_)
    · have hk' : k < l.length := by omega
      have gk : (vcards l)[0 + ((k : Nat) : Int).toNat]? = some (V.g (tcard l[k])) := getO (f := fun c => V.g (tcard c)) hk'
      have q1 := c_Clone_strs l[k].w (hw _ (List.getElem_mem hk'))
      (try conv => whnf); repeat ((first | refine ⟨rfl, _, gk, ⟨rfl, rfl, by decide⟩, ?_⟩ | refine ⟨rfl, _, gk, ?_⟩ | refine (q1).go rfl ?_ | refine ⟨_, (q1).go rfl ⟨rfl, rfl⟩, ?_⟩ | refine And.intro (show cellsAll _ _ from by repeat (first | exact trivial | refine ⟨⟨rfl, rfl⟩, ?_⟩)) ?_ | refine ⟨_, getZ (by omega), ?_⟩ | refine ⟨_, getI (by omega) (by omega), ?_⟩ | refine ⟨by omega, rfl, ?_⟩ | refine ⟨by (simp; omega), rfl, ?_⟩ | refine ⟨rfl, _, rfl, ⟨rfl, rfl, by decide⟩, ?_⟩ | refine ⟨rfl, _, rfl, ?_⟩ | refine ⟨rfl, _, getO (by omega), ?_⟩ | refine ⟨rfl, ⟨by omega, by omega, by omega⟩, ?_⟩ | refine ⟨⟨rfl, rfl⟩, ?_⟩ | refine ⟨⟨rfl, rfl, rfl⟩, ?_⟩ | refine ⟨⟨rfl, rfl, by decide⟩, ?_⟩ | refine ⟨rfl, ?_⟩ | refine ⟨⟨by omega, by omega⟩, ⟨rfl, rfl⟩, ?_⟩ | refine ⟨in64 (by omega) (by omega), ?_⟩ | refine Br.dec (fun _ => ?_) (fun hh => absurd (by omega) hh) | refine Br.dec (fun hh => absurd hh (by omega)) (fun _ => ?_) | refine Br.eq (fun _ => ?_) (fun hh => absurd (by omega) hh) | refine Br.eq (fun hh => absurd hh (by omega)) (fun _ => ?_) | refine Br.ne (fun _ => ?_) (fun hh => absurd (by omega) hh) | refine Br.ne (fun hh => absurd hh (by omega)) (fun _ => ?_) | refine ⟨_, rfl, ?_⟩ | rw [← List.map_drop, ← List.map_take]); conv => whnf)
      refine ⟨⟨k + 1, hk', by omega, Refi.sub ?_ (by simp [subT, subV, tm, tmGo])⟩⟩
      have := set_card l k hk'
      show [Blk.arr g 3 ((vcards l).set (0 + ((k : Nat) : Int).toNat) (storeV (V.g (tcard l[k])) 2 (.g (tstrs l[k].w))))] = _
      rw [this]
    · have : k = l.length := by omega
      subst this
      (try conv => whnf); repeat ((first | refine And.intro (show cellsAll _ _ from by repeat (first | exact trivial | refine ⟨⟨rfl, rfl⟩, ?_⟩)) ?_ | refine ⟨_, getZ (by omega), ?_⟩ | refine ⟨_, getI (by omega) (by omega), ?_⟩ | refine ⟨by omega, rfl, ?_⟩ | refine ⟨by (simp; omega), rfl, ?_⟩ | refine ⟨rfl, _, rfl, ⟨rfl, rfl, by decide⟩, ?_⟩ | refine ⟨rfl, _, rfl, ?_⟩ | refine ⟨rfl, _, getO (by omega), ?_⟩ | refine ⟨rfl, ⟨by omega, by omega, by omega⟩, ?_⟩ | refine ⟨⟨rfl, rfl⟩, ?_⟩ | refine ⟨⟨rfl, rfl, rfl⟩, ?_⟩ | refine ⟨⟨rfl, rfl, by decide⟩, ?_⟩ | refine ⟨rfl, ?_⟩ | refine ⟨⟨by omega, by omega⟩, ⟨rfl, rfl⟩, ?_⟩ | refine ⟨in64 (by omega) (by omega), ?_⟩ | refine Br.dec (fun _ => ?_) (fun hh => absurd (by omega) hh) | refine Br.dec (fun hh => absurd hh (by omega)) (fun _ => ?_) | refine Br.eq (fun _ => ?_) (fun hh => absurd (by omega) hh) | refine Br.eq (fun hh => absurd hh (by omega)) (fun _ => ?_) | refine Br.ne (fun _ => ?_) (fun hh => absurd (by omega) hh) | refine Br.ne (fun hh => absurd hh (by omega)) (fun _ => ?_) | refine ⟨_, rfl, ?_⟩ | rw [← List.map_drop, ← List.map_take]); conv => whnf)
      exact ⟨Ends.keep ⟨g, rfl, rfl⟩⟩
end Go.Aw
namespace Go.Aw
open Go.Proofs Go.Sort
set_option maxRecDepth 100000
set_option maxHeartbeats 4000000

/- slices.Insert, slices.Delete OF ONE ELEMENT OF THREE CELLS -/
theorem flatV_split (es : List V) (m : Nat) : flatV es = flatV (es.take m) ++ flatV (es.drop m) := by rw [← flatV_append, List.take_append_drop]
theorem flatV_takeL {es : List V} {sz m : Nat} (h : ∀ e ∈ es, e.cells.length = sz) (hm : m ≤ es.length) : flatV (es.take m) = (flatV es).take (m * sz) := by
  have : (flatV (es.take m)).length = m * sz := by rw [flatV_len fun e he => h e (List.mem_of_mem_take he), List.length_take, Nat.min_eq_left hm]
  conv => rhs; rw [flatV_split es m, List.take_append_of_le_length (by omega)]
  exact (List.take_of_length_le (by omega)).symm
theorem flatV_dropL {es : List V} {sz m : Nat} (h : ∀ e ∈ es, e.cells.length = sz) (hm : m ≤ es.length) : flatV (es.drop m) = (flatV es).drop (m * sz) := by
  have : (flatV (es.take m)).length = m * sz := by rw [flatV_len fun e he => h e (List.mem_of_mem_take he), List.length_take, Nat.min_eq_left hm]
  conv => rhs; rw [flatV_split es m, List.drop_append_of_le_length (by omega)]
  rw [List.drop_of_length_le (l := flatV (es.take m)) (by omega), List.nil_append]
theorem drewN_ok {γ : List (Option Nat)} {H : List Blk} {I : Nat → Prop} {w : World} (r : RelH γ I w H) (n : Nat) : RelH γ I (w.drewN n) H ∧ Ext γ H I w γ H I (w.drewN n) := ahead_ok r n
/-- a row's cells, each of one cell -/
theorem one_in {γ : List (Option Nat)} {H : List Blk} {I : Nat → Prop} {w : World} {es : List V} {c : Array Value} {a m : Nat}
    (h5 : ∀ (i : Nat) (v : V), (flatV es)[i]? = some v → ∃ x : Value, c[i]? = some x ∧ x.oneCell' = true ∧ RV γ H I w v x) (hl : a + m ≤ (flatV es).length) : ∀ x ∈ (c.toList.drop a).take m, x.oneCell' = true := by
  intro x hx
  obtain ⟨j, hj, rfl⟩ := List.getElem_of_mem hx
  simp only [List.length_take, List.length_drop, Array.length_toList] at hj
  obtain ⟨y, h1, h2, _⟩ := h5 (a + j) _ (List.getElem?_eq_getElem (by omega))
  rw [List.getElem_take, List.getElem_drop, Array.getElem_toList]
  rw [Array.getElem?_eq_getElem (by omega)] at h1
  cases h1; exact h2
theorem sub_get {c : Array Value} {a m p : Nat} (hp : p < m) (_h : a + p < c.size) : ((c.toList.drop a).take m)[p]? = c[a + p]? := by
  rw [List.getElem?_take, if_pos hp, List.getElem?_drop, Array.getElem?_toList]
theorem c_Delete3 (g n i : Nat) (es : List V) (hn : es.length = n) (hn9 : n < 1000000000) (hi : i < n) :
    ACalls Try.prog 38 [.own 0 g 0 n, .g (.i i), .g (.i ((i : Int) + 1))] [.arr g 3 es] (fun r h => r = .own 0 (g + 1) 0 (n - 1) ∧ h = [.arr (g + 1) 3 (es.take i ++ es.drop (i + 1))]) := by
  refine ⟨k_slices_Delete_LCard_Card.callOk, fun γ I w vs r hl hv => ?_⟩
  obtain ⟨x, y, z, rfl⟩ : ∃ x y z, vs = [x, y, z] := by
    match vs, hl with
    | [x, y, z], _ => exact ⟨x, y, z, rfl⟩
  have hx := hv 0 _ rfl
  have hy := hv 1 _ rfl
  have hz := hv 2 _ rfl
  simp only [List.getD_eq_getElem?_getD, List.getElem?_cons_zero, List.getElem?_cons_succ, Option.getD_some] at hx hy hz
  have := rv_sc hy; subst this
  have := rv_sc hz; subst this
  cases hx with
  | @own _ _ g2 sz2 _ _ cap es2 a hb hg hlc hc =>
  simp at hb
  obtain ⟨rfl, rfl, rfl⟩ := hb
  obtain ⟨c1, c2⟩ := hc rfl
  rcases c2 with ⟨_, _, _, h0⟩ | ⟨k, hk, ha, hrow⟩
  · omega
  rcases ha with ha | rfl
  · omega
  rcases r.arr 0 g 3 es rfl with ⟨h0, _⟩ | ⟨k', c, el, h1, h2, h3, h4, h5⟩
  · rw [h0] at hk; cases hk
  rw [hk] at h1; cases h1
  obtain ⟨c0, el0, fr0, q1, q2⟩ := hrow
  rw [h2] at q1; cases q1
  have hF := flatV_len h3
  have hsz : cap * 3 ≤ c.size := by omega
  have hone := one_in (a := (i + 1) * 3) (m := (n - (i + 1)) * 3) h5 (by omega)
  have hcall := kDel n cap i k c el w hn9 hi hlc h2 hsz hone
  rw [Nat.zero_mul]
  refine hcall.mono ?_
  rintro e w' ⟨rfl, q, rfl⟩
  obtain ⟨rd, xd⟩ := drewN_ok r q
  have hl1 : ((c.toList.drop ((i + 1) * 3)).take ((n - (i + 1)) * 3)).length = (n - (i + 1)) * 3 := by simp; omega
  have hwf' : ∀ e ∈ es.take i ++ es.drop (i + 1), e.cells.length = 3 := fun e he => by
    rcases List.mem_append.1 he with he | he
    · exact h3 e (List.mem_of_mem_take he)
    · exact h3 e (List.mem_of_mem_drop he)
  have hlen' : (es.take i ++ es.drop (i + 1)).length = n - 1 := by simp; omega
  obtain ⟨u1, u2⟩ := upd_ok (w := w.drewN q) (g' := g + 1) (es' := es.take i ++ es.drop (i + 1)) (c' := wr (wr c (i * 3) ((c.toList.drop ((i + 1) * 3)).take ((n - (i + 1)) * 3))) ((n - 1) * 3) [.string ⟨#[]⟩, .int .i64 0, .slice none 0 0]) rd (b := 0) (sz := 3) rfl hk h2 (by simp) (by omega) (fun e => by omega) hwf' (by rw [hlen']; omega) (fun j v hj => by
    have hjl := lt_of_get hj
    rw [flatV_len hwf', hlen'] at hjl
    have g1 := wr_get (wr c (i * 3) ((c.toList.drop ((i + 1) * 3)).take ((n - (i + 1)) * 3))) ((n - 1) * 3) [.string ⟨#[]⟩, .int .i64 0, .slice none 0 0] (by simp; omega) j
    have g2 := wr_get c (i * 3) ((c.toList.drop ((i + 1) * 3)).take ((n - (i + 1)) * 3)) (by rw [hl1]; omega) j
    rw [hl1] at g2
    rw [g1, if_neg (by omega), g2]
    rw [flatV_append, flatV_takeL h3 (by omega), flatV_dropL h3 (by omega)] at hj
    have htl : ((flatV es).take (i * 3)).length = i * 3 := by rw [List.length_take, hF]; omega
    rcases Nat.lt_or_ge j (i * 3) with hlt | hge
    · rw [List.getElem?_append_left (by omega), List.getElem?_take, if_pos hlt] at hj
      obtain ⟨x, x1, x2, x3⟩ := h5 j v hj
      exact ⟨x, by rw [if_neg (by omega)]; exact x1, x2, x3.mono xd r⟩
    · rw [List.getElem?_append_right (by omega), htl, List.getElem?_drop] at hj
      obtain ⟨x, x1, x2, x3⟩ := h5 _ v hj
      refine ⟨x, ?_, x2, x3.mono xd r⟩
      rw [if_pos (by omega), sub_get (by omega) (by omega)]
      exact x1)
  refine ⟨_, _, _, γ, I, rfl, ⟨rfl, rfl⟩, u1, ?_, xd.trans u2⟩
  refine .own (g' := g + 1) (sz := 3) (es := es.take i ++ es.drop (i + 1)) rfl (Nat.le_refl _) (by omega) (fun _ => ⟨by rw [hlen']; omega, .inr ⟨k, hk, .inr (by simp), ?_⟩⟩)
  exact ⟨_, _, _, setB_same _ _ _ (heap_lt (w := w.drewN q) h2), by simpa using hsz⟩
end Go.Aw
namespace Go.Aw
open Go.Proofs Go.Sort
set_option maxRecDepth 100000
set_option maxHeartbeats 4000000

theorem flatV_cons (v : V) (es : List V) : flatV (v :: es) = v.cells ++ flatV es := rfl
theorem getC {α : Type} {a b c : List α} {j : Nat} {x : α} (h : (a ++ (b ++ c))[j]? = some x) : (j < a.length ∧ a[j]? = some x) ∨ (a.length ≤ j ∧ j < a.length + b.length ∧ b[j - a.length]? = some x) ∨ (a.length + b.length ≤ j ∧ c[j - (a.length + b.length)]? = some x) := by
  rcases Nat.lt_or_ge j a.length with h1 | h1
  · rw [List.getElem?_append_left h1] at h; exact .inl ⟨h1, h⟩
  · rw [List.getElem?_append_right h1] at h
    rcases Nat.lt_or_ge (j - a.length) b.length with h2 | h2
    · rw [List.getElem?_append_left h2] at h; exact .inr (.inl ⟨h1, by omega, h⟩)
    · rw [List.getElem?_append_right h2] at h
      refine .inr (.inr ⟨by omega, ?_⟩)
      rw [← h]; congr 1; omega
theorem c_Insert3 (g g2 n i : Nat) (es : List V) (v : V) (hn : es.length = n) (hn9 : n < 1000000000) (hi : i ≤ n) :
    ACalls Try.prog 35 [.own 0 g 0 n, .g (.i i), .own 1 g2 0 1] [.arr g 3 es, .arr g2 3 [v]] (fun r h => r = .own 0 (g + 1) 0 (n + 1) ∧ h = [.arr (g + 1) 3 (es.take i ++ v :: es.drop i), .arr g2 3 [v]]) := by
  by_cases hin : i = n
  · subst hin
    refine k_slices_Insert_LCard_Card.calls ?_
    (try conv => whnf); repeat ((first | refine ⟨⟨rfl, Nat.le_refl _, rfl⟩, ?_⟩ | refine And.intro (show cellsAll _ _ from by repeat (first | exact trivial | refine ⟨⟨rfl, rfl⟩, ?_⟩)) ?_ | refine ⟨_, getZ (by omega), ?_⟩ | refine ⟨_, getI (by omega) (by omega), ?_⟩ | refine ⟨by omega, rfl, ?_⟩ | refine ⟨by (simp; omega), rfl, ?_⟩ | refine ⟨rfl, _, rfl, ⟨rfl, rfl, by decide⟩, ?_⟩ | refine ⟨rfl, _, rfl, ?_⟩ | refine ⟨rfl, _, getO (by omega), ?_⟩ | refine ⟨rfl, ⟨by omega, by omega, by omega⟩, ?_⟩ | refine ⟨⟨rfl, rfl⟩, ?_⟩ | refine ⟨⟨rfl, rfl, rfl⟩, ?_⟩ | refine ⟨⟨rfl, rfl, by decide⟩, ?_⟩ | refine ⟨rfl, ?_⟩ | refine ⟨⟨by omega, by omega⟩, ⟨rfl, rfl⟩, ?_⟩ | refine ⟨in64 (by omega) (by omega), ?_⟩ | refine Br.dec (fun _ => ?_) (fun hh => absurd (by omega) hh) | refine Br.dec (fun hh => absurd hh (by omega)) (fun _ => ?_) | refine Br.eq (fun _ => ?_) (fun hh => absurd (by omega) hh) | refine Br.eq (fun hh => absurd hh (by omega)) (fun _ => ?_) | refine Br.ne (fun _ => ?_) (fun hh => absurd (by omega) hh) | refine Br.ne (fun hh => absurd hh (by omega)) (fun _ => ?_) | refine ⟨_, rfl, ?_⟩ | rw [← List.map_drop, ← List.map_take]); conv => whnf)
    refine ⟨(by omega : (2 * (i + 1) + 1024) * (48 + 1) ≤ 281474976710656), ⟨rfl, rfl, rfl⟩, es, ⟨[], (List.append_nil _).symm⟩, hn.symm, ?_⟩
    (try conv => whnf); repeat ((first | refine And.intro (show cellsAll _ _ from by repeat (first | exact trivial | refine ⟨⟨rfl, rfl⟩, ?_⟩)) ?_ | refine ⟨_, getZ (by omega), ?_⟩ | refine ⟨_, getI (by omega) (by omega), ?_⟩ | refine ⟨by omega, rfl, ?_⟩ | refine ⟨by (simp; omega), rfl, ?_⟩ | refine ⟨rfl, _, rfl, ⟨rfl, rfl, by decide⟩, ?_⟩ | refine ⟨rfl, _, rfl, ?_⟩ | refine ⟨rfl, _, getO (by omega), ?_⟩ | refine ⟨rfl, ⟨by omega, by omega, by omega⟩, ?_⟩ | refine ⟨⟨rfl, rfl⟩, ?_⟩ | refine ⟨⟨rfl, rfl, rfl⟩, ?_⟩ | refine ⟨⟨rfl, rfl, by decide⟩, ?_⟩ | refine ⟨rfl, ?_⟩ | refine ⟨⟨by omega, by omega⟩, ⟨rfl, rfl⟩, ?_⟩ | refine ⟨in64 (by omega) (by omega), ?_⟩ | refine Br.dec (fun _ => ?_) (fun hh => absurd (by omega) hh) | refine Br.dec (fun hh => absurd hh (by omega)) (fun _ => ?_) | refine Br.eq (fun _ => ?_) (fun hh => absurd (by omega) hh) | refine Br.eq (fun hh => absurd hh (by omega)) (fun _ => ?_) | refine Br.ne (fun _ => ?_) (fun hh => absurd (by omega) hh) | refine Br.ne (fun hh => absurd hh (by omega)) (fun _ => ?_) | refine ⟨_, rfl, ?_⟩ | rw [← List.map_drop, ← List.map_take]); conv => whnf)
    refine ⟨Ends.keep ⟨rfl, ?_⟩⟩
    have e1 : es.take i = es := List.take_of_length_le (by omega)
    have e2 : es.drop i = [] := List.drop_of_length_le (by omega)
    rw [e1, e2]
    rfl
  have hlt : i < n := by omega
  refine ⟨k_slices_Insert_LCard_Card.callOk, fun γ I w vs r hl hv => ?_⟩
  obtain ⟨x, y, z, rfl⟩ : ∃ x y z, vs = [x, y, z] := by
    match vs, hl with
    | [x, y, z], _ => exact ⟨x, y, z, rfl⟩
  have hx := hv 0 _ rfl
  have hy := hv 1 _ rfl
  have hz := hv 2 _ rfl
  simp only [List.getD_eq_getElem?_getD, List.getElem?_cons_zero, List.getElem?_cons_succ, Option.getD_some] at hx hy hz
  have := rv_sc hy; subst this
  cases hx with
  | @own _ _ ga sza _ _ cap esa a hb hg hlc hc =>
  simp at hb
  obtain ⟨rfl, rfl, rfl⟩ := hb
  cases hz with
  | @own _ _ gb szb _ _ vc esb b hb' hg' hlc' hc' =>
  simp at hb'
  obtain ⟨rfl, rfl, rfl⟩ := hb'
  obtain ⟨_, c2⟩ := hc rfl
  obtain ⟨_, d2⟩ := hc' rfl
  rcases c2 with ⟨_, _, _, h0⟩ | ⟨k, hk, ha, hrow⟩
  · omega
  rcases ha with ha | rfl
  · omega
  rcases d2 with ⟨_, _, _, h0⟩ | ⟨kv, hkv, hb, _⟩
  · omega
  rcases hb with hb | rfl
  · omega
  rcases r.arr 0 g 3 es rfl with ⟨h0, _⟩ | ⟨k', c, el, h1, h2, h3, h4, h5⟩
  · rw [h0] at hk; cases hk
  rw [hk] at h1; cases h1
  rcases r.arr 1 g2 3 [v] rfl with ⟨h0, _⟩ | ⟨k', cv, ev, h1, v2, v3, v4, v5⟩
  · rw [h0] at hkv; cases hkv
  rw [hkv] at h1; cases h1
  obtain ⟨c0, el0, fr0, q1, q2⟩ := hrow
  rw [h2] at q1; cases q1
  have hF := flatV_len h3
  have hV := flatV_len v3
  have hvl : v.cells.length = 3 := v3 v (by simp)
  rw [List.length_singleton] at hV
  have hsz : cap * 3 ≤ c.size := by omega
  have hvs : 3 ≤ cv.size := by simpa using v4
  have hne : kv ≠ k := fun e => by have := r.inj 0 1 k hk (e ▸ hkv); omega
  have h1c := one_in (a := i * 3) (m := (n - i) * 3) h5 (by omega)
  have h1v := one_in (a := 0) (m := 1 * 3) v5 (by omega)
  have hl1 : ((c.toList.drop (i * 3)).take ((n - i) * 3)).length = (n - i) * 3 := by simp; omega
  have hl2 : ((cv.toList.drop 0).take (1 * 3)).length = 3 := by simp; omega
  have hwf' : ∀ e ∈ es.take i ++ v :: es.drop i, e.cells.length = 3 := fun e he => by
    rcases List.mem_append.1 he with he | he
    · exact h3 e (List.mem_of_mem_take he)
    · rcases List.mem_cons.1 he with rfl | he
      · exact hvl
      · exact h3 e (List.mem_of_mem_drop he)
  have hlen' : (es.take i ++ v :: es.drop i).length = n + 1 := by simp; omega
  have htl : ((flatV es).take (i * 3)).length = i * 3 := by rw [List.length_take, hF]; omega
  have hfl : flatV (es.take i ++ v :: es.drop i) = (flatV es).take (i * 3) ++ (v.cells ++ (flatV es).drop (i * 3)) := by
    rw [flatV_append, flatV_cons, flatV_takeL h3 (by omega), flatV_dropL h3 (by omega)]
  -- what a row holds that begins as the old one, with v and the rest behind
  have key : ∀ (w' : World) (c' : Array Value), (∀ x y, RV γ [.arr g 3 es, .arr g2 3 [v]] I w x y → RV γ [.arr g 3 es, .arr g2 3 [v]] I w' x y) → (∀ j, j < i * 3 → c'[j]? = c[j]?) → (∀ j, j < 3 → c'[i * 3 + j]? = cv[j]?) → (∀ j, j < (n - i) * 3 → c'[(i + 1) * 3 + j]? = c[i * 3 + j]?) →
      ∀ (j : Nat) (u : V), (flatV (es.take i ++ v :: es.drop i))[j]? = some u → ∃ x, c'[j]? = some x ∧ x.oneCell' = true ∧ RV γ [.arr g 3 es, .arr g2 3 [v]] I w' u x := by
    intro w' c' hmono p1 p2 p3 j u hj
    rw [hfl] at hj
    rcases getC hj with ⟨l1, hj⟩ | ⟨l1, l2, hj⟩ | ⟨l1, hj⟩
    · rw [htl] at l1
      rw [List.getElem?_take, if_pos l1] at hj
      obtain ⟨x, x1, x2, x3⟩ := h5 j u hj
      exact ⟨x, by rw [p1 j l1]; exact x1, x2, hmono _ _ x3⟩
    · rw [htl] at l1 l2 hj
      have hj' : (flatV [v])[j - i * 3]? = some u := by rw [flatV_cons]; simpa [flatV] using hj
      obtain ⟨x, x1, x2, x3⟩ := v5 _ u hj'
      refine ⟨x, ?_, x2, hmono _ _ x3⟩
      have := p2 (j - i * 3) (by omega)
      rw [show i * 3 + (j - i * 3) = j from by omega] at this
      rw [this]; exact x1
    · rw [htl, hvl] at l1 hj
      rw [List.getElem?_drop] at hj
      have hjl := lt_of_get hj
      rw [hF] at hjl
      obtain ⟨x, x1, x2, x3⟩ := h5 _ u hj
      refine ⟨x, ?_, x2, hmono _ _ x3⟩
      have := p3 (j - (i + 1) * 3) (by omega)
      rw [show (i + 1) * 3 + (j - (i + 1) * 3) = j from by omega, show i * 3 + (j - (i + 1) * 3) = i * 3 + (j - (i * 3 + 3)) from by omega] at this
      rw [this]; exact x1
  rw [Nat.zero_mul]
  by_cases hroom : n + 1 ≤ cap
  · refine (kInsRoom n cap i k kv vc c cv el ev w hn9 hlt hroom hne h2 hsz v2 hvs h1c h1v).mono ?_
    rintro e w' ⟨rfl, q, rfl⟩
    obtain ⟨rd, xd⟩ := drewN_ok r q
    obtain ⟨u1, u2⟩ := upd_ok (w := w.drewN q) (g' := g + 1) (es' := es.take i ++ v :: es.drop i) (c' := wr (wr c ((i + 1) * 3) ((c.toList.drop (i * 3)).take ((n - i) * 3))) (i * 3) ((cv.toList.drop 0).take (1 * 3))) rd (b := 0) (sz := 3) rfl hk h2 (by simp) (by omega) (fun e => by omega) hwf' (by rw [hlen']; omega)
      (key _ _ (fun _ _ h => h.mono xd r) (fun j hj => by
        rw [wr_get _ _ _ (by rw [hl2]; simp; omega), hl2, if_neg (by omega), wr_get _ _ _ (by rw [hl1]; omega), if_neg (by omega)]) (fun j hj => by
        rw [wr_get _ _ _ (by rw [hl2]; simp; omega), hl2, if_pos (by omega), sub_get (by omega) (by omega)]; congr 1; omega) (fun j hj => by
        rw [wr_get _ _ _ (by rw [hl2]; simp; omega), hl2, if_neg (by omega), wr_get _ _ _ (by rw [hl1]; omega), hl1, if_pos (by omega), sub_get (by omega) (by omega)]; congr 1; omega))
    refine ⟨_, _, _, γ, I, rfl, ⟨rfl, rfl⟩, u1, ?_, xd.trans u2⟩
    refine .own (g' := g + 1) (sz := 3) (es := es.take i ++ v :: es.drop i) rfl (Nat.le_refl _) hroom (fun _ => ⟨by rw [hlen']; omega, .inr ⟨k, hk, .inr (by simp), ?_⟩⟩)
    exact ⟨_, _, _, setB_same _ _ _ (heap_lt (w := w.drewN q) h2), by simpa using hsz⟩
  · refine (kInsGrow n cap i k kv vc c cv el ev w hn9 hlt (by omega) hlc h2 hsz v2 hvs h1c h1v).mono ?_
    rintro e w' ⟨G, ROW, q, rfl, hG, hR, hp, rfl⟩
    obtain ⟨rd, xd⟩ := drewN_ok r q
    obtain ⟨u1, u2⟩ := realloc_ok (w := w.drewN q) (b := 0) (g := g) (sz := 3) (es := es) (es' := es.take i ++ v :: es.drop i) (c := wr (wr ROW (i * 3) ((cv.toList.drop 0).take (1 * 3))) ((i + 1) * 3) ((c.toList.drop (i * 3)).take ((n - i) * 3))) (el := 30) rd rfl hwf' (by rw [hlen']; simp; omega)
      (key _ _ (fun _ _ h => h.mono xd r) (fun j hj => by
        rw [wr_get _ _ _ (by rw [hl1]; simp; omega), if_neg (by omega), wr_get _ _ _ (by rw [hl2]; omega), if_neg (by omega)]; exact hp j hj) (fun j hj => by
        rw [wr_get _ _ _ (by rw [hl1]; simp; omega), if_neg (by omega), wr_get _ _ _ (by rw [hl2]; omega), hl2, if_pos (by omega), sub_get (by omega) (by omega)]; congr 1; omega) (fun j hj => by
        rw [wr_get _ _ _ (by rw [hl1]; simp; omega), hl1, if_pos (by omega), sub_get (by omega) (by omega)]; congr 1; omega))
    refine ⟨_, _, _, _, I, rfl, ⟨rfl, rfl⟩, u1, ?_, xd.trans u2⟩
    refine .own (g' := g + 1) (sz := 3) (es := es.take i ++ v :: es.drop i) rfl (Nat.le_refl _) hG (fun _ => ⟨by rw [hlen']; omega, .inr ⟨w.heap.size, ?_, .inr (by simp), ?_⟩⟩)
    · have : 0 < γ.length := by rw [r.len]; simp
      show (γ.set 0 (some (w.drewN q).heap.size))[0]? = _
      simp [this]
    · refine ⟨_, 30, (0, 0), by show ((w.drewN q).heap.push _)[w.heap.size]? = _; exact Array.getElem?_push_size, ?_⟩
      simp [hR]
end Go.Aw
namespace Go.Aw
open Go.Proofs Go.Sort
set_option maxRecDepth 100000
set_option maxHeartbeats 4000000

/- SHELF, THE PROGRAM'S: PUT, DEL, BYKEY, SAME -/
theorem bnd_one {l : List Cd} {c : Cd} (h : bndC l) (hc : c ∈ l) : bndC [c] := by
  have h1 := h.w c hc
  refine ⟨by simp, by simpa using h1, fun d hd => ?_⟩
  simp at hd; subst hd; exact h.2.2 d hc
theorem bnd_w {l : List Cd} (h : bndC l) : ∀ c ∈ l, c.w.length < 1000000000 := fun c hc => by have := h.w c hc; omega
theorem gr_two {n d : Nat} {h : List Blk} {v : V} {t : T} {i : T} (hg : gr n h (d + 1) v = some t) : optL ([v, .g i].map (gr n h (d + 1))) = some [t, i] := by
  show optL [gr n h (d + 1) v, gr n h (d + 1) (.g i)] = _
  rw [hg, gr_g]; rfl
theorem set_put (l : List Cd) (c : Cd) (k : Nat) (hk : k < l.length) : (vcards l).set (0 + ((k : Nat) : Int).toNat) (storeV (V.g (tcard l[k])) 0 (V.g (tcard c))) = vcards (l.set k c) := by
  have e : storeV (V.g (tcard l[k])) 0 (V.g (tcard c)) = V.g (tcard c) := by unfold storeV; rw [if_pos ⟨rfl, rfl⟩]
  rw [e, show 0 + ((k : Nat) : Int).toNat = k from by omega, vcards, vcards, List.map_set]
theorem ins_put (l : List Cd) (c : Cd) (k : Nat) : (vcards l).take k ++ V.g (tcard c) :: (vcards l).drop k = vcards (l.take k ++ c :: l.drop k) := by simp [vcards, List.map_take, List.map_drop]
theorem del_put (l : List Cd) (k : Nat) : (vcards l).take k ++ (vcards l).drop (k + 1) = vcards (l.take k ++ l.drop (k + 1)) := by simp [vcards, List.map_take, List.map_drop]
theorem c_shelf_Put (l : List Cd) (c : Cd) (hb : bndC l) (hc : bndC [c]) : CV Try.prog 18 [tcards l, tcard c] (.tu [.g (tcards (putH l c).1), .g (.i (putH l c).2)]) := by
  refine ⟨k_shelf_Put.calls ?_, V.lt.gs (ts := [_, _])⟩
  have hb1 := hb.1
  have hm : (l.map tcard).length = l.length := by simp
  have hv : (vcards l).length = l.length := by simp [vcards]
  have m1 := c_shelf_May l (by omega) fun d hd => bnd_one hb hd
  have f1 := c_shelf_fits c hc
  have w1 := c_Clone_strs c.w (by have := hc.2.1; simp at this; omega)
  have fin : ∀ (n : Int) (l' : List Cd), putH l c = (l', n) → ∀ (B : Blk) (b g : Nat) (L : List Blk), (B :: L)[b]? = some (.arr g 3 (vcards l')) → Ends [] (fun r h => r = V.tu [.g (tcards (putH l c).1), .g (.i (putH l c).2)] ∧ h = []) (V.tu [.own b g 0 l'.length, .g (.i n)]) (B :: L) := fun n l' e B b g L hB => by
    rw [e]
    exact Ends.grounds (H := []) (L := B :: L) 1 (ts := [tcards l', .i n]) (gr_two (gr_vcards hB (Nat.zero_le _) rfl)) ⟨rfl, rfl⟩
  (try conv => whnf); repeat ((first | refine And.intro (show cellsAll _ _ from by repeat (first | exact trivial | refine ⟨⟨rfl, rfl⟩, ?_⟩)) ?_ | refine ⟨_, getZ (by omega), ?_⟩ | refine ⟨_, getI (by omega) (by omega), ?_⟩ | refine ⟨by omega, rfl, ?_⟩ | refine ⟨by (simp; omega), rfl, ?_⟩ | refine ⟨rfl, _, rfl, ⟨rfl, rfl, by decide⟩, ?_⟩ | refine ⟨rfl, _, rfl, ?_⟩ | refine ⟨rfl, _, getO (by omega), ?_⟩ | refine ⟨rfl, ⟨by omega, by omega, by omega⟩, ?_⟩ | refine ⟨⟨rfl, rfl⟩, ?_⟩ | refine ⟨⟨rfl, rfl, rfl⟩, ?_⟩ | refine ⟨⟨rfl, rfl, by decide⟩, ?_⟩ | refine ⟨rfl, ?_⟩ | refine ⟨⟨by omega, by omega⟩, ⟨rfl, rfl⟩, ?_⟩ | refine ⟨in64 (by omega) (by omega), ?_⟩ | refine Br.dec (fun _ => ?_) (fun hh => absurd (by omega) hh) | refine Br.dec (fun hh => absurd hh (by omega)) (fun _ => ?_) | refine Br.eq (fun _ => ?_) (fun hh => absurd (by omega) hh) | refine Br.eq (fun hh => absurd hh (by omega)) (fun _ => ?_) | refine Br.ne (fun _ => ?_) (fun hh => absurd (by omega) hh) | refine Br.ne (fun hh => absurd hh (by omega)) (fun _ => ?_) | refine ⟨_, rfl, ?_⟩ | rw [← List.map_drop, ← List.map_take]); conv => whnf)
  refine ACalls.fl (c_shelf_own l (by omega) (bnd_w hb)) [] rfl rfl rfl flatH.nil (by rintro r h ⟨g, _, rfl⟩; exact flatH.cons Blk.lt_g flatH.nil) ?_
  rintro r h ⟨g, rfl, rfl⟩
  cases hmay : mayH l <;> rw [hmay] at m1
  · (try conv => whnf); repeat ((first | refine (m1).go rfl ?_ | refine ⟨_, (m1).go rfl ⟨rfl, rfl⟩, ?_⟩ | refine And.intro (show cellsAll _ _ from by repeat (first | exact trivial | refine ⟨⟨rfl, rfl⟩, ?_⟩)) ?_ | refine ⟨_, getZ (by omega), ?_⟩ | refine ⟨_, getI (by omega) (by omega), ?_⟩ | refine ⟨by omega, rfl, ?_⟩ | refine ⟨by (simp; omega), rfl, ?_⟩ | refine ⟨rfl, _, rfl, ⟨rfl, rfl, by decide⟩, ?_⟩ | refine ⟨rfl, _, rfl, ?_⟩ | refine ⟨rfl, _, getO (by omega), ?_⟩ | refine ⟨rfl, ⟨by omega, by omega, by omega⟩, ?_⟩ | refine ⟨⟨rfl, rfl⟩, ?_⟩ | refine ⟨⟨rfl, rfl, rfl⟩, ?_⟩ | refine ⟨⟨rfl, rfl, by decide⟩, ?_⟩ | refine ⟨rfl, ?_⟩ | refine ⟨⟨by omega, by omega⟩, ⟨rfl, rfl⟩, ?_⟩ | refine ⟨in64 (by omega) (by omega), ?_⟩ | refine Br.dec (fun _ => ?_) (fun hh => absurd (by omega) hh) | refine Br.dec (fun hh => absurd hh (by omega)) (fun _ => ?_) | refine Br.eq (fun _ => ?_) (fun hh => absurd (by omega) hh) | refine Br.eq (fun hh => absurd hh (by omega)) (fun _ => ?_) | refine Br.ne (fun _ => ?_) (fun hh => absurd (by omega) hh) | refine Br.ne (fun hh => absurd hh (by omega)) (fun _ => ?_) | refine ⟨_, rfl, ?_⟩ | rw [← List.map_drop, ← List.map_take]); conv => whnf)
    exact ⟨fin 1 l (by rw [putH, hmay]; rfl) _ 1 g _ rfl⟩
  cases hfit : mayC c <;> rw [hfit] at f1
  · (try conv => whnf); repeat ((first | refine (m1).go rfl ?_ | refine ⟨_, (m1).go rfl ⟨rfl, rfl⟩, ?_⟩ | refine (f1).go rfl ?_ | refine ⟨_, (f1).go rfl ⟨rfl, rfl⟩, ?_⟩ | refine And.intro (show cellsAll _ _ from by repeat (first | exact trivial | refine ⟨⟨rfl, rfl⟩, ?_⟩)) ?_ | refine ⟨_, getZ (by omega), ?_⟩ | refine ⟨_, getI (by omega) (by omega), ?_⟩ | refine ⟨by omega, rfl, ?_⟩ | refine ⟨by (simp; omega), rfl, ?_⟩ | refine ⟨rfl, _, rfl, ⟨rfl, rfl, by decide⟩, ?_⟩ | refine ⟨rfl, _, rfl, ?_⟩ | refine ⟨rfl, _, getO (by omega), ?_⟩ | refine ⟨rfl, ⟨by omega, by omega, by omega⟩, ?_⟩ | refine ⟨⟨rfl, rfl⟩, ?_⟩ | refine ⟨⟨rfl, rfl, rfl⟩, ?_⟩ | refine ⟨⟨rfl, rfl, by decide⟩, ?_⟩ | refine ⟨rfl, ?_⟩ | refine ⟨⟨by omega, by omega⟩, ⟨rfl, rfl⟩, ?_⟩ | refine ⟨in64 (by omega) (by omega), ?_⟩ | refine Br.dec (fun _ => ?_) (fun hh => absurd (by omega) hh) | refine Br.dec (fun hh => absurd hh (by omega)) (fun _ => ?_) | refine Br.eq (fun _ => ?_) (fun hh => absurd (by omega) hh) | refine Br.eq (fun hh => absurd hh (by omega)) (fun _ => ?_) | refine Br.ne (fun _ => ?_) (fun hh => absurd (by omega) hh) | refine Br.ne (fun hh => absurd hh (by omega)) (fun _ => ?_) | refine ⟨_, rfl, ?_⟩ | rw [← List.map_drop, ← List.map_take]); conv => whnf)
    exact ⟨fin 1 l (by rw [putH, hmay, hfit]; rfl) _ 1 g _ rfl⟩
  have hs := (mayH_iff.1 hmay).2.2
  have hput : putH l c = if l.length = 1100 ∧ hasI l c.id = false then (l, 4) else (withI (withO l c.id) c, 0) := by rw [putH, if_neg (by rw [hmay, hfit]; simp)]
  (try conv => whnf); repeat ((first | refine (m1).go rfl ?_ | refine ⟨_, (m1).go rfl ⟨rfl, rfl⟩, ?_⟩ | refine (f1).go rfl ?_ | refine ⟨_, (f1).go rfl ⟨rfl, rfl⟩, ?_⟩ | refine (w1).go rfl ?_ | refine ⟨_, (w1).go rfl ⟨rfl, rfl⟩, ?_⟩ | refine And.intro (show cellsAll _ _ from by repeat (first | exact trivial | refine ⟨⟨rfl, rfl⟩, ?_⟩)) ?_ | refine ⟨_, getZ (by omega), ?_⟩ | refine ⟨_, getI (by omega) (by omega), ?_⟩ | refine ⟨by omega, rfl, ?_⟩ | refine ⟨by (simp; omega), rfl, ?_⟩ | refine ⟨rfl, _, rfl, ⟨rfl, rfl, by decide⟩, ?_⟩ | refine ⟨rfl, _, rfl, ?_⟩ | refine ⟨rfl, _, getO (by omega), ?_⟩ | refine ⟨rfl, ⟨by omega, by omega, by omega⟩, ?_⟩ | refine ⟨⟨rfl, rfl⟩, ?_⟩ | refine ⟨⟨rfl, rfl, rfl⟩, ?_⟩ | refine ⟨⟨rfl, rfl, by decide⟩, ?_⟩ | refine ⟨rfl, ?_⟩ | refine ⟨⟨by omega, by omega⟩, ⟨rfl, rfl⟩, ?_⟩ | refine ⟨in64 (by omega) (by omega), ?_⟩ | refine Br.dec (fun _ => ?_) (fun hh => absurd (by omega) hh) | refine Br.dec (fun hh => absurd hh (by omega)) (fun _ => ?_) | refine Br.eq (fun _ => ?_) (fun hh => absurd (by omega) hh) | refine Br.eq (fun hh => absurd hh (by omega)) (fun _ => ?_) | refine Br.ne (fun _ => ?_) (fun hh => absurd (by omega) hh) | refine Br.ne (fun hh => absurd hh (by omega)) (fun _ => ?_) | refine ⟨_, rfl, ?_⟩ | rw [← List.map_drop, ← List.map_take]); conv => whnf)
  refine ACalls.fl (c_shelf_place l c.id (by omega)) [] rfl rfl rfl flatH.nil (by rintro r h ⟨_, rfl⟩; exact flatH.nil) ?_
  rintro r h ⟨⟨i, b, rfl, hp⟩, rfl⟩
  obtain ⟨hhas, _⟩ := plc_find hp hmay
  obtain ⟨p1, p2, p3, p4⟩ := hp
  obtain ⟨s1, s2⟩ := p2 hs
  cases b
  · (try conv => whnf); repeat ((first | refine And.intro (show cellsAll _ _ from by repeat (first | exact trivial | refine ⟨⟨rfl, rfl⟩, ?_⟩)) ?_ | refine ⟨_, getZ (by omega), ?_⟩ | refine ⟨_, getI (by omega) (by omega), ?_⟩ | refine ⟨by omega, rfl, ?_⟩ | refine ⟨by (simp; omega), rfl, ?_⟩ | refine ⟨rfl, _, rfl, ⟨rfl, rfl, by decide⟩, ?_⟩ | refine ⟨rfl, _, rfl, ?_⟩ | refine ⟨rfl, _, getO (by omega), ?_⟩ | refine ⟨rfl, ⟨by omega, by omega, by omega⟩, ?_⟩ | refine ⟨⟨rfl, rfl⟩, ?_⟩ | refine ⟨⟨rfl, rfl, rfl⟩, ?_⟩ | refine ⟨⟨rfl, rfl, by decide⟩, ?_⟩ | refine ⟨rfl, ?_⟩ | refine ⟨⟨by omega, by omega⟩, ⟨rfl, rfl⟩, ?_⟩ | refine ⟨in64 (by omega) (by omega), ?_⟩ | refine Br.dec (fun _ => ?_) (fun hh => absurd (by omega) hh) | refine Br.dec (fun hh => absurd hh (by omega)) (fun _ => ?_) | refine Br.eq (fun _ => ?_) (fun hh => absurd (by omega) hh) | refine Br.eq (fun hh => absurd hh (by omega)) (fun _ => ?_) | refine Br.ne (fun _ => ?_) (fun hh => absurd (by omega) hh) | refine Br.ne (fun hh => absurd hh (by omega)) (fun _ => ?_) | refine ⟨_, rfl, ?_⟩ | rw [← List.map_drop, ← List.map_take]); conv => whnf)
    refine Br.eq (fun h1 => ?_) (fun h1 => ?_)
    · (try conv => whnf); repeat ((first | refine And.intro (show cellsAll _ _ from by repeat (first | exact trivial | refine ⟨⟨rfl, rfl⟩, ?_⟩)) ?_ | refine ⟨_, getZ (by omega), ?_⟩ | refine ⟨_, getI (by omega) (by omega), ?_⟩ | refine ⟨by omega, rfl, ?_⟩ | refine ⟨by (simp; omega), rfl, ?_⟩ | refine ⟨rfl, _, rfl, ⟨rfl, rfl, by decide⟩, ?_⟩ | refine ⟨rfl, _, rfl, ?_⟩ | refine ⟨rfl, _, getO (by omega), ?_⟩ | refine ⟨rfl, ⟨by omega, by omega, by omega⟩, ?_⟩ | refine ⟨⟨rfl, rfl⟩, ?_⟩ | refine ⟨⟨rfl, rfl, rfl⟩, ?_⟩ | refine ⟨⟨rfl, rfl, by decide⟩, ?_⟩ | refine ⟨rfl, ?_⟩ | refine ⟨⟨by omega, by omega⟩, ⟨rfl, rfl⟩, ?_⟩ | refine ⟨in64 (by omega) (by omega), ?_⟩ | refine Br.dec (fun _ => ?_) (fun hh => absurd (by omega) hh) | refine Br.dec (fun hh => absurd hh (by omega)) (fun _ => ?_) | refine Br.eq (fun _ => ?_) (fun hh => absurd (by omega) hh) | refine Br.eq (fun hh => absurd hh (by omega)) (fun _ => ?_) | refine Br.ne (fun _ => ?_) (fun hh => absurd (by omega) hh) | refine Br.ne (fun hh => absurd hh (by omega)) (fun _ => ?_) | refine ⟨_, rfl, ?_⟩ | rw [← List.map_drop, ← List.map_take]); conv => whnf)
      exact ⟨fin 4 l (by rw [hput, if_pos ⟨by omega, hhas⟩]) _ 1 g _ rfl⟩
    · rw [if_neg (fun e => h1 (by omega)), put_ins hhas p1 s1 s2] at hput
      (try conv => whnf); repeat ((first | refine And.intro (show cellsAll _ _ from by repeat (first | exact trivial | refine ⟨⟨rfl, rfl⟩, ?_⟩)) ?_ | refine ⟨_, getZ (by omega), ?_⟩ | refine ⟨_, getI (by omega) (by omega), ?_⟩ | refine ⟨by omega, rfl, ?_⟩ | refine ⟨by (simp; omega), rfl, ?_⟩ | refine ⟨rfl, _, rfl, ⟨rfl, rfl, by decide⟩, ?_⟩ | refine ⟨rfl, _, rfl, ?_⟩ | refine ⟨rfl, _, getO (by omega), ?_⟩ | refine ⟨rfl, ⟨by omega, by omega, by omega⟩, ?_⟩ | refine ⟨⟨rfl, rfl⟩, ?_⟩ | refine ⟨⟨rfl, rfl, rfl⟩, ?_⟩ | refine ⟨⟨rfl, rfl, by decide⟩, ?_⟩ | refine ⟨rfl, ?_⟩ | refine ⟨⟨by omega, by omega⟩, ⟨rfl, rfl⟩, ?_⟩ | refine ⟨in64 (by omega) (by omega), ?_⟩ | refine Br.dec (fun _ => ?_) (fun hh => absurd (by omega) hh) | refine Br.dec (fun hh => absurd hh (by omega)) (fun _ => ?_) | refine Br.eq (fun _ => ?_) (fun hh => absurd (by omega) hh) | refine Br.eq (fun hh => absurd hh (by omega)) (fun _ => ?_) | refine Br.ne (fun _ => ?_) (fun hh => absurd (by omega) hh) | refine Br.ne (fun hh => absurd hh (by omega)) (fun _ => ?_) | refine ⟨_, rfl, ?_⟩ | rw [← List.map_drop, ← List.map_take]); conv => whnf)
      refine ACalls.fl (c_Insert3 g 0 l.length i (vcards l) (V.g (tcard c)) hv (by omega) p1) [1, 2] rfl rfl rfl (flatH.cons Blk.lt_g (flatH.cons Blk.lt_g1 flatH.nil)) (by rintro r h ⟨_, rfl⟩; rw [ins_put]; exact flatH.cons Blk.lt_g (flatH.cons Blk.lt_g1 flatH.nil)) ?_
      rintro r h ⟨rfl, rfl⟩
      rw [ins_put]
      (try conv => whnf); repeat ((first | refine And.intro (show cellsAll _ _ from by repeat (first | exact trivial | refine ⟨⟨rfl, rfl⟩, ?_⟩)) ?_ | refine ⟨_, getZ (by omega), ?_⟩ | refine ⟨_, getI (by omega) (by omega), ?_⟩ | refine ⟨by omega, rfl, ?_⟩ | refine ⟨by (simp; omega), rfl, ?_⟩ | refine ⟨rfl, _, rfl, ⟨rfl, rfl, by decide⟩, ?_⟩ | refine ⟨rfl, _, rfl, ?_⟩ | refine ⟨rfl, _, getO (by omega), ?_⟩ | refine ⟨rfl, ⟨by omega, by omega, by omega⟩, ?_⟩ | refine ⟨⟨rfl, rfl⟩, ?_⟩ | refine ⟨⟨rfl, rfl, rfl⟩, ?_⟩ | refine ⟨⟨rfl, rfl, by decide⟩, ?_⟩ | refine ⟨rfl, ?_⟩ | refine ⟨⟨by omega, by omega⟩, ⟨rfl, rfl⟩, ?_⟩ | refine ⟨in64 (by omega) (by omega), ?_⟩ | refine Br.dec (fun _ => ?_) (fun hh => absurd (by omega) hh) | refine Br.dec (fun hh => absurd hh (by omega)) (fun _ => ?_) | refine Br.eq (fun _ => ?_) (fun hh => absurd (by omega) hh) | refine Br.eq (fun hh => absurd hh (by omega)) (fun _ => ?_) | refine Br.ne (fun _ => ?_) (fun hh => absurd (by omega) hh) | refine Br.ne (fun hh => absurd hh (by omega)) (fun _ => ?_) | refine ⟨_, rfl, ?_⟩ | rw [← List.map_drop, ← List.map_take]); conv => whnf)
      have := fin 0 _ hput (.arr 0 3 [.g (tcard c)]) 1 (g + 1) [.arr (g + 1) 3 (vcards (l.take i ++ c :: l.drop i)), .arr 0 3 [.g (tcard c)]] rfl
      rw [show (l.take i ++ c :: l.drop i).length = l.length + 1 from by simp; omega] at this
      exact ⟨this⟩
  · obtain ⟨hi, e⟩ := p3 rfl
    have gi : (vcards l)[0 + ((i : Nat) : Int).toNat]? = some (V.g (tcard l[i])) := getO (f := fun c => V.g (tcard c)) hi
    rw [if_neg (fun e => by rw [hhas] at e; cases e.2), put_set hs hi e] at hput
    (try conv => whnf); repeat ((first | refine ⟨rfl, _, gi, ⟨rfl, rfl, by decide⟩, ?_⟩ | refine And.intro (show cellsAll _ _ from by repeat (first | exact trivial | refine ⟨⟨rfl, rfl⟩, ?_⟩)) ?_ | refine ⟨_, getZ (by omega), ?_⟩ | refine ⟨_, getI (by omega) (by omega), ?_⟩ | refine ⟨by omega, rfl, ?_⟩ | refine ⟨by (simp; omega), rfl, ?_⟩ | refine ⟨rfl, _, rfl, ⟨rfl, rfl, by decide⟩, ?_⟩ | refine ⟨rfl, _, rfl, ?_⟩ | refine ⟨rfl, _, getO (by omega), ?_⟩ | refine ⟨rfl, ⟨by omega, by omega, by omega⟩, ?_⟩ | refine ⟨⟨rfl, rfl⟩, ?_⟩ | refine ⟨⟨rfl, rfl, rfl⟩, ?_⟩ | refine ⟨⟨rfl, rfl, by decide⟩, ?_⟩ | refine ⟨rfl, ?_⟩ | refine ⟨⟨by omega, by omega⟩, ⟨rfl, rfl⟩, ?_⟩ | refine ⟨in64 (by omega) (by omega), ?_⟩ | refine Br.dec (fun _ => ?_) (fun hh => absurd (by omega) hh) | refine Br.dec (fun hh => absurd hh (by omega)) (fun _ => ?_) | refine Br.eq (fun _ => ?_) (fun hh => absurd (by omega) hh) | refine Br.eq (fun hh => absurd hh (by omega)) (fun _ => ?_) | refine Br.ne (fun _ => ?_) (fun hh => absurd (by omega) hh) | refine Br.ne (fun hh => absurd hh (by omega)) (fun _ => ?_) | refine ⟨_, rfl, ?_⟩ | rw [← List.map_drop, ← List.map_take]); conv => whnf)
    have := fin 0 _ hput (.arr 0 3 [.g (tcard c)]) 1 g [.arr g 3 (vcards (l.set i c))] rfl
    rw [List.length_set, ← set_put l c i hi] at this
    exact ⟨this⟩
theorem c_shelf_Del (l : List Cd) (x : ByteArray) (hb : bndC l) : CV Try.prog 20 [tcards l, .s x] (.tu [.g (tcards (delH l x).1), .g (.b (delH l x).2)]) := by
  refine ⟨k_shelf_Del.calls ?_, V.lt.gs (ts := [_, _])⟩
  have hb1 := hb.1
  have hv : (vcards l).length = l.length := by simp [vcards]
  have f1 := c_shelf_Find l x (by omega) fun d hd => bnd_one hb hd
  have fin : ∀ (q : Bool) (l' : List Cd), delH l x = (l', q) → ∀ (g : Nat), Ends [] (fun r h => r = V.tu [.g (tcards (delH l x).1), .g (.b (delH l x).2)] ∧ h = []) (V.tu [.own 0 g 0 l'.length, .g (.b q)]) [.arr g 3 (vcards l')] := fun q l' e g => by
    rw [e]
    exact Ends.grounds (H := []) (L := [_]) 1 (ts := [tcards l', .b q]) (gr_two (gr_vcards rfl (Nat.zero_le _) rfl)) ⟨rfl, rfl⟩
  rcases findH_cases l x with ⟨i, hi, e1, e2, hmay⟩ | ⟨e1, e2⟩
  · have hs := (mayH_iff.1 hmay).2.2
    rw [e1] at f1
    (try conv => whnf); repeat ((first | refine (f1).go rfl ?_ | refine ⟨_, (f1).go rfl ⟨rfl, rfl⟩, ?_⟩ | refine And.intro (show cellsAll _ _ from by repeat (first | exact trivial | refine ⟨⟨rfl, rfl⟩, ?_⟩)) ?_ | refine ⟨_, getZ (by omega), ?_⟩ | refine ⟨_, getI (by omega) (by omega), ?_⟩ | refine ⟨by omega, rfl, ?_⟩ | refine ⟨by (simp; omega), rfl, ?_⟩ | refine ⟨rfl, _, rfl, ⟨rfl, rfl, by decide⟩, ?_⟩ | refine ⟨rfl, _, rfl, ?_⟩ | refine ⟨rfl, _, getO (by omega), ?_⟩ | refine ⟨rfl, ⟨by omega, by omega, by omega⟩, ?_⟩ | refine ⟨⟨rfl, rfl⟩, ?_⟩ | refine ⟨⟨rfl, rfl, rfl⟩, ?_⟩ | refine ⟨⟨rfl, rfl, by decide⟩, ?_⟩ | refine ⟨rfl, ?_⟩ | refine ⟨⟨by omega, by omega⟩, ⟨rfl, rfl⟩, ?_⟩ | refine ⟨in64 (by omega) (by omega), ?_⟩ | refine Br.dec (fun _ => ?_) (fun hh => absurd (by omega) hh) | refine Br.dec (fun hh => absurd hh (by omega)) (fun _ => ?_) | refine Br.eq (fun _ => ?_) (fun hh => absurd (by omega) hh) | refine Br.eq (fun hh => absurd hh (by omega)) (fun _ => ?_) | refine Br.ne (fun _ => ?_) (fun hh => absurd (by omega) hh) | refine Br.ne (fun hh => absurd hh (by omega)) (fun _ => ?_) | refine ⟨_, rfl, ?_⟩ | rw [← List.map_drop, ← List.map_take]); conv => whnf)
    refine (c_shelf_own l (by omega) (bnd_w hb)).mono ?_
    rintro r h ⟨g, rfl, rfl⟩
    (try conv => whnf); repeat ((first | refine And.intro (show cellsAll _ _ from by repeat (first | exact trivial | refine ⟨⟨rfl, rfl⟩, ?_⟩)) ?_ | refine ⟨_, getZ (by omega), ?_⟩ | refine ⟨_, getI (by omega) (by omega), ?_⟩ | refine ⟨by omega, rfl, ?_⟩ | refine ⟨by (simp; omega), rfl, ?_⟩ | refine ⟨rfl, _, rfl, ⟨rfl, rfl, by decide⟩, ?_⟩ | refine ⟨rfl, _, rfl, ?_⟩ | refine ⟨rfl, _, getO (by omega), ?_⟩ | refine ⟨rfl, ⟨by omega, by omega, by omega⟩, ?_⟩ | refine ⟨⟨rfl, rfl⟩, ?_⟩ | refine ⟨⟨rfl, rfl, rfl⟩, ?_⟩ | refine ⟨⟨rfl, rfl, by decide⟩, ?_⟩ | refine ⟨rfl, ?_⟩ | refine ⟨⟨by omega, by omega⟩, ⟨rfl, rfl⟩, ?_⟩ | refine ⟨in64 (by omega) (by omega), ?_⟩ | refine Br.dec (fun _ => ?_) (fun hh => absurd (by omega) hh) | refine Br.dec (fun hh => absurd hh (by omega)) (fun _ => ?_) | refine Br.eq (fun _ => ?_) (fun hh => absurd (by omega) hh) | refine Br.eq (fun hh => absurd hh (by omega)) (fun _ => ?_) | refine Br.ne (fun _ => ?_) (fun hh => absurd (by omega) hh) | refine Br.ne (fun hh => absurd hh (by omega)) (fun _ => ?_) | refine ⟨_, rfl, ?_⟩ | rw [← List.map_drop, ← List.map_take]); conv => whnf)
    refine (c_Delete3 g l.length i (vcards l) hv (by omega) hi).mono ?_
    rintro r h ⟨rfl, rfl⟩
    rw [del_put]
    (try conv => whnf); repeat ((first | refine And.intro (show cellsAll _ _ from by repeat (first | exact trivial | refine ⟨⟨rfl, rfl⟩, ?_⟩)) ?_ | refine ⟨_, getZ (by omega), ?_⟩ | refine ⟨_, getI (by omega) (by omega), ?_⟩ | refine ⟨by omega, rfl, ?_⟩ | refine ⟨by (simp; omega), rfl, ?_⟩ | refine ⟨rfl, _, rfl, ⟨rfl, rfl, by decide⟩, ?_⟩ | refine ⟨rfl, _, rfl, ?_⟩ | refine ⟨rfl, _, getO (by omega), ?_⟩ | refine ⟨rfl, ⟨by omega, by omega, by omega⟩, ?_⟩ | refine ⟨⟨rfl, rfl⟩, ?_⟩ | refine ⟨⟨rfl, rfl, rfl⟩, ?_⟩ | refine ⟨⟨rfl, rfl, by decide⟩, ?_⟩ | refine ⟨rfl, ?_⟩ | refine ⟨⟨by omega, by omega⟩, ⟨rfl, rfl⟩, ?_⟩ | refine ⟨in64 (by omega) (by omega), ?_⟩ | refine Br.dec (fun _ => ?_) (fun hh => absurd (by omega) hh) | refine Br.dec (fun hh => absurd hh (by omega)) (fun _ => ?_) | refine Br.eq (fun _ => ?_) (fun hh => absurd (by omega) hh) | refine Br.eq (fun hh => absurd hh (by omega)) (fun _ => ?_) | refine Br.ne (fun _ => ?_) (fun hh => absurd (by omega) hh) | refine Br.ne (fun hh => absurd hh (by omega)) (fun _ => ?_) | refine ⟨_, rfl, ?_⟩ | rw [← List.map_drop, ← List.map_take]); conv => whnf)
    have hd : delH l x = (l.take i ++ l.drop (i + 1), true) := by
      rw [delH, if_pos ⟨hmay, hasI_iff.2 ⟨_, List.getElem_mem hi, e2⟩⟩, ← e2, withO_at hs hi]
    have := fin true _ hd (g + 1)
    rw [show (l.take i ++ l.drop (i + 1)).length = l.length - 1 from by simp; omega] at this
    exact ⟨this⟩
  · rw [e1] at f1
    (try conv => whnf); repeat ((first | refine (f1).go rfl ?_ | refine ⟨_, (f1).go rfl ⟨rfl, rfl⟩, ?_⟩ | refine And.intro (show cellsAll _ _ from by repeat (first | exact trivial | refine ⟨⟨rfl, rfl⟩, ?_⟩)) ?_ | refine ⟨_, getZ (by omega), ?_⟩ | refine ⟨_, getI (by omega) (by omega), ?_⟩ | refine ⟨by omega, rfl, ?_⟩ | refine ⟨by (simp; omega), rfl, ?_⟩ | refine ⟨rfl, _, rfl, ⟨rfl, rfl, by decide⟩, ?_⟩ | refine ⟨rfl, _, rfl, ?_⟩ | refine ⟨rfl, _, getO (by omega), ?_⟩ | refine ⟨rfl, ⟨by omega, by omega, by omega⟩, ?_⟩ | refine ⟨⟨rfl, rfl⟩, ?_⟩ | refine ⟨⟨rfl, rfl, rfl⟩, ?_⟩ | refine ⟨⟨rfl, rfl, by decide⟩, ?_⟩ | refine ⟨rfl, ?_⟩ | refine ⟨⟨by omega, by omega⟩, ⟨rfl, rfl⟩, ?_⟩ | refine ⟨in64 (by omega) (by omega), ?_⟩ | refine Br.dec (fun _ => ?_) (fun hh => absurd (by omega) hh) | refine Br.dec (fun hh => absurd hh (by omega)) (fun _ => ?_) | refine Br.eq (fun _ => ?_) (fun hh => absurd (by omega) hh) | refine Br.eq (fun hh => absurd hh (by omega)) (fun _ => ?_) | refine Br.ne (fun _ => ?_) (fun hh => absurd (by omega) hh) | refine Br.ne (fun hh => absurd hh (by omega)) (fun _ => ?_) | refine ⟨_, rfl, ?_⟩ | rw [← List.map_drop, ← List.map_take]); conv => whnf)
    refine (c_shelf_own l (by omega) (bnd_w hb)).mono ?_
    rintro r h ⟨g, rfl, rfl⟩
    (try conv => whnf); repeat ((first | refine And.intro (show cellsAll _ _ from by repeat (first | exact trivial | refine ⟨⟨rfl, rfl⟩, ?_⟩)) ?_ | refine ⟨_, getZ (by omega), ?_⟩ | refine ⟨_, getI (by omega) (by omega), ?_⟩ | refine ⟨by omega, rfl, ?_⟩ | refine ⟨by (simp; omega), rfl, ?_⟩ | refine ⟨rfl, _, rfl, ⟨rfl, rfl, by decide⟩, ?_⟩ | refine ⟨rfl, _, rfl, ?_⟩ | refine ⟨rfl, _, getO (by omega), ?_⟩ | refine ⟨rfl, ⟨by omega, by omega, by omega⟩, ?_⟩ | refine ⟨⟨rfl, rfl⟩, ?_⟩ | refine ⟨⟨rfl, rfl, rfl⟩, ?_⟩ | refine ⟨⟨rfl, rfl, by decide⟩, ?_⟩ | refine ⟨rfl, ?_⟩ | refine ⟨⟨by omega, by omega⟩, ⟨rfl, rfl⟩, ?_⟩ | refine ⟨in64 (by omega) (by omega), ?_⟩ | refine Br.dec (fun _ => ?_) (fun hh => absurd (by omega) hh) | refine Br.dec (fun hh => absurd hh (by omega)) (fun _ => ?_) | refine Br.eq (fun _ => ?_) (fun hh => absurd (by omega) hh) | refine Br.eq (fun hh => absurd hh (by omega)) (fun _ => ?_) | refine Br.ne (fun _ => ?_) (fun hh => absurd (by omega) hh) | refine Br.ne (fun hh => absurd hh (by omega)) (fun _ => ?_) | refine ⟨_, rfl, ?_⟩ | rw [← List.map_drop, ← List.map_take]); conv => whnf)
    refine ⟨fin false l ?_ g⟩
    rw [delH, if_neg]
    rintro ⟨h1, h2⟩
    rw [e2 h1] at h2; cases h2
def cfK (a b : Cd) : Int := if befC a b = true then -1 else 1
theorem ltC_cfK : ltC cfK = befC := by
  funext a b
  unfold ltC cfK
  cases befC a b <;> rfl
theorem c_shelf_ByKeyS1 (a b : Cd) : CG Try.prog 40 [tcard a, tcard b] (.i (cfK a b)) := by
  refine ⟨k_shelf_ByKeyS1.calls ?_⟩
  (try conv => whnf); repeat ((first | refine (c_seg_Before a b).go rfl ?_ | refine ⟨_, (c_seg_Before a b).go rfl ⟨rfl, rfl⟩, ?_⟩ | refine And.intro (show cellsAll _ _ from by repeat (first | exact trivial | refine ⟨⟨rfl, rfl⟩, ?_⟩)) ?_ | refine ⟨_, getZ (by omega), ?_⟩ | refine ⟨_, getI (by omega) (by omega), ?_⟩ | refine ⟨by omega, rfl, ?_⟩ | refine ⟨by (simp; omega), rfl, ?_⟩ | refine ⟨rfl, _, rfl, ⟨rfl, rfl, by decide⟩, ?_⟩ | refine ⟨rfl, _, rfl, ?_⟩ | refine ⟨rfl, _, getO (by omega), ?_⟩ | refine ⟨rfl, ⟨by omega, by omega, by omega⟩, ?_⟩ | refine ⟨⟨rfl, rfl⟩, ?_⟩ | refine ⟨⟨rfl, rfl, rfl⟩, ?_⟩ | refine ⟨⟨rfl, rfl, by decide⟩, ?_⟩ | refine ⟨rfl, ?_⟩ | refine ⟨⟨by omega, by omega⟩, ⟨rfl, rfl⟩, ?_⟩ | refine ⟨in64 (by omega) (by omega), ?_⟩ | refine Br.dec (fun _ => ?_) (fun hh => absurd (by omega) hh) | refine Br.dec (fun hh => absurd hh (by omega)) (fun _ => ?_) | refine Br.eq (fun _ => ?_) (fun hh => absurd (by omega) hh) | refine Br.eq (fun hh => absurd hh (by omega)) (fun _ => ?_) | refine Br.ne (fun _ => ?_) (fun hh => absurd (by omega) hh) | refine Br.ne (fun hh => absurd hh (by omega)) (fun _ => ?_) | refine ⟨_, rfl, ?_⟩ | rw [← List.map_drop, ← List.map_take]); conv => whnf)
  refine Br.intro (fun h => ?_) (fun h => ?_)
  · (try conv => whnf); repeat ((first | refine And.intro (show cellsAll _ _ from by repeat (first | exact trivial | refine ⟨⟨rfl, rfl⟩, ?_⟩)) ?_ | refine ⟨_, getZ (by omega), ?_⟩ | refine ⟨_, getI (by omega) (by omega), ?_⟩ | refine ⟨by omega, rfl, ?_⟩ | refine ⟨by (simp; omega), rfl, ?_⟩ | refine ⟨rfl, _, rfl, ⟨rfl, rfl, by decide⟩, ?_⟩ | refine ⟨rfl, _, rfl, ?_⟩ | refine ⟨rfl, _, getO (by omega), ?_⟩ | refine ⟨rfl, ⟨by omega, by omega, by omega⟩, ?_⟩ | refine ⟨⟨rfl, rfl⟩, ?_⟩ | refine ⟨⟨rfl, rfl, rfl⟩, ?_⟩ | refine ⟨⟨rfl, rfl, by decide⟩, ?_⟩ | refine ⟨rfl, ?_⟩ | refine ⟨⟨by omega, by omega⟩, ⟨rfl, rfl⟩, ?_⟩ | refine ⟨in64 (by omega) (by omega), ?_⟩ | refine Br.dec (fun _ => ?_) (fun hh => absurd (by omega) hh) | refine Br.dec (fun hh => absurd hh (by omega)) (fun _ => ?_) | refine Br.eq (fun _ => ?_) (fun hh => absurd (by omega) hh) | refine Br.eq (fun hh => absurd hh (by omega)) (fun _ => ?_) | refine Br.ne (fun _ => ?_) (fun hh => absurd (by omega) hh) | refine Br.ne (fun hh => absurd hh (by omega)) (fun _ => ?_) | refine ⟨_, rfl, ?_⟩ | rw [← List.map_drop, ← List.map_take]); conv => whnf)
    rw [cfK, if_pos h]
    exact ⟨Ends.ground (H := []) (L := [_, _]) 0 rfl ⟨rfl, rfl⟩⟩
  · (try conv => whnf); repeat ((first | refine And.intro (show cellsAll _ _ from by repeat (first | exact trivial | refine ⟨⟨rfl, rfl⟩, ?_⟩)) ?_ | refine ⟨_, getZ (by omega), ?_⟩ | refine ⟨_, getI (by omega) (by omega), ?_⟩ | refine ⟨by omega, rfl, ?_⟩ | refine ⟨by (simp; omega), rfl, ?_⟩ | refine ⟨rfl, _, rfl, ⟨rfl, rfl, by decide⟩, ?_⟩ | refine ⟨rfl, _, rfl, ?_⟩ | refine ⟨rfl, _, getO (by omega), ?_⟩ | refine ⟨rfl, ⟨by omega, by omega, by omega⟩, ?_⟩ | refine ⟨⟨rfl, rfl⟩, ?_⟩ | refine ⟨⟨rfl, rfl, rfl⟩, ?_⟩ | refine ⟨⟨rfl, rfl, by decide⟩, ?_⟩ | refine ⟨rfl, ?_⟩ | refine ⟨⟨by omega, by omega⟩, ⟨rfl, rfl⟩, ?_⟩ | refine ⟨in64 (by omega) (by omega), ?_⟩ | refine Br.dec (fun _ => ?_) (fun hh => absurd (by omega) hh) | refine Br.dec (fun hh => absurd hh (by omega)) (fun _ => ?_) | refine Br.eq (fun _ => ?_) (fun hh => absurd (by omega) hh) | refine Br.eq (fun hh => absurd hh (by omega)) (fun _ => ?_) | refine Br.ne (fun _ => ?_) (fun hh => absurd (by omega) hh) | refine Br.ne (fun hh => absurd hh (by omega)) (fun _ => ?_) | refine ⟨_, rfl, ?_⟩ | rw [← List.map_drop, ← List.map_take]); conv => whnf)
    rw [cfK, if_neg (by rw [h]; simp)]
    exact ⟨Ends.ground (H := []) (L := [_, _]) 0 rfl ⟨rfl, rfl⟩⟩
theorem c_shelf_ByKey (l : List Cd) (hb : bndC l) : CG Try.prog 22 [tcards l] (tcards (keyH l)) := by
  refine ⟨k_shelf_ByKey.calls ?_⟩
  have hb1 := hb.1
  have m1 := c_shelf_May l (by omega) fun d hd => bnd_one hb hd
  cases hmay : mayH l <;> rw [hmay] at m1
  · rw [keyH, if_neg (by rw [hmay]; simp)]
    (try conv => whnf); repeat ((first | refine (m1).go rfl ?_ | refine ⟨_, (m1).go rfl ⟨rfl, rfl⟩, ?_⟩ | refine And.intro (show cellsAll _ _ from by repeat (first | exact trivial | refine ⟨⟨rfl, rfl⟩, ?_⟩)) ?_ | refine ⟨_, getZ (by omega), ?_⟩ | refine ⟨_, getI (by omega) (by omega), ?_⟩ | refine ⟨by omega, rfl, ?_⟩ | refine ⟨by (simp; omega), rfl, ?_⟩ | refine ⟨rfl, _, rfl, ⟨rfl, rfl, by decide⟩, ?_⟩ | refine ⟨rfl, _, rfl, ?_⟩ | refine ⟨rfl, _, getO (by omega), ?_⟩ | refine ⟨rfl, ⟨by omega, by omega, by omega⟩, ?_⟩ | refine ⟨⟨rfl, rfl⟩, ?_⟩ | refine ⟨⟨rfl, rfl, rfl⟩, ?_⟩ | refine ⟨⟨rfl, rfl, by decide⟩, ?_⟩ | refine ⟨rfl, ?_⟩ | refine ⟨⟨by omega, by omega⟩, ⟨rfl, rfl⟩, ?_⟩ | refine ⟨in64 (by omega) (by omega), ?_⟩ | refine Br.dec (fun _ => ?_) (fun hh => absurd (by omega) hh) | refine Br.dec (fun hh => absurd hh (by omega)) (fun _ => ?_) | refine Br.eq (fun _ => ?_) (fun hh => absurd (by omega) hh) | refine Br.eq (fun hh => absurd hh (by omega)) (fun _ => ?_) | refine Br.ne (fun _ => ?_) (fun hh => absurd (by omega) hh) | refine Br.ne (fun hh => absurd hh (by omega)) (fun _ => ?_) | refine ⟨_, rfl, ?_⟩ | rw [← List.map_drop, ← List.map_take]); conv => whnf)
    exact ⟨Ends.ground (H := []) (L := []) (t := tcards []) 0 rfl ⟨rfl, rfl⟩⟩
  · rw [keyH, if_pos hmay]
    (try conv => whnf); repeat ((first | refine (m1).go rfl ?_ | refine ⟨_, (m1).go rfl ⟨rfl, rfl⟩, ?_⟩ | refine And.intro (show cellsAll _ _ from by repeat (first | exact trivial | refine ⟨⟨rfl, rfl⟩, ?_⟩)) ?_ | refine ⟨_, getZ (by omega), ?_⟩ | refine ⟨_, getI (by omega) (by omega), ?_⟩ | refine ⟨by omega, rfl, ?_⟩ | refine ⟨by (simp; omega), rfl, ?_⟩ | refine ⟨rfl, _, rfl, ⟨rfl, rfl, by decide⟩, ?_⟩ | refine ⟨rfl, _, rfl, ?_⟩ | refine ⟨rfl, _, getO (by omega), ?_⟩ | refine ⟨rfl, ⟨by omega, by omega, by omega⟩, ?_⟩ | refine ⟨⟨rfl, rfl⟩, ?_⟩ | refine ⟨⟨rfl, rfl, rfl⟩, ?_⟩ | refine ⟨⟨rfl, rfl, by decide⟩, ?_⟩ | refine ⟨rfl, ?_⟩ | refine ⟨⟨by omega, by omega⟩, ⟨rfl, rfl⟩, ?_⟩ | refine ⟨in64 (by omega) (by omega), ?_⟩ | refine Br.dec (fun _ => ?_) (fun hh => absurd (by omega) hh) | refine Br.dec (fun hh => absurd hh (by omega)) (fun _ => ?_) | refine Br.eq (fun _ => ?_) (fun hh => absurd (by omega) hh) | refine Br.eq (fun hh => absurd hh (by omega)) (fun _ => ?_) | refine Br.ne (fun _ => ?_) (fun hh => absurd (by omega) hh) | refine Br.ne (fun hh => absurd hh (by omega)) (fun _ => ?_) | refine ⟨_, rfl, ?_⟩ | rw [← List.map_drop, ← List.map_take]); conv => whnf)
    refine (c_shelf_own l (by omega) (bnd_w hb)).mono ?_
    rintro r h ⟨g, rfl, rfl⟩
    (try conv => whnf); repeat ((first | refine And.intro (show cellsAll _ _ from by repeat (first | exact trivial | refine ⟨⟨rfl, rfl⟩, ?_⟩)) ?_ | refine ⟨_, getZ (by omega), ?_⟩ | refine ⟨_, getI (by omega) (by omega), ?_⟩ | refine ⟨by omega, rfl, ?_⟩ | refine ⟨by (simp; omega), rfl, ?_⟩ | refine ⟨rfl, _, rfl, ⟨rfl, rfl, by decide⟩, ?_⟩ | refine ⟨rfl, _, rfl, ?_⟩ | refine ⟨rfl, _, getO (by omega), ?_⟩ | refine ⟨rfl, ⟨by omega, by omega, by omega⟩, ?_⟩ | refine ⟨⟨rfl, rfl⟩, ?_⟩ | refine ⟨⟨rfl, rfl, rfl⟩, ?_⟩ | refine ⟨⟨rfl, rfl, by decide⟩, ?_⟩ | refine ⟨rfl, ?_⟩ | refine ⟨⟨by omega, by omega⟩, ⟨rfl, rfl⟩, ?_⟩ | refine ⟨in64 (by omega) (by omega), ?_⟩ | refine Br.dec (fun _ => ?_) (fun hh => absurd (by omega) hh) | refine Br.dec (fun hh => absurd hh (by omega)) (fun _ => ?_) | refine Br.eq (fun _ => ?_) (fun hh => absurd (by omega) hh) | refine Br.eq (fun hh => absurd hh (by omega)) (fun _ => ?_) | refine Br.ne (fun _ => ?_) (fun hh => absurd (by omega) hh) | refine Br.ne (fun hh => absurd hh (by omega)) (fun _ => ?_) | refine ⟨_, rfl, ?_⟩ | rw [← List.map_drop, ← List.map_take]); conv => whnf)
    refine (c_SortStable 40 g cfK c_shelf_ByKeyS1 (by rw [ltC_cfK]; exact swo_befC) l (by omega)).mono ?_
    rintro r h ⟨rfl, l', hp, hs, rfl⟩
    rw [ltC_cfK] at hs
    have e := sort_inC (mayH_iff.1 hmay).2.2.nodup hp (hs.imp fun h => of_decide_eq_false h)
    (try conv => whnf); repeat ((first | refine And.intro (show cellsAll _ _ from by repeat (first | exact trivial | refine ⟨⟨rfl, rfl⟩, ?_⟩)) ?_ | refine ⟨_, getZ (by omega), ?_⟩ | refine ⟨_, getI (by omega) (by omega), ?_⟩ | refine ⟨by omega, rfl, ?_⟩ | refine ⟨by (simp; omega), rfl, ?_⟩ | refine ⟨rfl, _, rfl, ⟨rfl, rfl, by decide⟩, ?_⟩ | refine ⟨rfl, _, rfl, ?_⟩ | refine ⟨rfl, _, getO (by omega), ?_⟩ | refine ⟨rfl, ⟨by omega, by omega, by omega⟩, ?_⟩ | refine ⟨⟨rfl, rfl⟩, ?_⟩ | refine ⟨⟨rfl, rfl, rfl⟩, ?_⟩ | refine ⟨⟨rfl, rfl, by decide⟩, ?_⟩ | refine ⟨rfl, ?_⟩ | refine ⟨⟨by omega, by omega⟩, ⟨rfl, rfl⟩, ?_⟩ | refine ⟨in64 (by omega) (by omega), ?_⟩ | refine Br.dec (fun _ => ?_) (fun hh => absurd (by omega) hh) | refine Br.dec (fun hh => absurd hh (by omega)) (fun _ => ?_) | refine Br.eq (fun _ => ?_) (fun hh => absurd (by omega) hh) | refine Br.eq (fun hh => absurd hh (by omega)) (fun _ => ?_) | refine Br.ne (fun _ => ?_) (fun hh => absurd (by omega) hh) | refine Br.ne (fun hh => absurd hh (by omega)) (fun _ => ?_) | refine ⟨_, rfl, ?_⟩ | rw [← List.map_drop, ← List.map_take]); conv => whnf)
    refine ⟨Ends.ground (H := []) (L := [_]) (t := tcards (inC l)) 1 ?_ ⟨rfl, rfl⟩⟩
    rw [← e]
    exact gr_vcards rfl (Nat.zero_le _) hp.length_eq.symm
theorem c_shelf_SameS1 (a b : Cd) (hl : a.w.length < 9223372036854775807) : CG Try.prog 31 [tcard a, tcard b] (.b (decide (a = b))) := by
  refine ⟨k_shelf_SameS1.calls ?_⟩
  have q1 := c_slices_Equal_str a.w b.w hl
  have e : decide (a = b) = (decide (a.id = b.id) && (decide (a.key = b.key) && decide (a.w = b.w))) := by
    obtain ⟨a1, a2, a3⟩ := a; obtain ⟨b1, b2, b3⟩ := b
    simp only [Cd.mk.injEq, Bool.decide_and]
  rw [e]
  (try conv => whnf); repeat ((first | refine And.intro (show cellsAll _ _ from by repeat (first | exact trivial | refine ⟨⟨rfl, rfl⟩, ?_⟩)) ?_ | refine ⟨_, getZ (by omega), ?_⟩ | refine ⟨_, getI (by omega) (by omega), ?_⟩ | refine ⟨by omega, rfl, ?_⟩ | refine ⟨by (simp; omega), rfl, ?_⟩ | refine ⟨rfl, _, rfl, ⟨rfl, rfl, by decide⟩, ?_⟩ | refine ⟨rfl, _, rfl, ?_⟩ | refine ⟨rfl, _, getO (by omega), ?_⟩ | refine ⟨rfl, ⟨by omega, by omega, by omega⟩, ?_⟩ | refine ⟨⟨rfl, rfl⟩, ?_⟩ | refine ⟨⟨rfl, rfl, rfl⟩, ?_⟩ | refine ⟨⟨rfl, rfl, by decide⟩, ?_⟩ | refine ⟨rfl, ?_⟩ | refine ⟨⟨by omega, by omega⟩, ⟨rfl, rfl⟩, ?_⟩ | refine ⟨in64 (by omega) (by omega), ?_⟩ | refine Br.dec (fun _ => ?_) (fun hh => absurd (by omega) hh) | refine Br.dec (fun hh => absurd hh (by omega)) (fun _ => ?_) | refine Br.eq (fun _ => ?_) (fun hh => absurd (by omega) hh) | refine Br.eq (fun hh => absurd hh (by omega)) (fun _ => ?_) | refine Br.ne (fun _ => ?_) (fun hh => absurd (by omega) hh) | refine Br.ne (fun hh => absurd hh (by omega)) (fun _ => ?_) | refine ⟨_, rfl, ?_⟩ | rw [← List.map_drop, ← List.map_take]); conv => whnf)
  rw [bl_beq]
  refine Br.dec (fun h => ?_) (fun h => ?_)
  · (try conv => whnf); repeat ((first | refine And.intro (show cellsAll _ _ from by repeat (first | exact trivial | refine ⟨⟨rfl, rfl⟩, ?_⟩)) ?_ | refine ⟨_, getZ (by omega), ?_⟩ | refine ⟨_, getI (by omega) (by omega), ?_⟩ | refine ⟨by omega, rfl, ?_⟩ | refine ⟨by (simp; omega), rfl, ?_⟩ | refine ⟨rfl, _, rfl, ⟨rfl, rfl, by decide⟩, ?_⟩ | refine ⟨rfl, _, rfl, ?_⟩ | refine ⟨rfl, _, getO (by omega), ?_⟩ | refine ⟨rfl, ⟨by omega, by omega, by omega⟩, ?_⟩ | refine ⟨⟨rfl, rfl⟩, ?_⟩ | refine ⟨⟨rfl, rfl, rfl⟩, ?_⟩ | refine ⟨⟨rfl, rfl, by decide⟩, ?_⟩ | refine ⟨rfl, ?_⟩ | refine ⟨⟨by omega, by omega⟩, ⟨rfl, rfl⟩, ?_⟩ | refine ⟨in64 (by omega) (by omega), ?_⟩ | refine Br.dec (fun _ => ?_) (fun hh => absurd (by omega) hh) | refine Br.dec (fun hh => absurd hh (by omega)) (fun _ => ?_) | refine Br.eq (fun _ => ?_) (fun hh => absurd (by omega) hh) | refine Br.eq (fun hh => absurd hh (by omega)) (fun _ => ?_) | refine Br.ne (fun _ => ?_) (fun hh => absurd (by omega) hh) | refine Br.ne (fun hh => absurd hh (by omega)) (fun _ => ?_) | refine ⟨_, rfl, ?_⟩ | rw [← List.map_drop, ← List.map_take]); conv => whnf)
    refine Br.eq (fun h2 => ?_) (fun h2 => ?_)
    · (try conv => whnf); repeat ((first | refine (q1).go rfl ?_ | refine ⟨_, (q1).go rfl ⟨rfl, rfl⟩, ?_⟩ | refine And.intro (show cellsAll _ _ from by repeat (first | exact trivial | refine ⟨⟨rfl, rfl⟩, ?_⟩)) ?_ | refine ⟨_, getZ (by omega), ?_⟩ | refine ⟨_, getI (by omega) (by omega), ?_⟩ | refine ⟨by omega, rfl, ?_⟩ | refine ⟨by (simp; omega), rfl, ?_⟩ | refine ⟨rfl, _, rfl, ⟨rfl, rfl, by decide⟩, ?_⟩ | refine ⟨rfl, _, rfl, ?_⟩ | refine ⟨rfl, _, getO (by omega), ?_⟩ | refine ⟨rfl, ⟨by omega, by omega, by omega⟩, ?_⟩ | refine ⟨⟨rfl, rfl⟩, ?_⟩ | refine ⟨⟨rfl, rfl, rfl⟩, ?_⟩ | refine ⟨⟨rfl, rfl, by decide⟩, ?_⟩ | refine ⟨rfl, ?_⟩ | refine ⟨⟨by omega, by omega⟩, ⟨rfl, rfl⟩, ?_⟩ | refine ⟨in64 (by omega) (by omega), ?_⟩ | refine Br.dec (fun _ => ?_) (fun hh => absurd (by omega) hh) | refine Br.dec (fun hh => absurd hh (by omega)) (fun _ => ?_) | refine Br.eq (fun _ => ?_) (fun hh => absurd (by omega) hh) | refine Br.eq (fun hh => absurd hh (by omega)) (fun _ => ?_) | refine Br.ne (fun _ => ?_) (fun hh => absurd (by omega) hh) | refine Br.ne (fun hh => absurd hh (by omega)) (fun _ => ?_) | refine ⟨_, rfl, ?_⟩ | rw [← List.map_drop, ← List.map_take]); conv => whnf)
      rw [decide_eq_true h, decide_eq_true h2, Bool.true_and, Bool.true_and]
      exact ⟨Ends.ground (H := []) (L := [_, _]) 0 rfl ⟨rfl, rfl⟩⟩
    · (try conv => whnf); repeat ((first | refine And.intro (show cellsAll _ _ from by repeat (first | exact trivial | refine ⟨⟨rfl, rfl⟩, ?_⟩)) ?_ | refine ⟨_, getZ (by omega), ?_⟩ | refine ⟨_, getI (by omega) (by omega), ?_⟩ | refine ⟨by omega, rfl, ?_⟩ | refine ⟨by (simp; omega), rfl, ?_⟩ | refine ⟨rfl, _, rfl, ⟨rfl, rfl, by decide⟩, ?_⟩ | refine ⟨rfl, _, rfl, ?_⟩ | refine ⟨rfl, _, getO (by omega), ?_⟩ | refine ⟨rfl, ⟨by omega, by omega, by omega⟩, ?_⟩ | refine ⟨⟨rfl, rfl⟩, ?_⟩ | refine ⟨⟨rfl, rfl, rfl⟩, ?_⟩ | refine ⟨⟨rfl, rfl, by decide⟩, ?_⟩ | refine ⟨rfl, ?_⟩ | refine ⟨⟨by omega, by omega⟩, ⟨rfl, rfl⟩, ?_⟩ | refine ⟨in64 (by omega) (by omega), ?_⟩ | refine Br.dec (fun _ => ?_) (fun hh => absurd (by omega) hh) | refine Br.dec (fun hh => absurd hh (by omega)) (fun _ => ?_) | refine Br.eq (fun _ => ?_) (fun hh => absurd (by omega) hh) | refine Br.eq (fun hh => absurd hh (by omega)) (fun _ => ?_) | refine Br.ne (fun _ => ?_) (fun hh => absurd (by omega) hh) | refine Br.ne (fun hh => absurd hh (by omega)) (fun _ => ?_) | refine ⟨_, rfl, ?_⟩ | rw [← List.map_drop, ← List.map_take]); conv => whnf)
      rw [decide_eq_true h, decide_eq_false h2]
      exact ⟨Ends.ground (H := []) (L := [_, _]) 0 rfl ⟨rfl, rfl⟩⟩
  · (try conv => whnf); repeat ((first | refine And.intro (show cellsAll _ _ from by repeat (first | exact trivial | refine ⟨⟨rfl, rfl⟩, ?_⟩)) ?_ | refine ⟨_, getZ (by omega), ?_⟩ | refine ⟨_, getI (by omega) (by omega), ?_⟩ | refine ⟨by omega, rfl, ?_⟩ | refine ⟨by (simp; omega), rfl, ?_⟩ | refine ⟨rfl, _, rfl, ⟨rfl, rfl, by decide⟩, ?_⟩ | refine ⟨rfl, _, rfl, ?_⟩ | refine ⟨rfl, _, getO (by omega), ?_⟩ | refine ⟨rfl, ⟨by omega, by omega, by omega⟩, ?_⟩ | refine ⟨⟨rfl, rfl⟩, ?_⟩ | refine ⟨⟨rfl, rfl, rfl⟩, ?_⟩ | refine ⟨⟨rfl, rfl, by decide⟩, ?_⟩ | refine ⟨rfl, ?_⟩ | refine ⟨⟨by omega, by omega⟩, ⟨rfl, rfl⟩, ?_⟩ | refine ⟨in64 (by omega) (by omega), ?_⟩ | refine Br.dec (fun _ => ?_) (fun hh => absurd (by omega) hh) | refine Br.dec (fun hh => absurd hh (by omega)) (fun _ => ?_) | refine Br.eq (fun _ => ?_) (fun hh => absurd (by omega) hh) | refine Br.eq (fun hh => absurd hh (by omega)) (fun _ => ?_) | refine Br.ne (fun _ => ?_) (fun hh => absurd (by omega) hh) | refine Br.ne (fun hh => absurd hh (by omega)) (fun _ => ?_) | refine ⟨_, rfl, ?_⟩ | rw [← List.map_drop, ← List.map_take]); conv => whnf)
    rw [decide_eq_false h]
    exact ⟨Ends.ground (H := []) (L := [_, _]) 0 rfl ⟨rfl, rfl⟩⟩
theorem c_EqualFunc_Card (a b : List Cd) (hl : a.length < 1000000000) (hp : ∀ p ∈ a, p.w.length < 1000000000) :
    ACalls Try.prog 30 [cards a, cards b, .fn 31 []] [] (fun r h => r = .g (.b (decide (a = b))) ∧ h = []) := by
  refine k_slices_EqualFunc_LCard_LCard_Card_Card.calls ?_
  have hma : (a.map tcard).length = a.length := by simp
  have hmb : (b.map tcard).length = b.length := by simp
  (try conv => whnf); repeat ((first | refine And.intro (show cellsAll _ _ from by repeat (first | exact trivial | refine ⟨⟨rfl, rfl⟩, ?_⟩)) ?_ | refine ⟨_, getZ (by omega), ?_⟩ | refine ⟨_, getI (by omega) (by omega), ?_⟩ | refine ⟨by omega, rfl, ?_⟩ | refine ⟨by (simp; omega), rfl, ?_⟩ | refine ⟨rfl, _, rfl, ⟨rfl, rfl, by decide⟩, ?_⟩ | refine ⟨rfl, _, rfl, ?_⟩ | refine ⟨rfl, _, getO (by omega), ?_⟩ | refine ⟨rfl, ⟨by omega, by omega, by omega⟩, ?_⟩ | refine ⟨⟨rfl, rfl⟩, ?_⟩ | refine ⟨⟨rfl, rfl, rfl⟩, ?_⟩ | refine ⟨⟨rfl, rfl, by decide⟩, ?_⟩ | refine ⟨rfl, ?_⟩ | refine ⟨⟨by omega, by omega⟩, ⟨rfl, rfl⟩, ?_⟩ | refine ⟨in64 (by omega) (by omega), ?_⟩ | refine Br.dec (fun _ => ?_) (fun hh => absurd (by omega) hh) | refine Br.dec (fun hh => absurd hh (by omega)) (fun _ => ?_) | refine Br.eq (fun _ => ?_) (fun hh => absurd (by omega) hh) | refine Br.eq (fun hh => absurd hh (by omega)) (fun _ => ?_) | refine Br.ne (fun _ => ?_) (fun hh => absurd (by omega) hh) | refine Br.ne (fun hh => absurd hh (by omega)) (fun _ => ?_) | refine ⟨_, rfl, ?_⟩ | rw [← List.map_drop, ← List.map_take]); conv => whnf)
  refine Br.ne (fun h => ?_) (fun h => ?_)
  · (try conv => whnf); repeat ((first | refine And.intro (show cellsAll _ _ from by repeat (first | exact trivial | refine ⟨⟨rfl, rfl⟩, ?_⟩)) ?_ | refine ⟨_, getZ (by omega), ?_⟩ | refine ⟨_, getI (by omega) (by omega), ?_⟩ | refine ⟨by omega, rfl, ?_⟩ | refine ⟨by (simp; omega), rfl, ?_⟩ | refine ⟨rfl, _, rfl, ⟨rfl, rfl, by decide⟩, ?_⟩ | refine ⟨rfl, _, rfl, ?_⟩ | refine ⟨rfl, _, getO (by omega), ?_⟩ | refine ⟨rfl, ⟨by omega, by omega, by omega⟩, ?_⟩ | refine ⟨⟨rfl, rfl⟩, ?_⟩ | refine ⟨⟨rfl, rfl, rfl⟩, ?_⟩ | refine ⟨⟨rfl, rfl, by decide⟩, ?_⟩ | refine ⟨rfl, ?_⟩ | refine ⟨⟨by omega, by omega⟩, ⟨rfl, rfl⟩, ?_⟩ | refine ⟨in64 (by omega) (by omega), ?_⟩ | refine Br.dec (fun _ => ?_) (fun hh => absurd (by omega) hh) | refine Br.dec (fun hh => absurd hh (by omega)) (fun _ => ?_) | refine Br.eq (fun _ => ?_) (fun hh => absurd (by omega) hh) | refine Br.eq (fun hh => absurd hh (by omega)) (fun _ => ?_) | refine Br.ne (fun _ => ?_) (fun hh => absurd (by omega) hh) | refine Br.ne (fun hh => absurd hh (by omega)) (fun _ => ?_) | refine ⟨_, rfl, ?_⟩ | rw [← List.map_drop, ← List.map_take]); conv => whnf)
    rw [decide_eq_false (fun e => h (by subst e; rfl))]
    exact ⟨Ends.ground (H := []) (L := []) 0 rfl ⟨rfl, rfl⟩⟩
  · have hab : a.length = b.length := by simp only [hma, hmb] at h; omega
    (try conv => whnf); repeat ((first | refine And.intro (show cellsAll _ _ from by repeat (first | exact trivial | refine ⟨⟨rfl, rfl⟩, ?_⟩)) ?_ | refine ⟨_, getZ (by omega), ?_⟩ | refine ⟨_, getI (by omega) (by omega), ?_⟩ | refine ⟨by omega, rfl, ?_⟩ | refine ⟨by (simp; omega), rfl, ?_⟩ | refine ⟨rfl, _, rfl, ⟨rfl, rfl, by decide⟩, ?_⟩ | refine ⟨rfl, _, rfl, ?_⟩ | refine ⟨rfl, _, getO (by omega), ?_⟩ | refine ⟨rfl, ⟨by omega, by omega, by omega⟩, ?_⟩ | refine ⟨⟨rfl, rfl⟩, ?_⟩ | refine ⟨⟨rfl, rfl, rfl⟩, ?_⟩ | refine ⟨⟨rfl, rfl, by decide⟩, ?_⟩ | refine ⟨rfl, ?_⟩ | refine ⟨⟨by omega, by omega⟩, ⟨rfl, rfl⟩, ?_⟩ | refine ⟨in64 (by omega) (by omega), ?_⟩ | refine Br.dec (fun _ => ?_) (fun hh => absurd (by omega) hh) | refine Br.dec (fun hh => absurd hh (by omega)) (fun _ => ?_) | refine Br.eq (fun _ => ?_) (fun hh => absurd (by omega) hh) | refine Br.eq (fun hh => absurd hh (by omega)) (fun _ => ?_) | refine Br.ne (fun _ => ?_) (fun hh => absurd (by omega) hh) | refine Br.ne (fun hh => absurd hh (by omega)) (fun _ => ?_) | refine ⟨_, rfl, ?_⟩ | rw [← List.map_drop, ← List.map_take]); conv => whnf)
    refine SW.loopR (α := Nat) (fun k => tm 32 [(0, cards a), (1, cards b), (2, .fn 31 []), (15, cards a), (16, .g (.i a.length)), (17, .g (.i k))]) (fun _ => []) (fun k => k ≤ a.length ∧ a.take k = b.take k) (fun k => a.length - k) 0 ?_ ?_ ?_
    · simp
    · exact Refi.sub rfl (by simp [subT, subV, tm, tmGo, cards])
    · rintro k ⟨hk, he⟩
      dsimp only at hk he ⊢
      conv => whnf
      refine Br.dec (fun h => ?_) (fun h => ?_)
      · have hk' : k < a.length := by omega
        have hpk := hp _ (List.getElem_mem hk')
        (try conv => whnf); repeat ((first | refine (c_shelf_SameS1 a[k] b[k] (by omega)).go rfl ?_ | refine ⟨_, (c_shelf_SameS1 a[k] b[k] (by omega)).go rfl ⟨rfl, rfl⟩, ?_⟩ | refine And.intro (show cellsAll _ _ from by repeat (first | exact trivial | refine ⟨⟨rfl, rfl⟩, ?_⟩)) ?_ | refine ⟨_, getZ (by omega), ?_⟩ | refine ⟨_, getI (by omega) (by omega), ?_⟩ | refine ⟨by omega, rfl, ?_⟩ | refine ⟨by (simp; omega), rfl, ?_⟩ | refine ⟨rfl, _, rfl, ⟨rfl, rfl, by decide⟩, ?_⟩ | refine ⟨rfl, _, rfl, ?_⟩ | refine ⟨rfl, _, getO (by omega), ?_⟩ | refine ⟨rfl, ⟨by omega, by omega, by omega⟩, ?_⟩ | refine ⟨⟨rfl, rfl⟩, ?_⟩ | refine ⟨⟨rfl, rfl, rfl⟩, ?_⟩ | refine ⟨⟨rfl, rfl, by decide⟩, ?_⟩ | refine ⟨rfl, ?_⟩ | refine ⟨⟨by omega, by omega⟩, ⟨rfl, rfl⟩, ?_⟩ | refine ⟨in64 (by omega) (by omega), ?_⟩ | refine Br.dec (fun _ => ?_) (fun hh => absurd (by omega) hh) | refine Br.dec (fun hh => absurd hh (by omega)) (fun _ => ?_) | refine Br.eq (fun _ => ?_) (fun hh => absurd (by omega) hh) | refine Br.eq (fun hh => absurd hh (by omega)) (fun _ => ?_) | refine Br.ne (fun _ => ?_) (fun hh => absurd (by omega) hh) | refine Br.ne (fun hh => absurd hh (by omega)) (fun _ => ?_) | refine ⟨_, rfl, ?_⟩ | rw [← List.map_drop, ← List.map_take]); conv => whnf)
        refine Br.not (fun h2 => ?_) (fun h2 => ?_)
        · conv => whnf
          rw [decide_eq_false (ne_of_get hk' (by omega) (by simpa using h2))]
          exact ⟨Ends.ground (H := []) (L := [_, _]) 0 rfl ⟨rfl, rfl⟩⟩
        · (try conv => whnf); repeat ((first | refine And.intro (show cellsAll _ _ from by repeat (first | exact trivial | refine ⟨⟨rfl, rfl⟩, ?_⟩)) ?_ | refine ⟨_, getZ (by omega), ?_⟩ | refine ⟨_, getI (by omega) (by omega), ?_⟩ | refine ⟨by omega, rfl, ?_⟩ | refine ⟨by (simp; omega), rfl, ?_⟩ | refine ⟨rfl, _, rfl, ⟨rfl, rfl, by decide⟩, ?_⟩ | refine ⟨rfl, _, rfl, ?_⟩ | refine ⟨rfl, _, getO (by omega), ?_⟩ | refine ⟨rfl, ⟨by omega, by omega, by omega⟩, ?_⟩ | refine ⟨⟨rfl, rfl⟩, ?_⟩ | refine ⟨⟨rfl, rfl, rfl⟩, ?_⟩ | refine ⟨⟨rfl, rfl, by decide⟩, ?_⟩ | refine ⟨rfl, ?_⟩ | refine ⟨⟨by omega, by omega⟩, ⟨rfl, rfl⟩, ?_⟩ | refine ⟨in64 (by omega) (by omega), ?_⟩ | refine Br.dec (fun _ => ?_) (fun hh => absurd (by omega) hh) | refine Br.dec (fun hh => absurd hh (by omega)) (fun _ => ?_) | refine Br.eq (fun _ => ?_) (fun hh => absurd (by omega) hh) | refine Br.eq (fun hh => absurd hh (by omega)) (fun _ => ?_) | refine Br.ne (fun _ => ?_) (fun hh => absurd (by omega) hh) | refine Br.ne (fun hh => absurd hh (by omega)) (fun _ => ?_) | refine ⟨_, rfl, ?_⟩ | rw [← List.map_drop, ← List.map_take]); conv => whnf)
          exact ⟨⟨k + 1, ⟨hk', take_eq he hk' (by omega) (by simpa using h2)⟩, by omega, Refi.back (L := [_, _]) rfl (Nat.zero_le _) (fun _ h => by cases h) (by simp [subT, subV, tm, tmGo, cards, cutV, ltB, ltS])⟩⟩
      · have : k = a.length := by omega
        subst this
        conv => whnf
        rw [List.take_length, List.take_of_length_le (by omega)] at he
        rw [decide_eq_true he]
        exact ⟨Ends.ground (H := []) (L := []) 0 rfl ⟨rfl, rfl⟩⟩
theorem c_shelf_Same (a b : List Cd) (hl : a.length < 1000000000) (hp : ∀ p ∈ a, p.w.length < 1000000000) : CG Try.prog 15 [tcards a, tcards b] (.b (decide (a = b))) := by
  refine ⟨k_shelf_Same.calls ?_⟩
  (try conv => whnf); repeat ((first | refine And.intro (show cellsAll _ _ from by repeat (first | exact trivial | refine ⟨⟨rfl, rfl⟩, ?_⟩)) ?_ | refine ⟨_, getZ (by omega), ?_⟩ | refine ⟨_, getI (by omega) (by omega), ?_⟩ | refine ⟨by omega, rfl, ?_⟩ | refine ⟨by (simp; omega), rfl, ?_⟩ | refine ⟨rfl, _, rfl, ⟨rfl, rfl, by decide⟩, ?_⟩ | refine ⟨rfl, _, rfl, ?_⟩ | refine ⟨rfl, _, getO (by omega), ?_⟩ | refine ⟨rfl, ⟨by omega, by omega, by omega⟩, ?_⟩ | refine ⟨⟨rfl, rfl⟩, ?_⟩ | refine ⟨⟨rfl, rfl, rfl⟩, ?_⟩ | refine ⟨⟨rfl, rfl, by decide⟩, ?_⟩ | refine ⟨rfl, ?_⟩ | refine ⟨⟨by omega, by omega⟩, ⟨rfl, rfl⟩, ?_⟩ | refine ⟨in64 (by omega) (by omega), ?_⟩ | refine Br.dec (fun _ => ?_) (fun hh => absurd (by omega) hh) | refine Br.dec (fun hh => absurd hh (by omega)) (fun _ => ?_) | refine Br.eq (fun _ => ?_) (fun hh => absurd (by omega) hh) | refine Br.eq (fun hh => absurd hh (by omega)) (fun _ => ?_) | refine Br.ne (fun _ => ?_) (fun hh => absurd (by omega) hh) | refine Br.ne (fun hh => absurd hh (by omega)) (fun _ => ?_) | refine ⟨_, rfl, ?_⟩ | rw [← List.map_drop, ← List.map_take]); conv => whnf)
  refine (c_EqualFunc_Card a b hl hp).mono ?_
  rintro r h ⟨rfl, rfl⟩
  conv => whnf
  exact ⟨Ends.ground (H := []) (L := []) 0 rfl ⟨rfl, rfl⟩⟩
end Go.Aw
