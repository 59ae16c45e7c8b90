/- Contracts of functions of the given program, by the abstract walk, for law ShelfPutsUpto: what each one hands back; no condition but those that each theorem states. -/
import Derived.Test.YthcihkgopmmolaaC13
import Derived.Test.YthcihkgopmmolaaW3
namespace Go.Aw
open Go.Proofs Go.Sort
set_option maxRecDepth 100000
set_option maxHeartbeats 4000000

/- THE DOCUMENT'S BUILD -/
def okL (l : List Cd) : Bool := l.all mayC && decide (l.map (·.id)).Nodup
def wlS (ws : List ByteArray) : List ByteArray := ws.foldl addS []
def ordO (l : List Cd) (b : Bool) : List Cd := if b = true then inC l else l
def noSg : Sg := ⟨[], [], [], [], false⟩
def tmOf (o : List Cd) (x : ByteArray) : Tm := ⟨x, pst (o.map (·.w)) x⟩
def segOf (o : List Cd) (b : Bool) : Sg := ⟨o.map (·.id), o.map (·.key), o.map fun c => (c.w.length : Int), (wlS (o.flatMap (·.w))).map (tmOf o), b⟩
def buildS (l : List Cd) (b : Bool) : Sg × Int := if okL l = false then (noSg, 1) else if 64 < l.length then (noSg, 8) else if 200 < (wlS ((ordO l b).flatMap (·.w))).length then (noSg, 8) else (segOf (ordO l b) b, 0)
def bndC (l : List Cd) : Prop := l.length < 100000000 ∧ (l.flatMap (·.w)).length < 100000000 ∧ ∀ c ∈ l, c.id.size < bigB ∧ ∀ x ∈ c.w, x.size < bigB
theorem addS_mem : ∀ {l : List ByteArray} {x y : ByteArray}, y ∈ addS l x ↔ y ∈ l ∨ y = x
  | [], _, _ => by simp [addS]
  | z :: r, x, y => by
    have ih := addS_mem (l := r) (x := x) (y := y)
    unfold addS; split
    · simp [ih, or_assoc]
    · split
      · rename_i h; subst h; simp
        intro h; exact .inl h
      · simp [or_comm, or_left_comm]
theorem wl_mem {ws : List ByteArray} {y : ByteArray} : y ∈ wlS ws ↔ y ∈ ws := by
  have : ∀ (ws m : List ByteArray), y ∈ ws.foldl addS m ↔ y ∈ m ∨ y ∈ ws := by
    intro ws
    induction ws with
    | nil => simp
    | cons c l ih => intro m; simp [ih, addS_mem, or_assoc]
  simp [wlS, this]
theorem insC_perm : ∀ {l : List Cd} {c : Cd}, (insC l c).Perm (c :: l)
  | [], _ => .refl _
  | y :: r, c => by
    unfold insC; split
    · exact (insC_perm (l := r) (c := c)).cons y |>.trans (.swap ..)
    · exact .refl _
theorem inC_perm {l : List Cd} : (inC l).Perm l := by
  have : ∀ (l m : List Cd), (l.foldl insC m).Perm (m ++ l) := by
    intro l
    induction l with
    | nil => simp
    | cons c l ih =>
      intro m
      refine (ih (insC m c)).trans ?_
      refine ((insC_perm (l := m) (c := c)).append_right l).trans ?_
      simpa using (List.perm_middle (a := c) (l₁ := m) (l₂ := l)).symm
  have := this l []
  unfold inC
  simpa using this
theorem ordO_perm {l : List Cd} {b : Bool} : (ordO l b).Perm l := by
  unfold ordO; split
  · exact inC_perm
  · exact .refl _
theorem bndC.perm {l m : List Cd} (h : bndC l) (p : m.Perm l) : bndC m := by
  obtain ⟨h1, h2, h3⟩ := h
  exact ⟨by rw [p.length_eq]; exact h1, by rw [(p.flatMap_right fun c : Cd => c.w).length_eq]; exact h2, fun c hc => h3 c (p.mem_iff.1 hc)⟩
theorem bndC.w {l : List Cd} (h : bndC l) : ∀ c ∈ l, c.w.length < 100000000 := fun c hc => by
  have : c.w.length ≤ (l.flatMap (·.w)).length := by
    obtain ⟨i, hi, rfl⟩ := List.getElem_of_mem hc
    have e : l = l.take i ++ l[i] :: l.drop (i + 1) := by rw [← List.drop_eq_getElem_cons hi, List.take_append_drop]
    have : (l.flatMap (·.w)).length = ((l.take i).flatMap (·.w)).length + (l[i].w.length + ((l.drop (i + 1)).flatMap (·.w)).length) := by
      conv => lhs; rw [e]
      simp only [List.flatMap_append, List.flatMap_cons, List.length_append]
    omega
  have := h.2.1; omega
theorem flat_pre {o : List Cd} {i j : Nat} (hi : i < o.length) : ((o.take i).flatMap (·.w) ++ o[i].w.take j).length ≤ (o.flatMap (·.w)).length := by
  have e : o = o.take i ++ o[i] :: o.drop (i + 1) := by rw [← List.drop_eq_getElem_cons hi, List.take_append_drop]
  have : (o.flatMap (·.w)).length = ((o.take i).flatMap (·.w)).length + (o[i].w.length + ((o.drop (i + 1)).flatMap (·.w)).length) := by
    conv => lhs; rw [e]
    simp only [List.flatMap_append, List.flatMap_cons, List.length_append]
  rw [this]
  simp only [List.length_append, List.length_take]; omega
theorem okL_no1 {l : List Cd} {i : Nat} (hi : i < l.length) (h : mayC l[i] = false) : okL l = false := by
  have : l.all mayC = false := List.all_eq_false.2 ⟨l[i], List.getElem_mem _, by simp [h]⟩
  rw [okL, this]; rfl
theorem okL_no2 {l : List Cd} {k i : Nat} (hi : i < l.length) (hk : k < i) (h : l[k].id = l[i].id) : okL l = false := by
  have : ¬ (l.map (·.id)).Nodup := fun hn => by
    have := List.pairwise_iff_getElem.1 hn k i (by simp; omega) (by simpa using hi) hk
    simp at this; exact this h
  rw [okL, decide_eq_false this, Bool.and_false]
theorem okL_yes {l : List Cd} (h : ∀ c ∈ l, mayC c = true) (k : (l.map (·.id)).Nodup) : okL l = true := by
  rw [okL, List.all_eq_true.2 h, decide_eq_true k]; rfl
def zSeg : V := .ag [.nil 1, .nil 1, .nil 1, .nil 2, .g (.b false)]
def rowS (l : List ByteArray) : List V := l.map fun s => V.g (T.s s)
end Go.Aw
namespace Go.Aw
open Go.Proofs Go.Sort
set_option maxRecDepth 100000
set_option maxHeartbeats 4000000

theorem bl_ltL : ∀ (a b : List UInt8), Op.bytesLess a b = decide (Lib.compareBytes a b < 0)
  | [], [] => rfl
  | [], _ :: _ => rfl
  | _ :: _, [] => rfl
  | a :: x, b :: y => by
    have ih := bl_ltL x y
    have e : Lib.compareBytes (a :: x) (b :: y) = if a < b then -1 else if b < a then 1 else Lib.compareBytes x y := rfl
    simp only [Op.bytesLess, ih]
    by_cases h1 : a < b
    · rw [if_pos h1] at e
      rw [e, decide_eq_true h1]; rfl
    · rw [if_neg h1] at e
      by_cases h2 : b < a
      · rw [if_pos h2] at e
        rw [e, decide_eq_false h1, show (a == b) = false from by rw [beq_eq_false_iff_ne]; rintro rfl; rw [u8_lt] at h2; omega]; rfl
      · have : a = b := by rw [u8_eq]; rw [u8_lt] at h1 h2; omega
        rw [if_neg h2] at e
        rw [e, this, beq_self_eq_true]; simp
theorem bl_lt (a b : ByteArray) : Op.bytesLess a.toList b.toList = ltB' a b := by
  rw [ByteArray.toList_eq, ByteArray.toList_eq, bl_ltL]; rfl
theorem bl_le (a b : ByteArray) : (Op.bytesLess a.toList b.toList || a.toList == b.toList) = !ltB' b a := by
  have h := cmpL_neg a.data.toList b.data.toList
  rw [ByteArray.toList_eq, ByteArray.toList_eq, bl_ltL, ltB', cmpS, h]
  by_cases e : a.data.toList = b.data.toList
  · have := cmpL_zero.2 e
    rw [this, e]; simp
  · have : Lib.compareBytes a.data.toList b.data.toList ≠ 0 := fun q => e (cmpL_zero.1 q)
    rw [show (a.data.toList == b.data.toList) = false from by rw [beq_eq_false_iff_ne]; exact e, Bool.or_false]
    by_cases q : Lib.compareBytes a.data.toList b.data.toList < 0
    · rw [decide_eq_true q, decide_eq_false (by omega)]; rfl
    · rw [decide_eq_false q, decide_eq_true (by omega)]; rfl
/- A DICTIONARY'S RULES -/
def DmP (l : List ByteArray) : Prop := (∀ (k : Nat) (h : k < l.length), fitsS l[k] 32 = true ∧ (0 < k → ltB' (l[k - 1]'(by omega)) l[k] = true)) ∧ l.length ≤ 200
instance (l : List ByteArray) : Decidable (DmP l) := by unfold DmP; exact inferInstance
def dmS (l : List ByteArray) : Bool := decide (DmP l)
end Go.Aw
namespace Go.Aw
open Go.Proofs Go.Sort
set_option maxRecDepth 100000
set_option maxHeartbeats 4000000

/- MAPS -/
theorem mfind_no {kk : Bool × List Nat} {k : Value} : ∀ {kvs : List (Value × Value)} {n : Nat}, (∀ p ∈ kvs, sameK kk k p.1 = some false) → mfind kk kvs k n = some none
  | [], _, _ => rfl
  | p :: r, n, h => by
    have h1 := h p (by simp)
    have ih := mfind_no (kvs := r) (n := n + 1) fun q hq => h q (by simp [hq])
    obtain ⟨a, v⟩ := p
    simp only at h1
    rw [mfind, h1]; exact ih
theorem mfind_at {kk : Bool × List Nat} {k : Value} : ∀ {kvs : List (Value × Value)} {n i : Nat} (_ : i < kvs.length), (∀ j (_ : j < i), sameK kk k (kvs[j]'(by omega)).1 = some false) → sameK kk k kvs[i].1 = some true → mfind kk kvs k n = some (some (n + i, kvs[i].2))
  | p :: r, n, 0, _, _, e => by
    obtain ⟨a, v⟩ := p
    simp only [List.getElem_cons_zero] at e ⊢
    rw [mfind, e]; rfl
  | p :: r, n, i + 1, hi, h, e => by
    have h1 := h 0 (by omega)
    have ih := mfind_at (kvs := r) (n := n + 1) (i := i) (by simpa using hi) (fun j hj => by have := h (j + 1) (by omega); simpa using this) (by simpa using e)
    obtain ⟨a, v⟩ := p
    simp only [List.getElem_cons_zero] at h1
    rw [mfind, h1]
    simp only [List.getElem_cons_succ]
    rw [show n + (i + 1) = n + 1 + i from by omega]
    exact ih
theorem sameT (x y : ByteArray) : sameK (false, [2]) (.string x) (.string y) = some (decide (x = y)) := by
  show some (x == y) = _
  rw [ba_beq]
def prT (x : Tm) : List (Int × Int) := x.p.flatMap fun p => p.2.map fun a => (p.1, a)
def prs (l : List Tm) : List (Int × Int) := l.flatMap prT
def PlP (s : Sg) : Prop := (∀ x ∈ s.terms, x.p ≠ [] ∧ mayP x.p = true) ∧ (prs s.terms).Nodup ∧ (∀ q ∈ prs s.terms, q.1 < s.lens.length ∧ q.2 < s.lens.getD q.1.toNat 0) ∧ dmS (s.terms.map (·.t)) = true ∧ s.lens.sum = (prs s.terms).length
instance (s : Sg) : Decidable (PlP s) := by unfold PlP; exact inferInstance
/-- pairs that may stand -/
def OkQ (lens : List Int) (l : List (Int × Int)) : Prop := l.Nodup ∧ ∀ q ∈ l, q.1 < lens.length ∧ q.2 < lens.getD q.1.toNat 0
theorem OkQ.put {lens : List Int} {l : List (Int × Int)} {q : Int × Int} (h : OkQ lens l) (h1 : q ∉ l) (h2 : q.1 < lens.length) (h3 : q.2 < lens.getD q.1.toNat 0) : OkQ lens (l ++ [q]) := by
  refine ⟨?_, fun x hx => ?_⟩
  · unfold List.Nodup
    rw [List.pairwise_append]
    exact ⟨h.1, by simp, fun a ha b hb => by simp at hb; subst hb; exact fun e => h1 (by rw [← e]; exact ha)⟩
  · rcases List.mem_append.1 hx with hx | hx
    · exact h.2 x hx
    · simp at hx; subst hx; exact ⟨h2, h3⟩
theorem OkQ.pre {lens : List Int} {l m : List (Int × Int)} (h : OkQ lens (l ++ m)) : OkQ lens l := by
  obtain ⟨h1, h2⟩ := h
  unfold List.Nodup at h1
  rw [List.pairwise_append] at h1
  exact ⟨h1.1, fun q hq => h2 q (List.mem_append_left _ hq)⟩
end Go.Aw
namespace Go.Aw
open Go.Proofs Go.Sort
set_option maxRecDepth 100000
set_option maxHeartbeats 4000000

/- WHEN A SEGMENT MAY STAND -/
/-- document number k: its text, its key, how many words -/
def okD (s : Sg) (k : Nat) : Prop :=
  fitsS (s.ids.getD k default) 16 = true ∧ (0 ≤ s.keys.getD k 0 ∧ s.keys.getD k 0 ≤ 1073741824) ∧ (0 ≤ s.lens.getD k 0 ∧ s.lens.getD k 0 ≤ 120) ∧
  (s.sorted = true → 0 < k → befC ⟨s.ids.getD (k - 1) default, s.keys.getD (k - 1) 0, []⟩ ⟨s.ids.getD k default, s.keys.getD k 0, []⟩ = true)
instance (s : Sg) (k : Nat) : Decidable (okD s k) := by unfold okD; exact inferInstance
def SgP (s : Sg) : Prop := s.ids.length ≤ 64 ∧ s.keys.length = s.ids.length ∧ s.lens.length = s.ids.length ∧ s.ids.Nodup ∧ (∀ k, k < s.ids.length → okD s k) ∧ PlP s
instance (s : Sg) : Decidable (SgP s) := by unfold SgP; exact inferInstance
end Go.Aw
namespace Go.Aw
open Go.Proofs Go.Sort
set_option maxRecDepth 100000
set_option maxHeartbeats 4000000

/- WHERE A TERM IS -/
def SrtT (l : List Tm) : Prop := l.Pairwise fun x y => ltB' x.t y.t = true
def lowT (l : List Tm) (y : ByteArray) : Nat := (l.filter fun x => ltB' x.t y).length
theorem ltB_trans {a b c : ByteArray} (h : ltB' a b = true) (k : ltB' b c = true) : ltB' a c = true := by
  have h1 : Lib.compareBytes a.data.toList b.data.toList < 0 := of_decide_eq_true h
  have k1 : Lib.compareBytes b.data.toList c.data.toList < 0 := of_decide_eq_true k
  have := cmpL_trans (a := a.data.toList) (b := b.data.toList) (c := c.data.toList) (by omega) (by omega)
  refine decide_eq_true ?_
  show Lib.compareBytes a.data.toList c.data.toList < 0
  by_cases e : Lib.compareBytes a.data.toList c.data.toList = 0
  · have := (this.2 e).1; omega
  · omega
theorem ltB_irr {a : ByteArray} : ltB' a a = false := by simp [ltB', cmpS_zero.2 rfl]
theorem SrtT.get {l : List Tm} (h : SrtT l) {i j : Nat} (hi : i < j) (hj : j < l.length) : ltB' l[i].t l[j].t = true := List.pairwise_iff_getElem.1 h i j (by omega) hj hi
theorem lowT_eq {l : List Tm} {y : ByteArray} {i : Nat} (hi : i ≤ l.length) (h1 : ∀ (k : Nat) (h : k < l.length), k < i → ltB' l[k].t y = true) (h2 : ∀ (k : Nat) (h : k < l.length), i ≤ k → ltB' l[k].t y = false) : lowT l y = i := by
  rw [lowT, ← List.take_append_drop i l, List.filter_append]
  have e1 : (l.take i).filter (fun x => ltB' x.t y) = l.take i := by
    rw [List.filter_eq_self]
    intro a ha
    obtain ⟨k, hk, rfl⟩ := List.getElem_of_mem ha
    rw [List.getElem_take]; exact h1 k (by simp at hk; omega) (by simp at hk; omega)
  have e2 : (l.drop i).filter (fun x => ltB' x.t y) = [] := by
    rw [List.filter_eq_nil_iff]
    intro a ha
    obtain ⟨k, hk, rfl⟩ := List.getElem_of_mem ha
    rw [List.getElem_drop, h2 (i + k) (by simp at hk; omega) (by omega)]; simp
  rw [e1, e2, List.append_nil, List.length_take]; omega
theorem SrtT.find {l : List Tm} (h : SrtT l) {x : Tm} (hx : x ∈ l) : ∃ (hi : lowT l x.t < l.length), l[lowT l x.t] = x := by
  obtain ⟨i, hi, rfl⟩ := List.getElem_of_mem hx
  have e : lowT l l[i].t = i := lowT_eq (by omega) (fun k hk hki => h.get hki hi) (fun k hk hki => by
    rcases Nat.lt_or_ge i k with h6 | h6
    · cases q : ltB' l[k].t l[i].t with
      | false => rfl
      | true => have := ltB_trans (h.get h6 hk) q; rw [ltB_irr] at this; cases this
    · have : k = i := by omega
      subst this; exact ltB_irr)
  exact ⟨by omega, by simp only [e]⟩
/- finding a document by its text -/
end Go.Aw
namespace Go.Aw
open Go.Proofs Go.Sort
set_option maxRecDepth 100000
set_option maxHeartbeats 4000000

theorem forceH_to {t t' : List Blk} {k : List Blk → Prop} (e : t = t') (h : k t') : forceH t k := by rw [forceH_eq, e]; exact h
theorem setB_push (u v : Blk) (D : List Blk) : setB (D ++ [v]) D.length u = D ++ [u] := by rw [setB_eq]; simp
/- A SEGMENT'S CARDS -/
end Go.Aw
