/- Contracts of functions of the given program, by the abstract walk, for law PhraseWordsUpto: what each one hands back; no condition but those that each theorem states. -/
import Derived.Test.YthpnnkoaomekfaaC15
import Derived.Test.YthpnnkoaomekfaaC2
import Derived.Test.YthpnnkoaomekfaaC5
namespace Go.Aw
open Go.Proofs Go.Sort
set_option maxRecDepth 100000
set_option maxHeartbeats 4000000

theorem tv_strs {t : T} (h : TV (.sl 1 .s) t) : ∃ xs : List ByteArray, t = tstrs xs ∧ xs.length ≤ maxLen := by
  obtain ⟨cs, ⟨es, rfl, hl, he⟩, rfl⟩ := h
  have : ∃ xs : List ByteArray, es = xs.map T.s := by
    clear hl
    induction es with
    | nil => exact ⟨[], rfl⟩
    | cons e es ih =>
      obtain ⟨xs, rfl⟩ := ih fun x hx => he x (by simp [hx])
      obtain ⟨ys, ⟨n, rfl, _⟩, rfl⟩ := he e (by simp)
      exact ⟨n :: xs, rfl⟩
  obtain ⟨xs, rfl⟩ := this
  exact ⟨xs, rfl, by simpa using hl⟩
theorem tv_card {t : T} (h : TV (.fc .s (.fc (.i .i64) (.fc (.sl 1 .s) .fn))) t) : ∃ c : Cd, t = tcard c ∧ c.w.length ≤ maxLen ∧ c.id.size ≤ maxLen := by
  obtain ⟨cs, h1, rfl⟩ := h
  obtain ⟨_, _, rfl, ⟨n1, rfl, hs⟩, _, _, rfl, ⟨n2, rfl, _⟩, _, _, rfl, h3, rfl⟩ := h1
  obtain ⟨es, rfl, hl, he⟩ := h3
  obtain ⟨xs, e, hx⟩ := tv_strs (t := .sl 1 es) ⟨[.sl 1 es], ⟨es, rfl, hl, he⟩, rfl⟩
  cases e
  exact ⟨⟨n1, n2, xs⟩, rfl, hx, hs⟩
theorem tv_cards {t : T} (h : TV (.sl 3 (.fc .s (.fc (.i .i64) (.fc (.sl 1 .s) .fn)))) t) : ∃ l : List Cd, t = tcards l ∧ l.length ≤ maxLen ∧ ∀ c ∈ l, c.w.length ≤ maxLen := by
  obtain ⟨cs, ⟨es, rfl, hl, he⟩, rfl⟩ := h
  have : ∃ l : List Cd, es = l.map tcard ∧ ∀ c ∈ l, c.w.length ≤ maxLen := by
    clear hl
    induction es with
    | nil => exact ⟨[], rfl, by simp⟩
    | cons e es ih =>
      obtain ⟨xs, rfl, hxs⟩ := ih fun x hx => he x (by simp [hx])
      obtain ⟨ys, h1, h2⟩ := he e (by simp)
      obtain ⟨c, h3, h4, _⟩ := tv_card ⟨ys, h1, h2⟩
      subst h3
      exact ⟨c :: xs, rfl, by simpa using ⟨h4, hxs⟩⟩
  obtain ⟨l, rfl, hx⟩ := this
  exact ⟨l, rfl, by simpa using hl, hx⟩
theorem bef_same {a b : Cd} (h : befC a b = false) (k : befC b a = false) : a.key = b.key ∧ a.id = b.id := by
  have h := of_decide_eq_false h
  have k := of_decide_eq_false k
  refine ⟨?_, ordC_zero h k⟩
  unfold ordC at h k
  rw [nz_lt] at h k
  omega
end Go.Aw
namespace Go.Aw
open Go.Proofs Go.Sort
set_option maxRecDepth 100000
set_option maxHeartbeats 4000000

theorem seg_bnd {o : List Cd} {b : Bool} (h : bndC o) : bndS (segOf o b) := by
  obtain ⟨h1, h2, h3⟩ := id h
  refine ⟨by simp [segOf]; omega, by simp [segOf]; omega, by simp [segOf]; omega, ?_, ?_⟩
  · have := wl_len (ws := o.flatMap (·.w))
    simp [segOf]; omega
  · intro x hx
    obtain ⟨t, ht, rfl⟩ := List.mem_map.1 hx
    refine ⟨?_, fun p hp => ?_⟩
    · have := pst_len (ls := o.map (·.w)) (x := t)
      rw [List.length_map] at this
      show (pst (o.map (·.w)) t).length < _
      omega
    · obtain ⟨w, hw, e⟩ := pst_at p hp
      obtain ⟨c, hc, rfl⟩ := List.mem_map.1 hw
      have := h.w c hc
      have h4 := plc_len (ws := c.w) (x := t)
      rw [e]; omega
end Go.Aw
namespace Go.Aw
open Go.Proofs Go.Sort
set_option maxRecDepth 100000
set_option maxHeartbeats 4000000

/- WHAT STANDS IN A BUILT SEGMENT -/
theorem mem_plc {w : List ByteArray} {t : ByteArray} {a : Int} : a ∈ plc w t ↔ ∃ (j : Nat) (h : j < w.length), a = j ∧ w[j] = t := by
  rw [plc, List.mem_map]
  constructor
  · rintro ⟨⟨y, j⟩, hm, rfl⟩
    rw [List.mem_filter] at hm
    obtain ⟨hm, e⟩ := hm
    have h1 := List.mem_zipIdx_iff_getElem?.1 hm
    have hj := lt_of_some h1
    rw [List.getElem?_eq_getElem hj] at h1
    exact ⟨j, hj, rfl, (Option.some.inj h1).trans (of_decide_eq_true e)⟩
  · rintro ⟨j, h, rfl, e⟩
    refine ⟨(w[j], j), List.mem_filter.2 ⟨List.mem_zipIdx_iff_getElem?.2 (List.getElem?_eq_getElem h), decide_eq_true e⟩, rfl⟩
theorem mem_pst {ls : List (List ByteArray)} {t : ByteArray} {p : Po} : p ∈ pst ls t ↔ ∃ (k : Nat) (h : k < ls.length), p = ((k : Int), plc ls[k] t) ∧ plc ls[k] t ≠ [] := by
  rw [pst, List.mem_filterMap]
  constructor
  · rintro ⟨⟨w, k⟩, hm, e⟩
    have h1 := List.mem_zipIdx_iff_getElem?.1 hm
    have hk := lt_of_some h1
    rw [List.getElem?_eq_getElem hk] at h1
    have h2 : ls[k] = w := Option.some.inj h1
    simp only [← h2] at e
    by_cases q : plc ls[k] t = []
    · simp only [q, if_pos] at e; cases e
    · simp only [if_neg q] at e
      exact ⟨k, hk, (Option.some.inj e).symm, q⟩
  · rintro ⟨k, hk, rfl, q⟩
    exact ⟨(ls[k], k), List.mem_zipIdx_iff_getElem?.2 (List.getElem?_eq_getElem hk), by simp only [if_neg q]⟩
theorem mem_prT {o : List Cd} {t : ByteArray} {q : Int × Int} : q ∈ prT (tmOf o t) ↔ ∃ (k : Nat) (h : k < o.length) (j : Nat) (h2 : j < o[k].w.length), q = ((k : Int), (j : Int)) ∧ o[k].w[j] = t := by
  rw [prT, List.mem_flatMap]
  constructor
  · rintro ⟨p, hp, hq⟩
    obtain ⟨k, hk, rfl, _⟩ := mem_pst.1 hp
    obtain ⟨a, ha, rfl⟩ := List.mem_map.1 hq
    have hk' : k < o.length := by simpa using hk
    simp only [List.getElem_map] at ha
    obtain ⟨j, hj, rfl, e⟩ := mem_plc.1 ha
    exact ⟨k, hk', j, hj, rfl, e⟩
  · rintro ⟨k, hk, j, hj, rfl, e⟩
    have hm : ((j : Nat) : Int) ∈ plc o[k].w t := mem_plc.2 ⟨j, hj, rfl, e⟩
    refine ⟨((k : Int), plc o[k].w t), mem_pst.2 ⟨k, by simpa using hk, by simp, ?_⟩, List.mem_map.2 ⟨j, hm, rfl⟩⟩
    simp only [List.getElem_map]
    intro h; rw [h] at hm; cases hm
theorem mem_prs {o : List Cd} {q : Int × Int} : q ∈ prs (termsS o) ↔ ∃ (k : Nat) (h : k < o.length) (j : Nat) (_ : j < o[k].w.length), q = ((k : Int), (j : Int)) := by
  rw [prs, List.mem_flatMap]
  constructor
  · rintro ⟨x, hx, hq⟩
    obtain ⟨t, _, rfl⟩ := List.mem_map.1 hx
    obtain ⟨k, hk, j, hj, rfl, _⟩ := mem_prT.1 hq
    exact ⟨k, hk, j, hj, rfl⟩
  · rintro ⟨k, hk, j, hj, rfl⟩
    refine ⟨tmOf o o[k].w[j], List.mem_map.2 ⟨o[k].w[j], wl_mem.2 (List.mem_flatMap.2 ⟨o[k], List.getElem_mem _, List.getElem_mem _⟩), rfl⟩, mem_prT.2 ⟨k, hk, j, hj, rfl, rfl⟩⟩
theorem plc_pw (w : List ByteArray) (t : ByteArray) : (plc w t).Pairwise (· < ·) := by
  have key : ∀ n, n ≤ w.length → (plc (w.take n) t).Pairwise (· < ·) := by
    intro n
    induction n with
    | zero => intro _; simp [plc]
    | succ n ih =>
      intro hn
      rw [List.take_succ_eq_append_getElem hn, plc_app, List.pairwise_append]
      refine ⟨ih (by omega), by split <;> simp, fun a ha b hb => ?_⟩
      obtain ⟨j, hj, rfl, _⟩ := mem_plc.1 ha
      split at hb
      · simp at hb; subst hb; simp at hj ⊢; omega
      · cases hb
  have := key w.length (Nat.le_refl _)
  rwa [List.take_length] at this
theorem pst_pw (ls : List (List ByteArray)) (t : ByteArray) : ((pst ls t).map (·.1)).Pairwise (· < ·) := by
  have key : ∀ n, n ≤ ls.length → ((pst (ls.take n) t).map (·.1)).Pairwise (· < ·) := by
    intro n
    induction n with
    | zero => intro _; simp [pst]
    | succ n ih =>
      intro hn
      rw [pst_succ hn, List.map_append, List.pairwise_append]
      refine ⟨ih (by omega), by split <;> simp, fun a ha b hb => ?_⟩
      obtain ⟨p, hp, rfl⟩ := List.mem_map.1 ha
      have h1 := pst_lt p hp
      split at hb
      · cases hb
      · simp at hb; subst hb; simp at h1; omega
  have := key ls.length (Nat.le_refl _)
  rwa [List.take_length] at this
theorem prs_nodup (o : List Cd) : (prs (termsS o)).Nodup := by
  unfold prs List.Nodup
  rw [List.pairwise_flatMap]
  refine ⟨fun x hx => ?_, ?_⟩
  · obtain ⟨t, _, rfl⟩ := List.mem_map.1 hx
    unfold prT
    rw [List.pairwise_flatMap]
    refine ⟨fun p hp => ?_, ?_⟩
    · obtain ⟨k, hk, rfl, _⟩ := mem_pst.1 hp
      rw [List.pairwise_map]
      exact (plc_pw _ _).imp fun h e => by cases e; omega
    · have := pst_pw (o.map (·.w)) t
      rw [List.pairwise_map] at this
      refine this.imp fun h x hx y hy e => ?_
      obtain ⟨a, _, rfl⟩ := List.mem_map.1 hx
      obtain ⟨b, _, rfl⟩ := List.mem_map.1 hy
      have := congrArg Prod.fst e
      simp only at this; omega
  · unfold termsS
    rw [List.pairwise_map]
    refine (wl_srt _).imp fun {s t} h x hx y hy e => ?_
    obtain ⟨k, hk, j, hj, rfl, e1⟩ := mem_prT.1 hx
    obtain ⟨k', hk', j', hj', rfl, e2⟩ := mem_prT.1 hy
    cases e
    rw [← e1, ← e2, ltB_irr] at h; cases h
theorem sum_len (o : List Cd) : (o.map fun c => (c.w.length : Int)).sum = ((o.flatMap (·.w)).length : Int) := by
  induction o with
  | nil => rfl
  | cons c o ih => simp only [List.map_cons, List.sum_cons, List.flatMap_cons, List.length_append, ih]; omega
def posAll (o : List Cd) : List (Int × Int) := (List.range o.length).flatMap fun (k : Nat) => (List.range (match o[k]? with | some c => c.w.length | none => 0)).map fun (j : Nat) => ((k : Int), (j : Int))
theorem mem_posAll {o : List Cd} {q : Int × Int} : q ∈ posAll o ↔ ∃ (k : Nat) (h : k < o.length) (j : Nat) (_ : j < o[k].w.length), q = ((k : Int), (j : Int)) := by
  rw [posAll, List.mem_flatMap]
  constructor
  · rintro ⟨k, hk, hq⟩
    have hk := List.mem_range.1 hk
    obtain ⟨j, hj, rfl⟩ := List.mem_map.1 hq
    have hj := List.mem_range.1 hj
    rw [List.getElem?_eq_getElem hk] at hj
    exact ⟨k, hk, j, hj, rfl⟩
  · rintro ⟨k, hk, j, hj, rfl⟩
    refine ⟨k, List.mem_range.2 hk, List.mem_map.2 ⟨j, List.mem_range.2 ?_, rfl⟩⟩
    rw [List.getElem?_eq_getElem hk]; exact hj
theorem posAll_nodup (o : List Cd) : (posAll o).Nodup := by
  unfold posAll List.Nodup
  rw [List.pairwise_flatMap]
  refine ⟨fun k _ => ?_, ?_⟩
  · rw [List.pairwise_map]
    exact List.pairwise_lt_range.imp fun h e => by
      have := congrArg Prod.snd e
      simp only at this; omega
  · refine List.pairwise_lt_range.imp fun h x hx y hy e => ?_
    obtain ⟨a, _, rfl⟩ := List.mem_map.1 hx
    obtain ⟨b, _, rfl⟩ := List.mem_map.1 hy
    have := congrArg Prod.fst e
    simp only at this; omega
theorem posAll_len (o : List Cd) : (posAll o).length = (o.flatMap (·.w)).length := by
  rw [posAll, List.length_flatMap, List.length_flatMap]
  congr 1
  refine List.ext_getElem (by simp) fun k h1 h2 => ?_
  have hk : k < o.length := by simpa using h1
  simp [hk]
theorem prs_len (o : List Cd) : (prs (termsS o)).length = (o.flatMap (·.w)).length := by
  rw [← posAll_len]
  exact ((List.perm_ext_iff_of_nodup (prs_nodup o) (posAll_nodup o)).2 fun q => by rw [mem_prs, mem_posAll]).length_eq
/- a segment that was built may stand -/
theorem risE_of {e : Int} : ∀ {l : Int} {xs : List Int}, (∀ x ∈ xs, l < x ∧ x < e) → xs.Pairwise (· < ·) → risE e l xs = true
  | _, [], _, _ => rfl
  | l, x :: xs, h, p => by
    obtain ⟨p1, p2⟩ := List.pairwise_cons.1 p
    have h1 := h x (by simp)
    rw [risE, risE_of (l := x) (fun y hy => ⟨p1 y hy, (h y (List.mem_cons_of_mem _ hy)).2⟩) p2, decide_eq_true h1.1, decide_eq_true h1.2]; rfl
theorem may_pst {o : List Cd} {t : ByteArray} (h64 : o.length ≤ 64) (hw : ∀ c ∈ o, c.w.length ≤ 120) : mayP (pst (o.map (·.w)) t) = true := by
  have hall : (pst (o.map (·.w)) t).all (fun p => decide (0 < p.2.length) && decide (p.2.length ≤ 120) && risE 120 (-1) p.2) = true := by
    rw [List.all_eq_true]
    intro p hp
    obtain ⟨k, hk, rfl, hne⟩ := mem_pst.1 hp
    have hk' : k < o.length := by simpa using hk
    simp only [List.getElem_map] at hne ⊢
    have h1 := hw _ (List.getElem_mem hk')
    have h2 := plc_len (ws := o[k].w) (x := t)
    have h3 : 0 < (plc o[k].w t).length := List.length_pos_iff.2 hne
    rw [decide_eq_true h3, decide_eq_true (by omega), risE_of (fun x hx => ?_) (plc_pw _ _)]
    · rfl
    · obtain ⟨j, hj, rfl, _⟩ := mem_plc.1 hx; omega
  have hlen := pst_len (ls := o.map (·.w)) (x := t)
  rw [List.length_map] at hlen
  rw [mayP, hall, decide_eq_true (by omega), docsL, risE_of (fun x hx => ?_) (pst_pw _ _)]
  · rfl
  · obtain ⟨p, hp, rfl⟩ := List.mem_map.1 hx
    obtain ⟨k, hk, rfl, _⟩ := mem_pst.1 hp
    have hk' : k < o.length := by simpa using hk
    simp only; omega
theorem ids_get {o : List Cd} {b : Bool} {k : Nat} (h : k < o.length) : (segOf o b).ids.getD k default = o[k].id := by simp [segOf, List.getD, h]
theorem keys_get {o : List Cd} {b : Bool} {k : Nat} (h : k < o.length) : (segOf o b).keys.getD k 0 = o[k].key := by simp [segOf, List.getD, h]
theorem lens_get {o : List Cd} {b : Bool} {k : Nat} (h : k < o.length) : (segOf o b).lens.getD k 0 = (o[k].w.length : Int) := by simp [segOf, List.getD, h]
theorem mayC_w {c : Cd} (h : mayC c = true) : fitsS c.id 16 = true ∧ (0 ≤ c.key ∧ c.key ≤ 1073741824) ∧ c.w.length ≤ 120 ∧ ∀ x ∈ c.w, fitsS x 32 = true := by
  simp only [mayC, Bool.and_eq_true, decide_eq_true_eq, List.all_eq_true] at h
  exact ⟨h.1, ⟨h.2.1, h.2.2.1⟩, h.2.2.2.1, h.2.2.2.2⟩
theorem seg_may_ok {o : List Cd} {b : Bool} (hm : ∀ c ∈ o, mayC c = true) (hn : (o.map (·.id)).Nodup) (h64 : o.length ≤ 64) (h200 : (wlS (o.flatMap (·.w))).length ≤ 200) (hs : b = true → o.Pairwise fun x y => befC x y = true) : SgP (segOf o b) := by
  refine ⟨by simp [segOf]; exact h64, by simp [segOf], by simp [segOf], hn, fun k hk => ?_, ?_⟩
  · have hk' : k < o.length := by simpa [segOf] using hk
    obtain ⟨m1, m2, m3, _⟩ := mayC_w (hm _ (List.getElem_mem hk'))
    unfold okD
    rw [ids_get hk', keys_get hk', lens_get hk']
    refine ⟨m1, m2, by omega, fun hb h0 => ?_⟩
    rw [ids_get (by omega), keys_get (by omega)]
    exact List.pairwise_iff_getElem.1 (hs hb) (k - 1) k (by omega) hk' (by omega)
  · refine ⟨fun x hx => ?_, prs_nodup o, fun q hq => ?_, ?_, ?_⟩
    · obtain ⟨t, ht, rfl⟩ := List.mem_map.1 hx
      refine ⟨?_, may_pst h64 fun c hc => (mayC_w (hm c hc)).2.2.1⟩
      obtain ⟨c, hc, hy⟩ := List.mem_flatMap.1 (wl_mem.1 ht)
      obtain ⟨k, hk, rfl⟩ := List.getElem_of_mem hc
      obtain ⟨j, hj, rfl⟩ := List.getElem_of_mem hy
      have : ((k : Int), (j : Int)) ∈ prT (tmOf o o[k].w[j]) := mem_prT.2 ⟨k, hk, j, hj, rfl, rfl⟩
      intro e
      rw [prT, e] at this; cases this
    · obtain ⟨k, hk, j, hj, rfl⟩ := mem_prs.1 hq
      refine ⟨by simp [segOf]; exact hk, ?_⟩
      rw [Int.toNat_natCast, lens_get hk]; simp only; omega
    · refine decide_eq_true ⟨fun k hk => ?_, by simpa [segOf] using h200⟩
      have e : (segOf o b).terms.map (·.t) = wlS (o.flatMap (·.w)) := by simp only [segOf, List.map_map]; exact List.map_id'' (fun _ => rfl) _
      simp only [e] at hk ⊢
      refine ⟨?_, fun h0 => List.pairwise_iff_getElem.1 (wl_srt _) (k - 1) k (by omega) hk (by omega)⟩
      obtain ⟨c, hc, hy⟩ := List.mem_flatMap.1 (wl_mem.1 (List.getElem_mem hk))
      exact (mayC_w (hm c hc)).2.2.2 _ hy
    · show (o.map fun c => (c.w.length : Int)).sum = ((prs (termsS o)).length : Int)
      rw [sum_len, prs_len]
end Go.Aw
namespace Go.Aw
open Go.Proofs Go.Sort
set_option maxRecDepth 100000
set_option maxHeartbeats 4000000

/- LAW SEGBACK -/
theorem bTs_strs : ∀ (xs : List ByteArray), xs.length ≤ bTs (xs.map T.s) ∧ ∀ x ∈ xs, x.size < bTs (xs.map T.s)
  | [] => by simp [bTs]
  | x :: xs => by
    obtain ⟨h1, h2⟩ := bTs_strs xs
    have e : bTs ((x :: xs).map T.s) = x.size + 1 + bTs (xs.map T.s) := by simp [bTs, bT]
    rw [e]
    refine ⟨by simp only [List.length_cons]; omega, fun y hy => ?_⟩
    rcases List.mem_cons.1 hy with rfl | hy
    · omega
    · have := h2 y hy; omega
theorem bTs_cards : ∀ (l : List Cd), l.length ≤ bTs (l.map tcard) ∧ (l.flatMap (·.w)).length ≤ bTs (l.map tcard) ∧ ∀ c ∈ l, c.id.size < bTs (l.map tcard) ∧ ∀ x ∈ c.w, x.size < bTs (l.map tcard)
  | [] => by simp [bTs]
  | c :: l => by
    obtain ⟨h1, h2, h3⟩ := bTs_cards l
    obtain ⟨g1, g2⟩ := bTs_strs c.w
    have e : bTs ((c :: l).map tcard) = c.id.size + bTs (c.w.map T.s) + 3 + bTs (l.map tcard) := by simp [bTs, bT, tcard]; omega
    rw [e]
    refine ⟨by simp only [List.length_cons]; omega, by simp only [List.flatMap_cons, List.length_append]; omega, fun d hd => ?_⟩
    rcases List.mem_cons.1 hd with rfl | hd
    · exact ⟨by omega, fun x hx => by have := g2 x hx; omega⟩
    · exact ⟨by have := (h3 d hd).1; omega, fun x hx => by have := (h3 d hd).2 x hx; omega⟩
theorem bnd_of {l : List Cd} (h : bTs (l.map tcard) ≤ 1048576) : bndC l := by
  obtain ⟨h1, h2, h3⟩ := bTs_cards l
  exact ⟨by omega, by omega, fun c hc => ⟨by have := (h3 c hc).1; unfold bigB; omega, fun x hx => by have := (h3 c hc).2 x hx; unfold bigB; omega⟩⟩
theorem build_zero {l : List Cd} {b : Bool} (h : (buildS l b).2 = 0) : okL l = true ∧ l.length ≤ 64 ∧ (wlS ((ordO l b).flatMap (·.w))).length ≤ 200 ∧ buildS l b = (segOf (ordO l b) b, 0) := by
  unfold buildS at h ⊢
  by_cases h1 : okL l = false
  · rw [if_pos h1] at h; cases h
  · rw [if_neg h1] at h ⊢
    by_cases h2 : 64 < l.length
    · rw [if_pos h2] at h; cases h
    · rw [if_neg h2] at h ⊢
      by_cases h3 : 200 < (wlS ((ordO l b).flatMap (·.w))).length
      · rw [if_pos h3] at h; cases h
      · rw [if_neg h3]
        exact ⟨by simpa using h1, by omega, by omega, rfl⟩
theorem okL_all {l : List Cd} (h : okL l = true) : (∀ c ∈ l, mayC c = true) ∧ (l.map (·.id)).Nodup := by
  simp only [okL, Bool.and_eq_true, List.all_eq_true, decide_eq_true_eq] at h
  exact h
theorem inC_bef {l : List Cd} (h : (l.map (·.id)).Nodup) : (inC l).Pairwise fun x y => befC x y = true := by
  have hn : ((inC l).map (·.id)).Nodup := (inC_perm.map (·.id)).nodup_iff.2 h
  refine List.pairwise_iff_getElem.2 fun i j hi hj hij => ?_
  have h1 := List.pairwise_iff_getElem.1 (inC_srt l) i j hi hj hij
  have h2 : (inC l)[i].id ≠ (inC l)[j].id := by
    have := List.pairwise_iff_getElem.1 hn i j (by simpa using hi) (by simpa using hj) hij
    simpa using this
  cases q : befC (inC l)[i] (inC l)[j] with
  | true => rfl
  | false => exact absurd (bef_same q h1).2 h2
theorem seg_ok {l : List Cd} {b : Bool} (h : (buildS l b).2 = 0) : SgP (segOf (ordO l b) b) := by
  obtain ⟨h1, h2, h3, _⟩ := build_zero h
  obtain ⟨g1, g2⟩ := okL_all h1
  have hp := ordO_perm (l := l) (b := b)
  refine seg_may_ok (fun c hc => g1 c (hp.mem_iff.1 hc)) ((hp.map (·.id)).nodup_iff.2 g2) (by rw [hp.length_eq]; exact h2) h3 fun e => ?_
  subst e
  exact inC_bef g2
end Go.Aw
namespace Go.Aw
open Go.Proofs Go.Sort
set_option maxRecDepth 100000
set_option maxHeartbeats 4000000

/- LAW SEGHAS -/
theorem has_eq {o : List Cd} {b : Bool} {y : ByteArray} (h : SgP (segOf o b)) : hasS (segOf o b) y = pst (o.map (·.w)) y := by
  rw [hasS, if_pos h]
  cases hf : (segOf o b).terms.find? (fun x => decide (x.t = y)) with
  | some x =>
    have h1 := List.mem_of_find?_eq_some hf
    have h2 := List.find?_some hf
    simp only [decide_eq_true_eq] at h2
    obtain ⟨t, _, rfl⟩ := List.mem_map.1 h1
    subst h2; rfl
  | none =>
    refine (pst_none fun w hw hy => ?_).symm
    obtain ⟨c, hc, rfl⟩ := List.mem_map.1 hw
    have hm : tmOf o y ∈ (segOf o b).terms := List.mem_map.2 ⟨y, wl_mem.2 (List.mem_flatMap.2 ⟨c, hc, hy⟩), rfl⟩
    have := List.find?_eq_none.1 hf _ hm
    simp [tmOf] at this
end Go.Aw
namespace Go.Aw
open Go.Proofs Go.Sort
set_option maxRecDepth 100000
set_option maxHeartbeats 4000000

/- LAW PHRASEWORDS -/
theorem pst_stands {l : List Cd} {y : ByteArray} {d a : Nat} (hd : d < l.length) : standsL (pst (l.map (·.w)) y) (d : Int) (a : Int) = true ↔ l[d].w[a]? = some y := by
  rw [stands_mem]
  constructor
  · rintro ⟨p, hp, h1, h2⟩
    obtain ⟨k, hk, rfl, _⟩ := mem_pst.1 hp
    have h1 : (k : Int) = (d : Int) := h1
    have : k = d := by omega
    subst this
    obtain ⟨j, hj, h3, h4⟩ := mem_plc.1 h2
    have : j = a := by omega
    subst this
    simp only [List.getElem_map] at hj h4
    rw [List.getElem?_eq_getElem hj, h4]
  · intro h
    have ha := (List.getElem?_eq_some_iff.1 h).1
    have hd2 : d < (l.map (·.w)).length := by simpa using hd
    have hm : (a : Int) ∈ plc (l.map (·.w))[d] y := mem_plc.2 ⟨a, by simpa using ha, rfl, by have := (List.getElem?_eq_some_iff.1 h).2; simpa using this⟩
    exact ⟨_, mem_pst.2 ⟨d, by simpa using hd, rfl, fun e => by rw [e] at hm; simp at hm⟩, rfl, hm⟩
/-- so many words stand in a row from a place on -/
def isW (c w : List ByteArray) (a n : Nat) : Bool := decide (∀ k, k < n → c[a + k]? = w[k]?)
theorem isW_succ {c w : List ByteArray} {a n : Nat} : isW c w a (n + 1) = (isW c w a n && decide (c[a + n]? = w[n]?)) := by
  rw [isW, isW, ← Bool.decide_and]
  refine decide_eq_decide.2 ⟨fun h => ⟨fun k hk => h k (by omega), h n (by omega)⟩, fun h k hk => ?_⟩
  by_cases e : k = n
  · subst e; exact h.2
  · exact h.1 k (by omega)
theorem near_isW {l : List Cd} {w : List ByteArray} {d a : Nat} (hd : d < l.length) (hw : w ≠ []) (hm : ∀ y, mayP (pst (l.map (·.w)) y) = true) : standsL (refNear (w.map fun x => pst (l.map (·.w)) x)) (d : Int) (a : Int) = isW l[d].w w a w.length := by
  rw [Bool.eq_iff_iff, near_stands (by simpa using hw) (by rw [List.all_map, List.all_eq_true]; exact fun x _ => hm x), isW, decide_eq_true_iff]
  constructor
  · intro h k hk
    have := h k (by simpa using hk)
    rw [List.getElem_map, show (a : Int) + (k : Int) = ((a + k : Nat) : Int) from by omega, pst_stands hd] at this
    rw [this, List.getElem?_eq_getElem hk]
  · intro h k hk
    rw [List.length_map] at hk
    rw [List.getElem_map, show (a : Int) + (k : Int) = ((a + k : Nat) : Int) from by omega, pst_stands hd, h k hk, List.getElem?_eq_getElem hk]
def vpss (l : List Cd) (w : List ByteArray) : List V := w.map fun x => V.g (tposts (pst (l.map (·.w)) x))
theorem c_law17_PhraseWords_upto : ∀ ys, TVs [.sl 3 (.fc .s (.fc (.i .i64) (.fc (.sl 1 .s) .fn))), .sl 1 .s, .i .i64, .i .i64] ys → bTs ys ≤ 1048576 → CG Try.prog 13 ys (.b true) := by
  intro ys hy hbt
  obtain ⟨y0, ys, rfl, h0, hy⟩ := tvs_cons hy
  obtain ⟨y1, ys, rfl, h1, hy⟩ := tvs_cons hy
  obtain ⟨y2, ys, rfl, h2, hy⟩ := tvs_cons hy
  obtain ⟨y3, ys, rfl, h3, hy⟩ := tvs_cons hy
  cases tvs_nil hy
  obtain ⟨l, rfl, _, _⟩ := tv_cards h0
  obtain ⟨w, rfl, _⟩ := tv_strs h1
  obtain ⟨d, rfl, _⟩ := tv_int h2
  obtain ⟨a, rfl, _⟩ := tv_int h3
  have hb : bndC l := bnd_of (by simp only [bTs, tcards, bT] at hbt; omega)
  obtain ⟨hb1, hb2, hb3⟩ := id hb
  refine ⟨k_law17_PhraseWords.calls ?_⟩
  have fin : ∀ L : List Blk, Ends [] (fun r h => r = V.g (T.b true) ∧ h = []) (V.g (T.b true)) L := fun L => Ends.ground (H := []) (L := L) 0 rfl ⟨rfl, rfl⟩
  have few := c_law08_Few l (by omega) (fun x hx => by have := hb.w x hx; omega)
  have b1 := c_seg_Build l false hb
  have hma : (l.map tcard).length = l.length := by simp
  have hmw : (w.map T.s).length = w.length := by simp
  by_cases hz : few8 l ∧ (buildS l false).2 = 0
  · obtain ⟨hf, hz⟩ := hz
    obtain ⟨hok, h64, h200, hS⟩ := build_zero hz
    have hsg := seg_ok hz
    have hbs := seg_bnd (b := false) hb
    rw [decide_eq_true hf] at few
    have ho : ordO l false = l := rfl
    rw [hS, ho] at b1
    rw [ho] at hsg
    (try conv => whnf); repeat ((first | refine (c_law17_awake).go rfl ?_ | refine ⟨_, (c_law17_awake).go rfl ⟨rfl, rfl⟩, ?_⟩ | refine (few).go rfl ?_ | refine ⟨_, (few).go rfl ⟨rfl, rfl⟩, ?_⟩ | refine (b1).go rfl ?_ | refine ⟨_, (b1).go rfl ⟨rfl, rfl⟩, ?_⟩ | refine And.intro (show cellsAll _ _ from by repeat (first | exact trivial | refine ⟨⟨rfl, rfl⟩, ?_⟩)) ?_ | refine ⟨_, getZ (by omega), ?_⟩ | refine ⟨_, getI (by omega) (by omega), ?_⟩ | refine ⟨by omega, rfl, ?_⟩ | refine ⟨by (simp; omega), rfl, ?_⟩ | refine ⟨rfl, _, rfl, ⟨rfl, rfl, by decide⟩, ?_⟩ | refine ⟨rfl, _, rfl, ?_⟩ | refine ⟨rfl, _, getO (by omega), ?_⟩ | refine ⟨rfl, ⟨by omega, by omega, by omega⟩, ?_⟩ | refine ⟨⟨rfl, rfl⟩, ?_⟩ | refine ⟨⟨rfl, rfl, rfl⟩, ?_⟩ | refine ⟨⟨rfl, rfl, by decide⟩, ?_⟩ | refine ⟨rfl, ?_⟩ | refine ⟨⟨by omega, by omega⟩, ⟨rfl, rfl⟩, ?_⟩ | refine ⟨in64 (by omega) (by omega), ?_⟩ | refine Br.dec (fun _ => ?_) (fun hh => absurd (by omega) hh) | refine Br.dec (fun hh => absurd hh (by omega)) (fun _ => ?_) | refine Br.eq (fun _ => ?_) (fun hh => absurd (by omega) hh) | refine Br.eq (fun hh => absurd hh (by omega)) (fun _ => ?_) | refine Br.ne (fun _ => ?_) (fun hh => absurd (by omega) hh) | refine Br.ne (fun hh => absurd hh (by omega)) (fun _ => ?_) | refine ⟨_, rfl, ?_⟩ | rw [← List.map_drop, ← List.map_take]); conv => whnf)
    refine Br.dec (fun e1 => ?_) (fun e1 => ?_)
    · (try conv => whnf); repeat ((first | refine And.intro (show cellsAll _ _ from by repeat (first | exact trivial | refine ⟨⟨rfl, rfl⟩, ?_⟩)) ?_ | refine ⟨_, getZ (by omega), ?_⟩ | refine ⟨_, getI (by omega) (by omega), ?_⟩ | refine ⟨by omega, rfl, ?_⟩ | refine ⟨by (simp; omega), rfl, ?_⟩ | refine ⟨rfl, _, rfl, ⟨rfl, rfl, by decide⟩, ?_⟩ | refine ⟨rfl, _, rfl, ?_⟩ | refine ⟨rfl, _, getO (by omega), ?_⟩ | refine ⟨rfl, ⟨by omega, by omega, by omega⟩, ?_⟩ | refine ⟨⟨rfl, rfl⟩, ?_⟩ | refine ⟨⟨rfl, rfl, rfl⟩, ?_⟩ | refine ⟨⟨rfl, rfl, by decide⟩, ?_⟩ | refine ⟨rfl, ?_⟩ | refine ⟨⟨by omega, by omega⟩, ⟨rfl, rfl⟩, ?_⟩ | refine ⟨in64 (by omega) (by omega), ?_⟩ | refine Br.dec (fun _ => ?_) (fun hh => absurd (by omega) hh) | refine Br.dec (fun hh => absurd hh (by omega)) (fun _ => ?_) | refine Br.eq (fun _ => ?_) (fun hh => absurd (by omega) hh) | refine Br.eq (fun hh => absurd hh (by omega)) (fun _ => ?_) | refine Br.ne (fun _ => ?_) (fun hh => absurd (by omega) hh) | refine Br.ne (fun hh => absurd hh (by omega)) (fun _ => ?_) | refine ⟨_, rfl, ?_⟩ | rw [← List.map_drop, ← List.map_take]); conv => whnf)
      exact ⟨fin _⟩
    (try conv => whnf); repeat ((first | refine And.intro (show cellsAll _ _ from by repeat (first | exact trivial | refine ⟨⟨rfl, rfl⟩, ?_⟩)) ?_ | refine ⟨_, getZ (by omega), ?_⟩ | refine ⟨_, getI (by omega) (by omega), ?_⟩ | refine ⟨by omega, rfl, ?_⟩ | refine ⟨by (simp; omega), rfl, ?_⟩ | refine ⟨rfl, _, rfl, ⟨rfl, rfl, by decide⟩, ?_⟩ | refine ⟨rfl, _, rfl, ?_⟩ | refine ⟨rfl, _, getO (by omega), ?_⟩ | refine ⟨rfl, ⟨by omega, by omega, by omega⟩, ?_⟩ | refine ⟨⟨rfl, rfl⟩, ?_⟩ | refine ⟨⟨rfl, rfl, rfl⟩, ?_⟩ | refine ⟨⟨rfl, rfl, by decide⟩, ?_⟩ | refine ⟨rfl, ?_⟩ | refine ⟨⟨by omega, by omega⟩, ⟨rfl, rfl⟩, ?_⟩ | refine ⟨in64 (by omega) (by omega), ?_⟩ | refine Br.dec (fun _ => ?_) (fun hh => absurd (by omega) hh) | refine Br.dec (fun hh => absurd hh (by omega)) (fun _ => ?_) | refine Br.eq (fun _ => ?_) (fun hh => absurd (by omega) hh) | refine Br.eq (fun hh => absurd hh (by omega)) (fun _ => ?_) | refine Br.ne (fun _ => ?_) (fun hh => absurd (by omega) hh) | refine Br.ne (fun hh => absurd hh (by omega)) (fun _ => ?_) | refine ⟨_, rfl, ?_⟩ | rw [← List.map_drop, ← List.map_take]); conv => whnf)
    refine Br.dec (fun e2 => ?_) (fun e2 => ?_)
    · (try conv => whnf); repeat ((first | refine And.intro (show cellsAll _ _ from by repeat (first | exact trivial | refine ⟨⟨rfl, rfl⟩, ?_⟩)) ?_ | refine ⟨_, getZ (by omega), ?_⟩ | refine ⟨_, getI (by omega) (by omega), ?_⟩ | refine ⟨by omega, rfl, ?_⟩ | refine ⟨by (simp; omega), rfl, ?_⟩ | refine ⟨rfl, _, rfl, ⟨rfl, rfl, by decide⟩, ?_⟩ | refine ⟨rfl, _, rfl, ?_⟩ | refine ⟨rfl, _, getO (by omega), ?_⟩ | refine ⟨rfl, ⟨by omega, by omega, by omega⟩, ?_⟩ | refine ⟨⟨rfl, rfl⟩, ?_⟩ | refine ⟨⟨rfl, rfl, rfl⟩, ?_⟩ | refine ⟨⟨rfl, rfl, by decide⟩, ?_⟩ | refine ⟨rfl, ?_⟩ | refine ⟨⟨by omega, by omega⟩, ⟨rfl, rfl⟩, ?_⟩ | refine ⟨in64 (by omega) (by omega), ?_⟩ | refine Br.dec (fun _ => ?_) (fun hh => absurd (by omega) hh) | refine Br.dec (fun hh => absurd hh (by omega)) (fun _ => ?_) | refine Br.eq (fun _ => ?_) (fun hh => absurd (by omega) hh) | refine Br.eq (fun hh => absurd hh (by omega)) (fun _ => ?_) | refine Br.ne (fun _ => ?_) (fun hh => absurd (by omega) hh) | refine Br.ne (fun hh => absurd hh (by omega)) (fun _ => ?_) | refine ⟨_, rfl, ?_⟩ | rw [← List.map_drop, ← List.map_take]); conv => whnf)
      exact ⟨fin _⟩
    (try conv => whnf); repeat ((first | refine And.intro (show cellsAll _ _ from by repeat (first | exact trivial | refine ⟨⟨rfl, rfl⟩, ?_⟩)) ?_ | refine ⟨_, getZ (by omega), ?_⟩ | refine ⟨_, getI (by omega) (by omega), ?_⟩ | refine ⟨by omega, rfl, ?_⟩ | refine ⟨by (simp; omega), rfl, ?_⟩ | refine ⟨rfl, _, rfl, ⟨rfl, rfl, by decide⟩, ?_⟩ | refine ⟨rfl, _, rfl, ?_⟩ | refine ⟨rfl, _, getO (by omega), ?_⟩ | refine ⟨rfl, ⟨by omega, by omega, by omega⟩, ?_⟩ | refine ⟨⟨rfl, rfl⟩, ?_⟩ | refine ⟨⟨rfl, rfl, rfl⟩, ?_⟩ | refine ⟨⟨rfl, rfl, by decide⟩, ?_⟩ | refine ⟨rfl, ?_⟩ | refine ⟨⟨by omega, by omega⟩, ⟨rfl, rfl⟩, ?_⟩ | refine ⟨in64 (by omega) (by omega), ?_⟩ | refine Br.dec (fun _ => ?_) (fun hh => absurd (by omega) hh) | refine Br.dec (fun hh => absurd hh (by omega)) (fun _ => ?_) | refine Br.eq (fun _ => ?_) (fun hh => absurd (by omega) hh) | refine Br.eq (fun hh => absurd hh (by omega)) (fun _ => ?_) | refine Br.ne (fun _ => ?_) (fun hh => absurd (by omega) hh) | refine Br.ne (fun hh => absurd hh (by omega)) (fun _ => ?_) | refine ⟨_, rfl, ?_⟩ | rw [← List.map_drop, ← List.map_take]); conv => whnf)
    refine Br.dec (fun e3 => ?_) (fun e3 => ?_)
    · (try conv => whnf); repeat ((first | refine And.intro (show cellsAll _ _ from by repeat (first | exact trivial | refine ⟨⟨rfl, rfl⟩, ?_⟩)) ?_ | refine ⟨_, getZ (by omega), ?_⟩ | refine ⟨_, getI (by omega) (by omega), ?_⟩ | refine ⟨by omega, rfl, ?_⟩ | refine ⟨by (simp; omega), rfl, ?_⟩ | refine ⟨rfl, _, rfl, ⟨rfl, rfl, by decide⟩, ?_⟩ | refine ⟨rfl, _, rfl, ?_⟩ | refine ⟨rfl, _, getO (by omega), ?_⟩ | refine ⟨rfl, ⟨by omega, by omega, by omega⟩, ?_⟩ | refine ⟨⟨rfl, rfl⟩, ?_⟩ | refine ⟨⟨rfl, rfl, rfl⟩, ?_⟩ | refine ⟨⟨rfl, rfl, by decide⟩, ?_⟩ | refine ⟨rfl, ?_⟩ | refine ⟨⟨by omega, by omega⟩, ⟨rfl, rfl⟩, ?_⟩ | refine ⟨in64 (by omega) (by omega), ?_⟩ | refine Br.dec (fun _ => ?_) (fun hh => absurd (by omega) hh) | refine Br.dec (fun hh => absurd hh (by omega)) (fun _ => ?_) | refine Br.eq (fun _ => ?_) (fun hh => absurd (by omega) hh) | refine Br.eq (fun hh => absurd hh (by omega)) (fun _ => ?_) | refine Br.ne (fun _ => ?_) (fun hh => absurd (by omega) hh) | refine Br.ne (fun hh => absurd hh (by omega)) (fun _ => ?_) | refine ⟨_, rfl, ?_⟩ | rw [← List.map_drop, ← List.map_take]); conv => whnf)
      exact ⟨fin _⟩
    (try conv => whnf); repeat ((first | refine And.intro (show cellsAll _ _ from by repeat (first | exact trivial | refine ⟨⟨rfl, rfl⟩, ?_⟩)) ?_ | refine ⟨_, getZ (by omega), ?_⟩ | refine ⟨_, getI (by omega) (by omega), ?_⟩ | refine ⟨by omega, rfl, ?_⟩ | refine ⟨by (simp; omega), rfl, ?_⟩ | refine ⟨rfl, _, rfl, ⟨rfl, rfl, by decide⟩, ?_⟩ | refine ⟨rfl, _, rfl, ?_⟩ | refine ⟨rfl, _, getO (by omega), ?_⟩ | refine ⟨rfl, ⟨by omega, by omega, by omega⟩, ?_⟩ | refine ⟨⟨rfl, rfl⟩, ?_⟩ | refine ⟨⟨rfl, rfl, rfl⟩, ?_⟩ | refine ⟨⟨rfl, rfl, by decide⟩, ?_⟩ | refine ⟨rfl, ?_⟩ | refine ⟨⟨by omega, by omega⟩, ⟨rfl, rfl⟩, ?_⟩ | refine ⟨in64 (by omega) (by omega), ?_⟩ | refine Br.dec (fun _ => ?_) (fun hh => absurd (by omega) hh) | refine Br.dec (fun hh => absurd hh (by omega)) (fun _ => ?_) | refine Br.eq (fun _ => ?_) (fun hh => absurd (by omega) hh) | refine Br.eq (fun hh => absurd hh (by omega)) (fun _ => ?_) | refine Br.ne (fun _ => ?_) (fun hh => absurd (by omega) hh) | refine Br.ne (fun hh => absurd hh (by omega)) (fun _ => ?_) | refine ⟨_, rfl, ?_⟩ | rw [← List.map_drop, ← List.map_take]); conv => whnf)
    refine Br.dec (fun e4 => ?_) (fun e4 => ?_)
    · (try conv => whnf); repeat ((first | refine And.intro (show cellsAll _ _ from by repeat (first | exact trivial | refine ⟨⟨rfl, rfl⟩, ?_⟩)) ?_ | refine ⟨_, getZ (by omega), ?_⟩ | refine ⟨_, getI (by omega) (by omega), ?_⟩ | refine ⟨by omega, rfl, ?_⟩ | refine ⟨by (simp; omega), rfl, ?_⟩ | refine ⟨rfl, _, rfl, ⟨rfl, rfl, by decide⟩, ?_⟩ | refine ⟨rfl, _, rfl, ?_⟩ | refine ⟨rfl, _, getO (by omega), ?_⟩ | refine ⟨rfl, ⟨by omega, by omega, by omega⟩, ?_⟩ | refine ⟨⟨rfl, rfl⟩, ?_⟩ | refine ⟨⟨rfl, rfl, rfl⟩, ?_⟩ | refine ⟨⟨rfl, rfl, by decide⟩, ?_⟩ | refine ⟨rfl, ?_⟩ | refine ⟨⟨by omega, by omega⟩, ⟨rfl, rfl⟩, ?_⟩ | refine ⟨in64 (by omega) (by omega), ?_⟩ | refine Br.dec (fun _ => ?_) (fun hh => absurd (by omega) hh) | refine Br.dec (fun hh => absurd hh (by omega)) (fun _ => ?_) | refine Br.eq (fun _ => ?_) (fun hh => absurd (by omega) hh) | refine Br.eq (fun hh => absurd hh (by omega)) (fun _ => ?_) | refine Br.ne (fun _ => ?_) (fun hh => absurd (by omega) hh) | refine Br.ne (fun hh => absurd hh (by omega)) (fun _ => ?_) | refine ⟨_, rfl, ?_⟩ | rw [← List.map_drop, ← List.map_take]); conv => whnf)
      exact ⟨fin _⟩
    (try conv => whnf); repeat ((first | refine And.intro (show cellsAll _ _ from by repeat (first | exact trivial | refine ⟨⟨rfl, rfl⟩, ?_⟩)) ?_ | refine ⟨_, getZ (by omega), ?_⟩ | refine ⟨_, getI (by omega) (by omega), ?_⟩ | refine ⟨by omega, rfl, ?_⟩ | refine ⟨by (simp; omega), rfl, ?_⟩ | refine ⟨rfl, _, rfl, ⟨rfl, rfl, by decide⟩, ?_⟩ | refine ⟨rfl, _, rfl, ?_⟩ | refine ⟨rfl, _, getO (by omega), ?_⟩ | refine ⟨rfl, ⟨by omega, by omega, by omega⟩, ?_⟩ | refine ⟨⟨rfl, rfl⟩, ?_⟩ | refine ⟨⟨rfl, rfl, rfl⟩, ?_⟩ | refine ⟨⟨rfl, rfl, by decide⟩, ?_⟩ | refine ⟨rfl, ?_⟩ | refine ⟨⟨by omega, by omega⟩, ⟨rfl, rfl⟩, ?_⟩ | refine ⟨in64 (by omega) (by omega), ?_⟩ | refine Br.dec (fun _ => ?_) (fun hh => absurd (by omega) hh) | refine Br.dec (fun hh => absurd hh (by omega)) (fun _ => ?_) | refine Br.eq (fun _ => ?_) (fun hh => absurd (by omega) hh) | refine Br.eq (fun hh => absurd hh (by omega)) (fun _ => ?_) | refine Br.ne (fun _ => ?_) (fun hh => absurd (by omega) hh) | refine Br.ne (fun hh => absurd hh (by omega)) (fun _ => ?_) | refine ⟨_, rfl, ?_⟩ | rw [← List.map_drop, ← List.map_take]); conv => whnf)
    refine Br.dec (fun e5 => ?_) (fun e5 => ?_)
    · (try conv => whnf); repeat ((first | refine And.intro (show cellsAll _ _ from by repeat (first | exact trivial | refine ⟨⟨rfl, rfl⟩, ?_⟩)) ?_ | refine ⟨_, getZ (by omega), ?_⟩ | refine ⟨_, getI (by omega) (by omega), ?_⟩ | refine ⟨by omega, rfl, ?_⟩ | refine ⟨by (simp; omega), rfl, ?_⟩ | refine ⟨rfl, _, rfl, ⟨rfl, rfl, by decide⟩, ?_⟩ | refine ⟨rfl, _, rfl, ?_⟩ | refine ⟨rfl, _, getO (by omega), ?_⟩ | refine ⟨rfl, ⟨by omega, by omega, by omega⟩, ?_⟩ | refine ⟨⟨rfl, rfl⟩, ?_⟩ | refine ⟨⟨rfl, rfl, rfl⟩, ?_⟩ | refine ⟨⟨rfl, rfl, by decide⟩, ?_⟩ | refine ⟨rfl, ?_⟩ | refine ⟨⟨by omega, by omega⟩, ⟨rfl, rfl⟩, ?_⟩ | refine ⟨in64 (by omega) (by omega), ?_⟩ | refine Br.dec (fun _ => ?_) (fun hh => absurd (by omega) hh) | refine Br.dec (fun hh => absurd hh (by omega)) (fun _ => ?_) | refine Br.eq (fun _ => ?_) (fun hh => absurd (by omega) hh) | refine Br.eq (fun hh => absurd hh (by omega)) (fun _ => ?_) | refine Br.ne (fun _ => ?_) (fun hh => absurd (by omega) hh) | refine Br.ne (fun hh => absurd hh (by omega)) (fun _ => ?_) | refine ⟨_, rfl, ?_⟩ | rw [← List.map_drop, ← List.map_take]); conv => whnf)
      exact ⟨fin _⟩
    (try conv => whnf); repeat ((first | refine And.intro (show cellsAll _ _ from by repeat (first | exact trivial | refine ⟨⟨rfl, rfl⟩, ?_⟩)) ?_ | refine ⟨_, getZ (by omega), ?_⟩ | refine ⟨_, getI (by omega) (by omega), ?_⟩ | refine ⟨by omega, rfl, ?_⟩ | refine ⟨by (simp; omega), rfl, ?_⟩ | refine ⟨rfl, _, rfl, ⟨rfl, rfl, by decide⟩, ?_⟩ | refine ⟨rfl, _, rfl, ?_⟩ | refine ⟨rfl, _, getO (by omega), ?_⟩ | refine ⟨rfl, ⟨by omega, by omega, by omega⟩, ?_⟩ | refine ⟨⟨rfl, rfl⟩, ?_⟩ | refine ⟨⟨rfl, rfl, rfl⟩, ?_⟩ | refine ⟨⟨rfl, rfl, by decide⟩, ?_⟩ | refine ⟨rfl, ?_⟩ | refine ⟨⟨by omega, by omega⟩, ⟨rfl, rfl⟩, ?_⟩ | refine ⟨in64 (by omega) (by omega), ?_⟩ | refine Br.dec (fun _ => ?_) (fun hh => absurd (by omega) hh) | refine Br.dec (fun hh => absurd hh (by omega)) (fun _ => ?_) | refine Br.eq (fun _ => ?_) (fun hh => absurd (by omega) hh) | refine Br.eq (fun hh => absurd hh (by omega)) (fun _ => ?_) | refine Br.ne (fun _ => ?_) (fun hh => absurd (by omega) hh) | refine Br.ne (fun hh => absurd hh (by omega)) (fun _ => ?_) | refine ⟨_, rfl, ?_⟩ | rw [← List.map_drop, ← List.map_take]); conv => whnf)
    refine Br.dec (fun e6 => ?_) (fun e6 => ?_)
    · (try conv => whnf); repeat ((first | refine And.intro (show cellsAll _ _ from by repeat (first | exact trivial | refine ⟨⟨rfl, rfl⟩, ?_⟩)) ?_ | refine ⟨_, getZ (by omega), ?_⟩ | refine ⟨_, getI (by omega) (by omega), ?_⟩ | refine ⟨by omega, rfl, ?_⟩ | refine ⟨by (simp; omega), rfl, ?_⟩ | refine ⟨rfl, _, rfl, ⟨rfl, rfl, by decide⟩, ?_⟩ | refine ⟨rfl, _, rfl, ?_⟩ | refine ⟨rfl, _, getO (by omega), ?_⟩ | refine ⟨rfl, ⟨by omega, by omega, by omega⟩, ?_⟩ | refine ⟨⟨rfl, rfl⟩, ?_⟩ | refine ⟨⟨rfl, rfl, rfl⟩, ?_⟩ | refine ⟨⟨rfl, rfl, by decide⟩, ?_⟩ | refine ⟨rfl, ?_⟩ | refine ⟨⟨by omega, by omega⟩, ⟨rfl, rfl⟩, ?_⟩ | refine ⟨in64 (by omega) (by omega), ?_⟩ | refine Br.dec (fun _ => ?_) (fun hh => absurd (by omega) hh) | refine Br.dec (fun hh => absurd hh (by omega)) (fun _ => ?_) | refine Br.eq (fun _ => ?_) (fun hh => absurd (by omega) hh) | refine Br.eq (fun hh => absurd hh (by omega)) (fun _ => ?_) | refine Br.ne (fun _ => ?_) (fun hh => absurd (by omega) hh) | refine Br.ne (fun hh => absurd hh (by omega)) (fun _ => ?_) | refine ⟨_, rfl, ?_⟩ | rw [← List.map_drop, ← List.map_take]); conv => whnf)
      exact ⟨fin _⟩
    obtain ⟨d, rfl⟩ := Int.eq_ofNat_of_zero_le (by omega : 0 ≤ d)
    obtain ⟨a, rfl⟩ := Int.eq_ofNat_of_zero_le (by omega : 0 ≤ a)
    have hd : d < l.length := by omega
    have hwd := hb.w _ (List.getElem_mem hd)
    have hmd : (l[d].w.map T.s).length = l[d].w.length := by simp
    have hmay := okL_all hok
    have hmp : ∀ y, mayP (pst (l.map (·.w)) y) = true := fun y => may_pst h64 fun c hc => (mayC_w (hmay.1 c hc)).2.2.1
    (try conv => whnf); repeat ((first | refine And.intro (show cellsAll _ _ from by repeat (first | exact trivial | refine ⟨⟨rfl, rfl⟩, ?_⟩)) ?_ | refine ⟨_, getZ (by omega), ?_⟩ | refine ⟨_, getI (by omega) (by omega), ?_⟩ | refine ⟨by omega, rfl, ?_⟩ | refine ⟨by (simp; omega), rfl, ?_⟩ | refine ⟨rfl, _, rfl, ⟨rfl, rfl, by decide⟩, ?_⟩ | refine ⟨rfl, _, rfl, ?_⟩ | refine ⟨rfl, _, getO (by omega), ?_⟩ | refine ⟨rfl, ⟨by omega, by omega, by omega⟩, ?_⟩ | refine ⟨⟨rfl, rfl⟩, ?_⟩ | refine ⟨⟨rfl, rfl, rfl⟩, ?_⟩ | refine ⟨⟨rfl, rfl, by decide⟩, ?_⟩ | refine ⟨rfl, ?_⟩ | refine ⟨⟨by omega, by omega⟩, ⟨rfl, rfl⟩, ?_⟩ | refine ⟨in64 (by omega) (by omega), ?_⟩ | refine Br.dec (fun _ => ?_) (fun hh => absurd (by omega) hh) | refine Br.dec (fun hh => absurd hh (by omega)) (fun _ => ?_) | refine Br.eq (fun _ => ?_) (fun hh => absurd (by omega) hh) | refine Br.eq (fun hh => absurd hh (by omega)) (fun _ => ?_) | refine Br.ne (fun _ => ?_) (fun hh => absurd (by omega) hh) | refine Br.ne (fun hh => absurd hh (by omega)) (fun _ => ?_) | refine ⟨_, rfl, ?_⟩ | rw [← List.map_drop, ← List.map_take]); conv => whnf)
    refine SW.loopR (α := Nat) (fun k => tm 146 [(0, cards l), (1, strs w), (2, .g (.i d)), (3, .g (.i a)), (11, .pa 0 0 0 0), (13, .own 1 k 0 k), (14, .g (.b (isW l[d].w w a k))), (15, .g (.i k))]) (fun k => [.arr 0 5 [.g (tseg (segOf l false))], .arr k 1 (vpss l (w.take k))]) (fun k => k ≤ w.length) (fun k => w.length - k) 0 ?_ ?_ ?_
    · exact Nat.zero_le _
    · refine (Refi.valloc 13 1 rfl).trans (Refi.sub rfl ?_)
      have e0 : isW l[d].w w a 0 = true := decide_eq_true (fun k hk => absurd hk (Nat.not_lt_zero k))
      rw [e0]
      simp [subT, subV, tm, tmGo, cards, tcards, strs, tstrs, setT]
    · intro k hk
      dsimp only at hk ⊢
      obtain ⟨b, hb⟩ : ∃ b, isW l[d].w w a k = b := ⟨_, rfl⟩
      rw [hb]
      conv => whnf
      refine Br.dec (fun h => ?_) (fun h => ?_)
      · have hk' : k < w.length := by omega
        have hst := isW_succ (c := l[d].w) (w := w) (a := a) (n := k)
        rw [hb, List.getElem?_eq_getElem hk'] at hst
        have hvl : (vpss l (w.take k)).length = k := by simp [vpss]; omega
        have hvs : vpss l (w.take (k + 1)) = vpss l (w.take k) ++ [V.g (tposts (pst (l.map (·.w)) w[k]))] := by
          rw [List.take_succ_eq_append_getElem hk', vpss, vpss, List.map_append]; rfl
        have p1 := c_seg_Has (segOf l false) w[k] hbs.2.2.2 hbs.1
        rw [has_eq hsg] at p1
        (try conv => whnf); repeat ((first | refine And.intro (show cellsAll _ _ from by repeat (first | exact trivial | refine ⟨⟨rfl, rfl⟩, ?_⟩)) ?_ | refine ⟨_, getZ (by omega), ?_⟩ | refine ⟨_, getI (by omega) (by omega), ?_⟩ | refine ⟨by omega, rfl, ?_⟩ | refine ⟨by (simp; omega), rfl, ?_⟩ | refine ⟨rfl, _, rfl, ⟨rfl, rfl, by decide⟩, ?_⟩ | refine ⟨rfl, _, rfl, ?_⟩ | refine ⟨rfl, _, getO (by omega), ?_⟩ | refine ⟨rfl, ⟨by omega, by omega, by omega⟩, ?_⟩ | refine ⟨⟨rfl, rfl⟩, ?_⟩ | refine ⟨⟨rfl, rfl, rfl⟩, ?_⟩ | refine ⟨⟨rfl, rfl, by decide⟩, ?_⟩ | refine ⟨rfl, ?_⟩ | refine ⟨⟨by omega, by omega⟩, ⟨rfl, rfl⟩, ?_⟩ | refine ⟨in64 (by omega) (by omega), ?_⟩ | refine Br.dec (fun _ => ?_) (fun hh => absurd (by omega) hh) | refine Br.dec (fun hh => absurd hh (by omega)) (fun _ => ?_) | refine Br.eq (fun _ => ?_) (fun hh => absurd (by omega) hh) | refine Br.eq (fun hh => absurd hh (by omega)) (fun _ => ?_) | refine Br.ne (fun _ => ?_) (fun hh => absurd (by omega) hh) | refine Br.ne (fun hh => absurd hh (by omega)) (fun _ => ?_) | refine ⟨_, rfl, ?_⟩ | rw [← List.map_drop, ← List.map_take]); conv => whnf)
        refine Br.dec (fun h2 => ?_) (fun h2 => ?_)
        · (try conv => whnf); repeat ((first | refine And.intro (show cellsAll _ _ from by repeat (first | exact trivial | refine ⟨⟨rfl, rfl⟩, ?_⟩)) ?_ | refine ⟨_, getZ (by omega), ?_⟩ | refine ⟨_, getI (by omega) (by omega), ?_⟩ | refine ⟨by omega, rfl, ?_⟩ | refine ⟨by (simp; omega), rfl, ?_⟩ | refine ⟨rfl, _, rfl, ⟨rfl, rfl, by decide⟩, ?_⟩ | refine ⟨rfl, _, rfl, ?_⟩ | refine ⟨rfl, _, getO (by omega), ?_⟩ | refine ⟨rfl, ⟨by omega, by omega, by omega⟩, ?_⟩ | refine ⟨⟨rfl, rfl⟩, ?_⟩ | refine ⟨⟨rfl, rfl, rfl⟩, ?_⟩ | refine ⟨⟨rfl, rfl, by decide⟩, ?_⟩ | refine ⟨rfl, ?_⟩ | refine ⟨⟨by omega, by omega⟩, ⟨rfl, rfl⟩, ?_⟩ | refine ⟨in64 (by omega) (by omega), ?_⟩ | refine Br.dec (fun _ => ?_) (fun hh => absurd (by omega) hh) | refine Br.dec (fun hh => absurd hh (by omega)) (fun _ => ?_) | refine Br.eq (fun _ => ?_) (fun hh => absurd (by omega) hh) | refine Br.eq (fun hh => absurd hh (by omega)) (fun _ => ?_) | refine Br.ne (fun _ => ?_) (fun hh => absurd (by omega) hh) | refine Br.ne (fun hh => absurd hh (by omega)) (fun _ => ?_) | refine ⟨_, rfl, ?_⟩ | rw [← List.map_drop, ← List.map_take]); conv => whnf)
          exact ⟨fin _⟩
        · (try conv => whnf); repeat ((first | refine (p1).go rfl ?_ | refine ⟨_, (p1).go rfl ⟨rfl, rfl⟩, ?_⟩ | refine And.intro (show cellsAll _ _ from by repeat (first | exact trivial | refine ⟨⟨rfl, rfl⟩, ?_⟩)) ?_ | refine ⟨_, getZ (by omega), ?_⟩ | refine ⟨_, getI (by omega) (by omega), ?_⟩ | refine ⟨by omega, rfl, ?_⟩ | refine ⟨by (simp; omega), rfl, ?_⟩ | refine ⟨rfl, _, rfl, ⟨rfl, rfl, by decide⟩, ?_⟩ | refine ⟨rfl, _, rfl, ?_⟩ | refine ⟨rfl, _, getO (by omega), ?_⟩ | refine ⟨rfl, ⟨by omega, by omega, by omega⟩, ?_⟩ | refine ⟨⟨rfl, rfl⟩, ?_⟩ | refine ⟨⟨rfl, rfl, rfl⟩, ?_⟩ | refine ⟨⟨rfl, rfl, by decide⟩, ?_⟩ | refine ⟨rfl, ?_⟩ | refine ⟨⟨by omega, by omega⟩, ⟨rfl, rfl⟩, ?_⟩ | refine ⟨in64 (by omega) (by omega), ?_⟩ | refine Br.dec (fun _ => ?_) (fun hh => absurd (by omega) hh) | refine Br.dec (fun hh => absurd hh (by omega)) (fun _ => ?_) | refine Br.eq (fun _ => ?_) (fun hh => absurd (by omega) hh) | refine Br.eq (fun hh => absurd hh (by omega)) (fun _ => ?_) | refine Br.ne (fun _ => ?_) (fun hh => absurd (by omega) hh) | refine Br.ne (fun hh => absurd hh (by omega)) (fun _ => ?_) | refine ⟨_, rfl, ?_⟩ | rw [← List.map_drop, ← List.map_take]); conv => whnf)
          refine ⟨by simp; omega, ⟨rfl, rfl, rfl⟩, _, ⟨[], (List.append_nil _).symm⟩, hvl.symm, ?_⟩
          (try conv => whnf); repeat ((first | refine And.intro (show cellsAll _ _ from by repeat (first | exact trivial | refine ⟨⟨rfl, rfl⟩, ?_⟩)) ?_ | refine ⟨_, getZ (by omega), ?_⟩ | refine ⟨_, getI (by omega) (by omega), ?_⟩ | refine ⟨by omega, rfl, ?_⟩ | refine ⟨by (simp; omega), rfl, ?_⟩ | refine ⟨rfl, _, rfl, ⟨rfl, rfl, by decide⟩, ?_⟩ | refine ⟨rfl, _, rfl, ?_⟩ | refine ⟨rfl, _, getO (by omega), ?_⟩ | refine ⟨rfl, ⟨by omega, by omega, by omega⟩, ?_⟩ | refine ⟨⟨rfl, rfl⟩, ?_⟩ | refine ⟨⟨rfl, rfl, rfl⟩, ?_⟩ | refine ⟨⟨rfl, rfl, by decide⟩, ?_⟩ | refine ⟨rfl, ?_⟩ | refine ⟨⟨by omega, by omega⟩, ⟨rfl, rfl⟩, ?_⟩ | refine ⟨in64 (by omega) (by omega), ?_⟩ | refine Br.dec (fun _ => ?_) (fun hh => absurd (by omega) hh) | refine Br.dec (fun hh => absurd hh (by omega)) (fun _ => ?_) | refine Br.eq (fun _ => ?_) (fun hh => absurd (by omega) hh) | refine Br.eq (fun hh => absurd hh (by omega)) (fun _ => ?_) | refine Br.ne (fun _ => ?_) (fun hh => absurd (by omega) hh) | refine Br.ne (fun hh => absurd hh (by omega)) (fun _ => ?_) | refine ⟨_, rfl, ?_⟩ | rw [← List.map_drop, ← List.map_take]); conv => whnf)
          have back : ∀ (t : List V) (x : Bool), isW l[d].w w a (k + 1) = x → subT t (tm 146 [(0, cards l), (1, strs w), (2, .g (.i d)), (3, .g (.i a)), (11, .pa 0 0 0 0), (13, .own 1 (k + 1) 0 (k + 1)), (14, .g (.b x)), (15, .g (.i ((k : Int) + 1)))]) →
              Refi 0 ⟨t, [.arr 0 5 [.g (tseg (segOf l false))], .arr (k + 1) 1 (vpss l (w.take k) ++ [V.g (tposts (pst (l.map (·.w)) w[k]))])]⟩ ⟨tm 146 [(0, cards l), (1, strs w), (2, .g (.i d)), (3, .g (.i a)), (11, .pa 0 0 0 0), (13, .own 1 (k + 1) 0 (k + 1)), (14, .g (.b (isW l[d].w w a (k + 1)))), (15, .g (.i ((k + 1 : Nat) : Int)))], [.arr 0 5 [.g (tseg (segOf l false))], .arr (k + 1) 1 (vpss l (w.take (k + 1)))]⟩ := fun t x hx hs =>
            Refi.sub (by rw [hvs]) (by rw [hx]; exact hs)
          cases b
          · (try conv => whnf); repeat ((first | refine And.intro (show cellsAll _ _ from by repeat (first | exact trivial | refine ⟨⟨rfl, rfl⟩, ?_⟩)) ?_ | refine ⟨_, getZ (by omega), ?_⟩ | refine ⟨_, getI (by omega) (by omega), ?_⟩ | refine ⟨by omega, rfl, ?_⟩ | refine ⟨by (simp; omega), rfl, ?_⟩ | refine ⟨rfl, _, rfl, ⟨rfl, rfl, by decide⟩, ?_⟩ | refine ⟨rfl, _, rfl, ?_⟩ | refine ⟨rfl, _, getO (by omega), ?_⟩ | refine ⟨rfl, ⟨by omega, by omega, by omega⟩, ?_⟩ | refine ⟨⟨rfl, rfl⟩, ?_⟩ | refine ⟨⟨rfl, rfl, rfl⟩, ?_⟩ | refine ⟨⟨rfl, rfl, by decide⟩, ?_⟩ | refine ⟨rfl, ?_⟩ | refine ⟨⟨by omega, by omega⟩, ⟨rfl, rfl⟩, ?_⟩ | refine ⟨in64 (by omega) (by omega), ?_⟩ | refine Br.dec (fun _ => ?_) (fun hh => absurd (by omega) hh) | refine Br.dec (fun hh => absurd hh (by omega)) (fun _ => ?_) | refine Br.eq (fun _ => ?_) (fun hh => absurd (by omega) hh) | refine Br.eq (fun hh => absurd hh (by omega)) (fun _ => ?_) | refine Br.ne (fun _ => ?_) (fun hh => absurd (by omega) hh) | refine Br.ne (fun hh => absurd hh (by omega)) (fun _ => ?_) | refine ⟨_, rfl, ?_⟩ | rw [← List.map_drop, ← List.map_take]); conv => whnf)
            refine ⟨⟨k + 1, hk', by omega, back _ false (by rw [hst]; rfl) ?_⟩⟩
            simp [subT, subV, tm, tmGo, cards, strs]
          · rw [Bool.true_and] at hst
            (try conv => whnf); repeat ((first | refine And.intro (show cellsAll _ _ from by repeat (first | exact trivial | refine ⟨⟨rfl, rfl⟩, ?_⟩)) ?_ | refine ⟨_, getZ (by omega), ?_⟩ | refine ⟨_, getI (by omega) (by omega), ?_⟩ | refine ⟨by omega, rfl, ?_⟩ | refine ⟨by (simp; omega), rfl, ?_⟩ | refine ⟨rfl, _, rfl, ⟨rfl, rfl, by decide⟩, ?_⟩ | refine ⟨rfl, _, rfl, ?_⟩ | refine ⟨rfl, _, getO (by omega), ?_⟩ | refine ⟨rfl, ⟨by omega, by omega, by omega⟩, ?_⟩ | refine ⟨⟨rfl, rfl⟩, ?_⟩ | refine ⟨⟨rfl, rfl, rfl⟩, ?_⟩ | refine ⟨⟨rfl, rfl, by decide⟩, ?_⟩ | refine ⟨rfl, ?_⟩ | refine ⟨⟨by omega, by omega⟩, ⟨rfl, rfl⟩, ?_⟩ | refine ⟨in64 (by omega) (by omega), ?_⟩ | refine Br.dec (fun _ => ?_) (fun hh => absurd (by omega) hh) | refine Br.dec (fun hh => absurd hh (by omega)) (fun _ => ?_) | refine Br.eq (fun _ => ?_) (fun hh => absurd (by omega) hh) | refine Br.eq (fun hh => absurd hh (by omega)) (fun _ => ?_) | refine Br.ne (fun _ => ?_) (fun hh => absurd (by omega) hh) | refine Br.ne (fun hh => absurd hh (by omega)) (fun _ => ?_) | refine ⟨_, rfl, ?_⟩ | rw [← List.map_drop, ← List.map_take]); conv => whnf)
            refine Br.dec (fun h3 => ?_) (fun h3 => ?_)
            · have h3' : a + k < l[d].w.length := by omega
              rw [List.getElem?_eq_getElem h3'] at hst
              (try conv => whnf); repeat ((first | refine And.intro (show cellsAll _ _ from by repeat (first | exact trivial | refine ⟨⟨rfl, rfl⟩, ?_⟩)) ?_ | refine ⟨_, getZ (by omega), ?_⟩ | refine ⟨_, getI (by omega) (by omega), ?_⟩ | refine ⟨by omega, rfl, ?_⟩ | refine ⟨by (simp; omega), rfl, ?_⟩ | refine ⟨rfl, _, rfl, ⟨rfl, rfl, by decide⟩, ?_⟩ | refine ⟨rfl, _, rfl, ?_⟩ | refine ⟨rfl, _, getO (by omega), ?_⟩ | refine ⟨rfl, ⟨by omega, by omega, by omega⟩, ?_⟩ | refine ⟨⟨rfl, rfl⟩, ?_⟩ | refine ⟨⟨rfl, rfl, rfl⟩, ?_⟩ | refine ⟨⟨rfl, rfl, by decide⟩, ?_⟩ | refine ⟨rfl, ?_⟩ | refine ⟨⟨by omega, by omega⟩, ⟨rfl, rfl⟩, ?_⟩ | refine ⟨in64 (by omega) (by omega), ?_⟩ | refine Br.dec (fun _ => ?_) (fun hh => absurd (by omega) hh) | refine Br.dec (fun hh => absurd hh (by omega)) (fun _ => ?_) | refine Br.eq (fun _ => ?_) (fun hh => absurd (by omega) hh) | refine Br.eq (fun hh => absurd hh (by omega)) (fun _ => ?_) | refine Br.ne (fun _ => ?_) (fun hh => absurd (by omega) hh) | refine Br.ne (fun hh => absurd hh (by omega)) (fun _ => ?_) | refine ⟨_, rfl, ?_⟩ | rw [← List.map_drop, ← List.map_take]); conv => whnf)
              refine ⟨⟨k + 1, hk', by omega, back _ (decide (l[d].w[a + k] = w[k])) (by rw [hst]; simp) ?_⟩⟩
              have e : ((a : Int) + (k : Int)).toNat = a + k := by omega
              simp [subT, subV, tm, tmGo, cards, strs, bl_beq, e]
            · rw [List.getElem?_eq_none (by omega)] at hst
              (try conv => whnf); repeat ((first | refine And.intro (show cellsAll _ _ from by repeat (first | exact trivial | refine ⟨⟨rfl, rfl⟩, ?_⟩)) ?_ | refine ⟨_, getZ (by omega), ?_⟩ | refine ⟨_, getI (by omega) (by omega), ?_⟩ | refine ⟨by omega, rfl, ?_⟩ | refine ⟨by (simp; omega), rfl, ?_⟩ | refine ⟨rfl, _, rfl, ⟨rfl, rfl, by decide⟩, ?_⟩ | refine ⟨rfl, _, rfl, ?_⟩ | refine ⟨rfl, _, getO (by omega), ?_⟩ | refine ⟨rfl, ⟨by omega, by omega, by omega⟩, ?_⟩ | refine ⟨⟨rfl, rfl⟩, ?_⟩ | refine ⟨⟨rfl, rfl, rfl⟩, ?_⟩ | refine ⟨⟨rfl, rfl, by decide⟩, ?_⟩ | refine ⟨rfl, ?_⟩ | refine ⟨⟨by omega, by omega⟩, ⟨rfl, rfl⟩, ?_⟩ | refine ⟨in64 (by omega) (by omega), ?_⟩ | refine Br.dec (fun _ => ?_) (fun hh => absurd (by omega) hh) | refine Br.dec (fun hh => absurd hh (by omega)) (fun _ => ?_) | refine Br.eq (fun _ => ?_) (fun hh => absurd (by omega) hh) | refine Br.eq (fun hh => absurd hh (by omega)) (fun _ => ?_) | refine Br.ne (fun _ => ?_) (fun hh => absurd (by omega) hh) | refine Br.ne (fun hh => absurd hh (by omega)) (fun _ => ?_) | refine ⟨_, rfl, ?_⟩ | rw [← List.map_drop, ← List.map_take]); conv => whnf)
              refine ⟨⟨k + 1, hk', by omega, back _ false (by rw [hst]; rfl) ?_⟩⟩
              simp [subT, subV, tm, tmGo, cards, strs]
      · have : k = w.length := by omega
        subst this
        rw [List.take_length]
        have hwn : w ≠ [] := fun e => by subst e; simp at e1
        have hnear := near_isW (a := a) hd hwn hmp
        rw [hb] at hnear
        have hpl : ∀ y, (pst (l.map (·.w)) y).length ≤ l.length := fun y => by have := pst_len (ls := l.map (·.w)) (x := y); simpa using this
        have hpb : ∀ y, ∀ p ∈ pst (l.map (·.w)) y, p.2.length < 1000000000 := fun y p hpm => by
          obtain ⟨u, hu, e⟩ := pst_at p hpm
          obtain ⟨c, hc, rfl⟩ := List.mem_map.1 hu
          have := (mayC_w (hmay.1 c hc)).2.2.1
          have h4 := plc_len (ws := c.w) (x := y)
          rw [e]; omega
        obtain ⟨ps, hps⟩ : ∃ ps, w.map (fun x => pst (l.map (·.w)) x) = ps := ⟨_, rfl⟩
        have nr := c_Near ps (by rw [← hps]; simp; omega) (fun one ho => by rw [← hps] at ho; obtain ⟨y, _, rfl⟩ := List.mem_map.1 ho; have := hpl y; omega) (fun one ho => by rw [← hps] at ho; obtain ⟨y, _, rfl⟩ := List.mem_map.1 ho; exact hpb y)
        rw [hps] at hnear
        have hgr : optL ([V.own 1 w.length 0 w.length].map (gr 1 [.arr 0 5 [.g (tseg (segOf l false))], .arr w.length 1 (vpss l w)] 2)) = some [.sl 1 (ps.map tposts)] := by
          show optL [gr 1 _ 2 (.own 1 w.length 0 w.length)] = _
          rw [gr_own (l := w) (f := fun x => V.g (tposts (pst (l.map (·.w)) x))) (e := fun x => tposts (pst (l.map (·.w)) x)) rfl (Nat.le_refl _) rfl (fun _ _ => gr_g), ← hps, List.map_map]
          rfl
        have hnl := near_len (l := ps)
        have hna := fun p => near_ats (l := ps) (p := p)
        have hnm := near_may ps
        (try conv => whnf); repeat ((first | refine And.intro (show cellsAll _ _ from by repeat (first | exact trivial | refine ⟨⟨rfl, rfl⟩, ?_⟩)) ?_ | refine ⟨_, getZ (by omega), ?_⟩ | refine ⟨_, getI (by omega) (by omega), ?_⟩ | refine ⟨by omega, rfl, ?_⟩ | refine ⟨by (simp; omega), rfl, ?_⟩ | refine ⟨rfl, _, rfl, ⟨rfl, rfl, by decide⟩, ?_⟩ | refine ⟨rfl, _, rfl, ?_⟩ | refine ⟨rfl, _, getO (by omega), ?_⟩ | refine ⟨rfl, ⟨by omega, by omega, by omega⟩, ?_⟩ | refine ⟨⟨rfl, rfl⟩, ?_⟩ | refine ⟨⟨rfl, rfl, rfl⟩, ?_⟩ | refine ⟨⟨rfl, rfl, by decide⟩, ?_⟩ | refine ⟨rfl, ?_⟩ | refine ⟨⟨by omega, by omega⟩, ⟨rfl, rfl⟩, ?_⟩ | refine ⟨in64 (by omega) (by omega), ?_⟩ | refine Br.dec (fun _ => ?_) (fun hh => absurd (by omega) hh) | refine Br.dec (fun hh => absurd hh (by omega)) (fun _ => ?_) | refine Br.eq (fun _ => ?_) (fun hh => absurd (by omega) hh) | refine Br.eq (fun hh => absurd hh (by omega)) (fun _ => ?_) | refine Br.ne (fun _ => ?_) (fun hh => absurd (by omega) hh) | refine Br.ne (fun hh => absurd hh (by omega)) (fun _ => ?_) | refine ⟨_, rfl, ?_⟩ | rw [← List.map_drop, ← List.map_take]); conv => whnf)
        refine CG.give nr 1 2 (noMp_cons (noMp_cons noMp_nil)) hgr ?_
        generalize refNear ps = n at hnear hnl hna hnm
        have hnp : ∀ p ∈ n, p.2.length < 1000000000 := fun p hp => by have := hna p hp; omega
        have b2 := c_post_Find n (d : Int) (by omega) hnp
        have g2 := c_post_May n (by omega) hnp
        rw [hnm] at g2
        have hmn : (n.map tpost).length = n.length := by simp
        rcases find_has (d := (d : Int)) hnm with ⟨i, hi, e7, hi2⟩ | ⟨e7, hi2⟩
        · rw [e7] at b2
          have x3 := c_ref16_Has n[i].2 (a : Int) (by have := hnp _ (List.getElem_mem hi); omega)
          rw [← hi2, hnear] at x3
          cases b
          · (try conv => whnf); repeat ((first | refine (b2).go rfl ?_ | refine ⟨_, (b2).go rfl ⟨rfl, rfl⟩, ?_⟩ | refine (g2).go rfl ?_ | refine ⟨_, (g2).go rfl ⟨rfl, rfl⟩, ?_⟩ | refine (x3).go rfl ?_ | refine ⟨_, (x3).go rfl ⟨rfl, rfl⟩, ?_⟩ | refine And.intro (show cellsAll _ _ from by repeat (first | exact trivial | refine ⟨⟨rfl, rfl⟩, ?_⟩)) ?_ | refine ⟨_, getZ (by omega), ?_⟩ | refine ⟨_, getI (by omega) (by omega), ?_⟩ | refine ⟨by omega, rfl, ?_⟩ | refine ⟨by (simp; omega), rfl, ?_⟩ | refine ⟨rfl, _, rfl, ⟨rfl, rfl, by decide⟩, ?_⟩ | refine ⟨rfl, _, rfl, ?_⟩ | refine ⟨rfl, _, getO (by omega), ?_⟩ | refine ⟨rfl, ⟨by omega, by omega, by omega⟩, ?_⟩ | refine ⟨⟨rfl, rfl⟩, ?_⟩ | refine ⟨⟨rfl, rfl, rfl⟩, ?_⟩ | refine ⟨⟨rfl, rfl, by decide⟩, ?_⟩ | refine ⟨rfl, ?_⟩ | refine ⟨⟨by omega, by omega⟩, ⟨rfl, rfl⟩, ?_⟩ | refine ⟨in64 (by omega) (by omega), ?_⟩ | refine Br.dec (fun _ => ?_) (fun hh => absurd (by omega) hh) | refine Br.dec (fun hh => absurd hh (by omega)) (fun _ => ?_) | refine Br.eq (fun _ => ?_) (fun hh => absurd (by omega) hh) | refine Br.eq (fun hh => absurd hh (by omega)) (fun _ => ?_) | refine Br.ne (fun _ => ?_) (fun hh => absurd (by omega) hh) | refine Br.ne (fun hh => absurd hh (by omega)) (fun _ => ?_) | refine ⟨_, rfl, ?_⟩ | rw [← List.map_drop, ← List.map_take]); conv => whnf)
            exact ⟨fin _⟩
          · (try conv => whnf); repeat ((first | refine (b2).go rfl ?_ | refine ⟨_, (b2).go rfl ⟨rfl, rfl⟩, ?_⟩ | refine (g2).go rfl ?_ | refine ⟨_, (g2).go rfl ⟨rfl, rfl⟩, ?_⟩ | refine (x3).go rfl ?_ | refine ⟨_, (x3).go rfl ⟨rfl, rfl⟩, ?_⟩ | refine And.intro (show cellsAll _ _ from by repeat (first | exact trivial | refine ⟨⟨rfl, rfl⟩, ?_⟩)) ?_ | refine ⟨_, getZ (by omega), ?_⟩ | refine ⟨_, getI (by omega) (by omega), ?_⟩ | refine ⟨by omega, rfl, ?_⟩ | refine ⟨by (simp; omega), rfl, ?_⟩ | refine ⟨rfl, _, rfl, ⟨rfl, rfl, by decide⟩, ?_⟩ | refine ⟨rfl, _, rfl, ?_⟩ | refine ⟨rfl, _, getO (by omega), ?_⟩ | refine ⟨rfl, ⟨by omega, by omega, by omega⟩, ?_⟩ | refine ⟨⟨rfl, rfl⟩, ?_⟩ | refine ⟨⟨rfl, rfl, rfl⟩, ?_⟩ | refine ⟨⟨rfl, rfl, by decide⟩, ?_⟩ | refine ⟨rfl, ?_⟩ | refine ⟨⟨by omega, by omega⟩, ⟨rfl, rfl⟩, ?_⟩ | refine ⟨in64 (by omega) (by omega), ?_⟩ | refine Br.dec (fun _ => ?_) (fun hh => absurd (by omega) hh) | refine Br.dec (fun hh => absurd hh (by omega)) (fun _ => ?_) | refine Br.eq (fun _ => ?_) (fun hh => absurd (by omega) hh) | refine Br.eq (fun hh => absurd hh (by omega)) (fun _ => ?_) | refine Br.ne (fun _ => ?_) (fun hh => absurd (by omega) hh) | refine Br.ne (fun hh => absurd hh (by omega)) (fun _ => ?_) | refine ⟨_, rfl, ?_⟩ | rw [← List.map_drop, ← List.map_take]); conv => whnf)
            exact ⟨fin _⟩
        · rw [e7] at b2
          rw [hi2] at hnear
          subst hnear
          (try conv => whnf); repeat ((first | refine (b2).go rfl ?_ | refine ⟨_, (b2).go rfl ⟨rfl, rfl⟩, ?_⟩ | refine (g2).go rfl ?_ | refine ⟨_, (g2).go rfl ⟨rfl, rfl⟩, ?_⟩ | refine And.intro (show cellsAll _ _ from by repeat (first | exact trivial | refine ⟨⟨rfl, rfl⟩, ?_⟩)) ?_ | refine ⟨_, getZ (by omega), ?_⟩ | refine ⟨_, getI (by omega) (by omega), ?_⟩ | refine ⟨by omega, rfl, ?_⟩ | refine ⟨by (simp; omega), rfl, ?_⟩ | refine ⟨rfl, _, rfl, ⟨rfl, rfl, by decide⟩, ?_⟩ | refine ⟨rfl, _, rfl, ?_⟩ | refine ⟨rfl, _, getO (by omega), ?_⟩ | refine ⟨rfl, ⟨by omega, by omega, by omega⟩, ?_⟩ | refine ⟨⟨rfl, rfl⟩, ?_⟩ | refine ⟨⟨rfl, rfl, rfl⟩, ?_⟩ | refine ⟨⟨rfl, rfl, by decide⟩, ?_⟩ | refine ⟨rfl, ?_⟩ | refine ⟨⟨by omega, by omega⟩, ⟨rfl, rfl⟩, ?_⟩ | refine ⟨in64 (by omega) (by omega), ?_⟩ | refine Br.dec (fun _ => ?_) (fun hh => absurd (by omega) hh) | refine Br.dec (fun hh => absurd hh (by omega)) (fun _ => ?_) | refine Br.eq (fun _ => ?_) (fun hh => absurd (by omega) hh) | refine Br.eq (fun hh => absurd hh (by omega)) (fun _ => ?_) | refine Br.ne (fun _ => ?_) (fun hh => absurd (by omega) hh) | refine Br.ne (fun hh => absurd hh (by omega)) (fun _ => ?_) | refine ⟨_, rfl, ?_⟩ | rw [← List.map_drop, ← List.map_take]); conv => whnf)
          exact ⟨fin _⟩
  · (try conv => whnf); repeat ((first | refine (c_law17_awake).go rfl ?_ | refine ⟨_, (c_law17_awake).go rfl ⟨rfl, rfl⟩, ?_⟩ | refine (few).go rfl ?_ | refine ⟨_, (few).go rfl ⟨rfl, rfl⟩, ?_⟩ | refine (b1).go rfl ?_ | refine ⟨_, (b1).go rfl ⟨rfl, rfl⟩, ?_⟩ | refine And.intro (show cellsAll _ _ from by repeat (first | exact trivial | refine ⟨⟨rfl, rfl⟩, ?_⟩)) ?_ | refine ⟨_, getZ (by omega), ?_⟩ | refine ⟨_, getI (by omega) (by omega), ?_⟩ | refine ⟨by omega, rfl, ?_⟩ | refine ⟨by (simp; omega), rfl, ?_⟩ | refine ⟨rfl, _, rfl, ⟨rfl, rfl, by decide⟩, ?_⟩ | refine ⟨rfl, _, rfl, ?_⟩ | refine ⟨rfl, _, getO (by omega), ?_⟩ | refine ⟨rfl, ⟨by omega, by omega, by omega⟩, ?_⟩ | refine ⟨⟨rfl, rfl⟩, ?_⟩ | refine ⟨⟨rfl, rfl, rfl⟩, ?_⟩ | refine ⟨⟨rfl, rfl, by decide⟩, ?_⟩ | refine ⟨rfl, ?_⟩ | refine ⟨⟨by omega, by omega⟩, ⟨rfl, rfl⟩, ?_⟩ | refine ⟨in64 (by omega) (by omega), ?_⟩ | refine Br.dec (fun _ => ?_) (fun hh => absurd (by omega) hh) | refine Br.dec (fun hh => absurd hh (by omega)) (fun _ => ?_) | refine Br.eq (fun _ => ?_) (fun hh => absurd (by omega) hh) | refine Br.eq (fun hh => absurd hh (by omega)) (fun _ => ?_) | refine Br.ne (fun _ => ?_) (fun hh => absurd (by omega) hh) | refine Br.ne (fun hh => absurd hh (by omega)) (fun _ => ?_) | refine ⟨_, rfl, ?_⟩ | rw [← List.map_drop, ← List.map_take]); conv => whnf)
    refine Br.not (fun e1 => ?_) (fun e1 => ?_)
    · (try conv => whnf); repeat ((first | refine And.intro (show cellsAll _ _ from by repeat (first | exact trivial | refine ⟨⟨rfl, rfl⟩, ?_⟩)) ?_ | refine ⟨_, getZ (by omega), ?_⟩ | refine ⟨_, getI (by omega) (by omega), ?_⟩ | refine ⟨by omega, rfl, ?_⟩ | refine ⟨by (simp; omega), rfl, ?_⟩ | refine ⟨rfl, _, rfl, ⟨rfl, rfl, by decide⟩, ?_⟩ | refine ⟨rfl, _, rfl, ?_⟩ | refine ⟨rfl, _, getO (by omega), ?_⟩ | refine ⟨rfl, ⟨by omega, by omega, by omega⟩, ?_⟩ | refine ⟨⟨rfl, rfl⟩, ?_⟩ | refine ⟨⟨rfl, rfl, rfl⟩, ?_⟩ | refine ⟨⟨rfl, rfl, by decide⟩, ?_⟩ | refine ⟨rfl, ?_⟩ | refine ⟨⟨by omega, by omega⟩, ⟨rfl, rfl⟩, ?_⟩ | refine ⟨in64 (by omega) (by omega), ?_⟩ | refine Br.dec (fun _ => ?_) (fun hh => absurd (by omega) hh) | refine Br.dec (fun hh => absurd hh (by omega)) (fun _ => ?_) | refine Br.eq (fun _ => ?_) (fun hh => absurd (by omega) hh) | refine Br.eq (fun hh => absurd hh (by omega)) (fun _ => ?_) | refine Br.ne (fun _ => ?_) (fun hh => absurd (by omega) hh) | refine Br.ne (fun hh => absurd hh (by omega)) (fun _ => ?_) | refine ⟨_, rfl, ?_⟩ | rw [← List.map_drop, ← List.map_take]); conv => whnf)
      exact ⟨fin _⟩
    · (try conv => whnf); repeat ((first | refine And.intro (show cellsAll _ _ from by repeat (first | exact trivial | refine ⟨⟨rfl, rfl⟩, ?_⟩)) ?_ | refine ⟨_, getZ (by omega), ?_⟩ | refine ⟨_, getI (by omega) (by omega), ?_⟩ | refine ⟨by omega, rfl, ?_⟩ | refine ⟨by (simp; omega), rfl, ?_⟩ | refine ⟨rfl, _, rfl, ⟨rfl, rfl, by decide⟩, ?_⟩ | refine ⟨rfl, _, rfl, ?_⟩ | refine ⟨rfl, _, getO (by omega), ?_⟩ | refine ⟨rfl, ⟨by omega, by omega, by omega⟩, ?_⟩ | refine ⟨⟨rfl, rfl⟩, ?_⟩ | refine ⟨⟨rfl, rfl, rfl⟩, ?_⟩ | refine ⟨⟨rfl, rfl, by decide⟩, ?_⟩ | refine ⟨rfl, ?_⟩ | refine ⟨⟨by omega, by omega⟩, ⟨rfl, rfl⟩, ?_⟩ | refine ⟨in64 (by omega) (by omega), ?_⟩ | refine Br.dec (fun _ => ?_) (fun hh => absurd (by omega) hh) | refine Br.dec (fun hh => absurd hh (by omega)) (fun _ => ?_) | refine Br.eq (fun _ => ?_) (fun hh => absurd (by omega) hh) | refine Br.eq (fun hh => absurd hh (by omega)) (fun _ => ?_) | refine Br.ne (fun _ => ?_) (fun hh => absurd (by omega) hh) | refine Br.ne (fun hh => absurd hh (by omega)) (fun _ => ?_) | refine ⟨_, rfl, ?_⟩ | rw [← List.map_drop, ← List.map_take]); conv => whnf)
      refine Br.ne (fun e2 => ?_) (fun e2 => ?_)
      · (try conv => whnf); repeat ((first | refine And.intro (show cellsAll _ _ from by repeat (first | exact trivial | refine ⟨⟨rfl, rfl⟩, ?_⟩)) ?_ | refine ⟨_, getZ (by omega), ?_⟩ | refine ⟨_, getI (by omega) (by omega), ?_⟩ | refine ⟨by omega, rfl, ?_⟩ | refine ⟨by (simp; omega), rfl, ?_⟩ | refine ⟨rfl, _, rfl, ⟨rfl, rfl, by decide⟩, ?_⟩ | refine ⟨rfl, _, rfl, ?_⟩ | refine ⟨rfl, _, getO (by omega), ?_⟩ | refine ⟨rfl, ⟨by omega, by omega, by omega⟩, ?_⟩ | refine ⟨⟨rfl, rfl⟩, ?_⟩ | refine ⟨⟨rfl, rfl, rfl⟩, ?_⟩ | refine ⟨⟨rfl, rfl, by decide⟩, ?_⟩ | refine ⟨rfl, ?_⟩ | refine ⟨⟨by omega, by omega⟩, ⟨rfl, rfl⟩, ?_⟩ | refine ⟨in64 (by omega) (by omega), ?_⟩ | refine Br.dec (fun _ => ?_) (fun hh => absurd (by omega) hh) | refine Br.dec (fun hh => absurd hh (by omega)) (fun _ => ?_) | refine Br.eq (fun _ => ?_) (fun hh => absurd (by omega) hh) | refine Br.eq (fun hh => absurd hh (by omega)) (fun _ => ?_) | refine Br.ne (fun _ => ?_) (fun hh => absurd (by omega) hh) | refine Br.ne (fun hh => absurd hh (by omega)) (fun _ => ?_) | refine ⟨_, rfl, ?_⟩ | rw [← List.map_drop, ← List.map_take]); conv => whnf)
        exact ⟨fin _⟩
      · exact absurd ⟨of_decide_eq_true e1, e2⟩ hz
end Go.Aw
