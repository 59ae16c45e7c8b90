/- Contracts of functions of the given program, by the abstract walk, for law SegHasUpto: what each one hands back; no condition but those that each theorem states. -/
import Derived.Test.YthpnnkoaomekfaaC15
import Derived.Test.YthpnnkoaomekfaaC2
namespace Go.Aw
open Go.Proofs Go.Sort
set_option maxRecDepth 100000
set_option maxHeartbeats 4000000

theorem tv_strs {t : T} (h : TV (.sl 1 .s) t) : ∃ xs : List ByteArray, t = tstrs xs ∧ xs.length ≤ maxLen := by
  obtain ⟨cs, ⟨es, rfl, hl, he⟩, rfl⟩ := h
  have : ∃ xs : List ByteArray, es = xs.map T.s := by
    clear hl
    induction es with
    | nil => exact ⟨[], rfl⟩
    | cons e es ih =>
      obtain ⟨xs, rfl⟩ := ih fun x hx => he x (by simp [hx])
      obtain ⟨ys, ⟨n, rfl, _⟩, rfl⟩ := he e (by simp)
      exact ⟨n :: xs, rfl⟩
  obtain ⟨xs, rfl⟩ := this
  exact ⟨xs, rfl, by simpa using hl⟩
theorem tv_card {t : T} (h : TV (.fc .s (.fc (.i .i64) (.fc (.sl 1 .s) .fn))) t) : ∃ c : Cd, t = tcard c ∧ c.w.length ≤ maxLen ∧ c.id.size ≤ maxLen := by
  obtain ⟨cs, h1, rfl⟩ := h
  obtain ⟨_, _, rfl, ⟨n1, rfl, hs⟩, _, _, rfl, ⟨n2, rfl, _⟩, _, _, rfl, h3, rfl⟩ := h1
  obtain ⟨es, rfl, hl, he⟩ := h3
  obtain ⟨xs, e, hx⟩ := tv_strs (t := .sl 1 es) ⟨[.sl 1 es], ⟨es, rfl, hl, he⟩, rfl⟩
  cases e
  exact ⟨⟨n1, n2, xs⟩, rfl, hx, hs⟩
theorem tv_cards {t : T} (h : TV (.sl 3 (.fc .s (.fc (.i .i64) (.fc (.sl 1 .s) .fn)))) t) : ∃ l : List Cd, t = tcards l ∧ l.length ≤ maxLen ∧ ∀ c ∈ l, c.w.length ≤ maxLen := by
  obtain ⟨cs, ⟨es, rfl, hl, he⟩, rfl⟩ := h
  have : ∃ l : List Cd, es = l.map tcard ∧ ∀ c ∈ l, c.w.length ≤ maxLen := by
    clear hl
    induction es with
    | nil => exact ⟨[], rfl, by simp⟩
    | cons e es ih =>
      obtain ⟨xs, rfl, hxs⟩ := ih fun x hx => he x (by simp [hx])
      obtain ⟨ys, h1, h2⟩ := he e (by simp)
      obtain ⟨c, h3, h4, _⟩ := tv_card ⟨ys, h1, h2⟩
      subst h3
      exact ⟨c :: xs, rfl, by simpa using ⟨h4, hxs⟩⟩
  obtain ⟨l, rfl, hx⟩ := this
  exact ⟨l, rfl, by simpa using hl, hx⟩
theorem tv_bool {t : T} (h : TV .b t) : ∃ b : Bool, t = .b b := by
  obtain ⟨cs, ⟨b, rfl⟩, rfl⟩ := h
  exact ⟨b, rfl⟩
theorem tv_str {t : T} (h : TV .s t) : ∃ x : ByteArray, t = .s x ∧ x.size ≤ maxLen := by
  obtain ⟨cs, ⟨b, rfl, hs⟩, rfl⟩ := h
  exact ⟨b, rfl, hs⟩
theorem bef_same {a b : Cd} (h : befC a b = false) (k : befC b a = false) : a.key = b.key ∧ a.id = b.id := by
  have h := of_decide_eq_false h
  have k := of_decide_eq_false k
  refine ⟨?_, ordC_zero h k⟩
  unfold ordC at h k
  rw [nz_lt] at h k
  omega
end Go.Aw
namespace Go.Aw
open Go.Proofs Go.Sort
set_option maxRecDepth 100000
set_option maxHeartbeats 4000000

theorem seg_bnd {o : List Cd} {b : Bool} (h : bndC o) : bndS (segOf o b) := by
  obtain ⟨h1, h2, h3⟩ := id h
  refine ⟨by simp [segOf]; omega, by simp [segOf]; omega, by simp [segOf]; omega, ?_, ?_⟩
  · have := wl_len (ws := o.flatMap (·.w))
    simp [segOf]; omega
  · intro x hx
    obtain ⟨t, ht, rfl⟩ := List.mem_map.1 hx
    refine ⟨?_, fun p hp => ?_⟩
    · have := pst_len (ls := o.map (·.w)) (x := t)
      rw [List.length_map] at this
      show (pst (o.map (·.w)) t).length < _
      omega
    · obtain ⟨w, hw, e⟩ := pst_at p hp
      obtain ⟨c, hc, rfl⟩ := List.mem_map.1 hw
      have := h.w c hc
      have h4 := plc_len (ws := c.w) (x := t)
      rw [e]; omega
end Go.Aw
namespace Go.Aw
open Go.Proofs Go.Sort
set_option maxRecDepth 100000
set_option maxHeartbeats 4000000

/- WHAT STANDS IN A BUILT SEGMENT -/
theorem mem_plc {w : List ByteArray} {t : ByteArray} {a : Int} : a ∈ plc w t ↔ ∃ (j : Nat) (h : j < w.length), a = j ∧ w[j] = t := by
  rw [plc, List.mem_map]
  constructor
  · rintro ⟨⟨y, j⟩, hm, rfl⟩
    rw [List.mem_filter] at hm
    obtain ⟨hm, e⟩ := hm
    have h1 := List.mem_zipIdx_iff_getElem?.1 hm
    have hj := lt_of_some h1
    rw [List.getElem?_eq_getElem hj] at h1
    exact ⟨j, hj, rfl, (Option.some.inj h1).trans (of_decide_eq_true e)⟩
  · rintro ⟨j, h, rfl, e⟩
    refine ⟨(w[j], j), List.mem_filter.2 ⟨List.mem_zipIdx_iff_getElem?.2 (List.getElem?_eq_getElem h), decide_eq_true e⟩, rfl⟩
theorem mem_pst {ls : List (List ByteArray)} {t : ByteArray} {p : Po} : p ∈ pst ls t ↔ ∃ (k : Nat) (h : k < ls.length), p = ((k : Int), plc ls[k] t) ∧ plc ls[k] t ≠ [] := by
  rw [pst, List.mem_filterMap]
  constructor
  · rintro ⟨⟨w, k⟩, hm, e⟩
    have h1 := List.mem_zipIdx_iff_getElem?.1 hm
    have hk := lt_of_some h1
    rw [List.getElem?_eq_getElem hk] at h1
    have h2 : ls[k] = w := Option.some.inj h1
    simp only [← h2] at e
    by_cases q : plc ls[k] t = []
    · simp only [q, if_pos] at e; cases e
    · simp only [if_neg q] at e
      exact ⟨k, hk, (Option.some.inj e).symm, q⟩
  · rintro ⟨k, hk, rfl, q⟩
    exact ⟨(ls[k], k), List.mem_zipIdx_iff_getElem?.2 (List.getElem?_eq_getElem hk), by simp only [if_neg q]⟩
theorem mem_prT {o : List Cd} {t : ByteArray} {q : Int × Int} : q ∈ prT (tmOf o t) ↔ ∃ (k : Nat) (h : k < o.length) (j : Nat) (h2 : j < o[k].w.length), q = ((k : Int), (j : Int)) ∧ o[k].w[j] = t := by
  rw [prT, List.mem_flatMap]
  constructor
  · rintro ⟨p, hp, hq⟩
    obtain ⟨k, hk, rfl, _⟩ := mem_pst.1 hp
    obtain ⟨a, ha, rfl⟩ := List.mem_map.1 hq
    have hk' : k < o.length := by simpa using hk
    simp only [List.getElem_map] at ha
    obtain ⟨j, hj, rfl, e⟩ := mem_plc.1 ha
    exact ⟨k, hk', j, hj, rfl, e⟩
  · rintro ⟨k, hk, j, hj, rfl, e⟩
    have hm : ((j : Nat) : Int) ∈ plc o[k].w t := mem_plc.2 ⟨j, hj, rfl, e⟩
    refine ⟨((k : Int), plc o[k].w t), mem_pst.2 ⟨k, by simpa using hk, by simp, ?_⟩, List.mem_map.2 ⟨j, hm, rfl⟩⟩
    simp only [List.getElem_map]
    intro h; rw [h] at hm; cases hm
theorem mem_prs {o : List Cd} {q : Int × Int} : q ∈ prs (termsS o) ↔ ∃ (k : Nat) (h : k < o.length) (j : Nat) (_ : j < o[k].w.length), q = ((k : Int), (j : Int)) := by
  rw [prs, List.mem_flatMap]
  constructor
  · rintro ⟨x, hx, hq⟩
    obtain ⟨t, _, rfl⟩ := List.mem_map.1 hx
    obtain ⟨k, hk, j, hj, rfl, _⟩ := mem_prT.1 hq
    exact ⟨k, hk, j, hj, rfl⟩
  · rintro ⟨k, hk, j, hj, rfl⟩
    refine ⟨tmOf o o[k].w[j], List.mem_map.2 ⟨o[k].w[j], wl_mem.2 (List.mem_flatMap.2 ⟨o[k], List.getElem_mem _, List.getElem_mem _⟩), rfl⟩, mem_prT.2 ⟨k, hk, j, hj, rfl, rfl⟩⟩
theorem plc_pw (w : List ByteArray) (t : ByteArray) : (plc w t).Pairwise (· < ·) := by
  have key : ∀ n, n ≤ w.length → (plc (w.take n) t).Pairwise (· < ·) := by
    intro n
    induction n with
    | zero => intro _; simp [plc]
    | succ n ih =>
      intro hn
      rw [List.take_succ_eq_append_getElem hn, plc_app, List.pairwise_append]
      refine ⟨ih (by omega), by split <;> simp, fun a ha b hb => ?_⟩
      obtain ⟨j, hj, rfl, _⟩ := mem_plc.1 ha
      split at hb
      · simp at hb; subst hb; simp at hj ⊢; omega
      · cases hb
  have := key w.length (Nat.le_refl _)
  rwa [List.take_length] at this
theorem pst_pw (ls : List (List ByteArray)) (t : ByteArray) : ((pst ls t).map (·.1)).Pairwise (· < ·) := by
  have key : ∀ n, n ≤ ls.length → ((pst (ls.take n) t).map (·.1)).Pairwise (· < ·) := by
    intro n
    induction n with
    | zero => intro _; simp [pst]
    | succ n ih =>
      intro hn
      rw [pst_succ hn, List.map_append, List.pairwise_append]
      refine ⟨ih (by omega), by split <;> simp, fun a ha b hb => ?_⟩
      obtain ⟨p, hp, rfl⟩ := List.mem_map.1 ha
      have h1 := pst_lt p hp
      split at hb
      · cases hb
      · simp at hb; subst hb; simp at h1; omega
  have := key ls.length (Nat.le_refl _)
  rwa [List.take_length] at this
theorem prs_nodup (o : List Cd) : (prs (termsS o)).Nodup := by
  unfold prs List.Nodup
  rw [List.pairwise_flatMap]
  refine ⟨fun x hx => ?_, ?_⟩
  · obtain ⟨t, _, rfl⟩ := List.mem_map.1 hx
    unfold prT
    rw [List.pairwise_flatMap]
    refine ⟨fun p hp => ?_, ?_⟩
    · obtain ⟨k, hk, rfl, _⟩ := mem_pst.1 hp
      rw [List.pairwise_map]
      exact (plc_pw _ _).imp fun h e => by cases e; omega
    · have := pst_pw (o.map (·.w)) t
      rw [List.pairwise_map] at this
      refine this.imp fun h x hx y hy e => ?_
      obtain ⟨a, _, rfl⟩ := List.mem_map.1 hx
      obtain ⟨b, _, rfl⟩ := List.mem_map.1 hy
      have := congrArg Prod.fst e
      simp only at this; omega
  · unfold termsS
    rw [List.pairwise_map]
    refine (wl_srt _).imp fun {s t} h x hx y hy e => ?_
    obtain ⟨k, hk, j, hj, rfl, e1⟩ := mem_prT.1 hx
    obtain ⟨k', hk', j', hj', rfl, e2⟩ := mem_prT.1 hy
    cases e
    rw [← e1, ← e2, ltB_irr] at h; cases h
theorem sum_len (o : List Cd) : (o.map fun c => (c.w.length : Int)).sum = ((o.flatMap (·.w)).length : Int) := by
  induction o with
  | nil => rfl
  | cons c o ih => simp only [List.map_cons, List.sum_cons, List.flatMap_cons, List.length_append, ih]; omega
def posAll (o : List Cd) : List (Int × Int) := (List.range o.length).flatMap fun (k : Nat) => (List.range (match o[k]? with | some c => c.w.length | none => 0)).map fun (j : Nat) => ((k : Int), (j : Int))
theorem mem_posAll {o : List Cd} {q : Int × Int} : q ∈ posAll o ↔ ∃ (k : Nat) (h : k < o.length) (j : Nat) (_ : j < o[k].w.length), q = ((k : Int), (j : Int)) := by
  rw [posAll, List.mem_flatMap]
  constructor
  · rintro ⟨k, hk, hq⟩
    have hk := List.mem_range.1 hk
    obtain ⟨j, hj, rfl⟩ := List.mem_map.1 hq
    have hj := List.mem_range.1 hj
    rw [List.getElem?_eq_getElem hk] at hj
    exact ⟨k, hk, j, hj, rfl⟩
  · rintro ⟨k, hk, j, hj, rfl⟩
    refine ⟨k, List.mem_range.2 hk, List.mem_map.2 ⟨j, List.mem_range.2 ?_, rfl⟩⟩
    rw [List.getElem?_eq_getElem hk]; exact hj
theorem posAll_nodup (o : List Cd) : (posAll o).Nodup := by
  unfold posAll List.Nodup
  rw [List.pairwise_flatMap]
  refine ⟨fun k _ => ?_, ?_⟩
  · rw [List.pairwise_map]
    exact List.pairwise_lt_range.imp fun h e => by
      have := congrArg Prod.snd e
      simp only at this; omega
  · refine List.pairwise_lt_range.imp fun h x hx y hy e => ?_
    obtain ⟨a, _, rfl⟩ := List.mem_map.1 hx
    obtain ⟨b, _, rfl⟩ := List.mem_map.1 hy
    have := congrArg Prod.fst e
    simp only at this; omega
theorem posAll_len (o : List Cd) : (posAll o).length = (o.flatMap (·.w)).length := by
  rw [posAll, List.length_flatMap, List.length_flatMap]
  congr 1
  refine List.ext_getElem (by simp) fun k h1 h2 => ?_
  have hk : k < o.length := by simpa using h1
  simp [hk]
theorem prs_len (o : List Cd) : (prs (termsS o)).length = (o.flatMap (·.w)).length := by
  rw [← posAll_len]
  exact ((List.perm_ext_iff_of_nodup (prs_nodup o) (posAll_nodup o)).2 fun q => by rw [mem_prs, mem_posAll]).length_eq
/- a segment that was built may stand -/
theorem risE_of {e : Int} : ∀ {l : Int} {xs : List Int}, (∀ x ∈ xs, l < x ∧ x < e) → xs.Pairwise (· < ·) → risE e l xs = true
  | _, [], _, _ => rfl
  | l, x :: xs, h, p => by
    obtain ⟨p1, p2⟩ := List.pairwise_cons.1 p
    have h1 := h x (by simp)
    rw [risE, risE_of (l := x) (fun y hy => ⟨p1 y hy, (h y (List.mem_cons_of_mem _ hy)).2⟩) p2, decide_eq_true h1.1, decide_eq_true h1.2]; rfl
theorem may_pst {o : List Cd} {t : ByteArray} (h64 : o.length ≤ 64) (hw : ∀ c ∈ o, c.w.length ≤ 120) : mayP (pst (o.map (·.w)) t) = true := by
  have hall : (pst (o.map (·.w)) t).all (fun p => decide (0 < p.2.length) && decide (p.2.length ≤ 120) && risE 120 (-1) p.2) = true := by
    rw [List.all_eq_true]
    intro p hp
    obtain ⟨k, hk, rfl, hne⟩ := mem_pst.1 hp
    have hk' : k < o.length := by simpa using hk
    simp only [List.getElem_map] at hne ⊢
    have h1 := hw _ (List.getElem_mem hk')
    have h2 := plc_len (ws := o[k].w) (x := t)
    have h3 : 0 < (plc o[k].w t).length := List.length_pos_iff.2 hne
    rw [decide_eq_true h3, decide_eq_true (by omega), risE_of (fun x hx => ?_) (plc_pw _ _)]
    · rfl
    · obtain ⟨j, hj, rfl, _⟩ := mem_plc.1 hx; omega
  have hlen := pst_len (ls := o.map (·.w)) (x := t)
  rw [List.length_map] at hlen
  rw [mayP, hall, decide_eq_true (by omega), docsL, risE_of (fun x hx => ?_) (pst_pw _ _)]
  · rfl
  · obtain ⟨p, hp, rfl⟩ := List.mem_map.1 hx
    obtain ⟨k, hk, rfl, _⟩ := mem_pst.1 hp
    have hk' : k < o.length := by simpa using hk
    simp only; omega
theorem ids_get {o : List Cd} {b : Bool} {k : Nat} (h : k < o.length) : (segOf o b).ids.getD k default = o[k].id := by simp [segOf, List.getD, h]
theorem keys_get {o : List Cd} {b : Bool} {k : Nat} (h : k < o.length) : (segOf o b).keys.getD k 0 = o[k].key := by simp [segOf, List.getD, h]
theorem lens_get {o : List Cd} {b : Bool} {k : Nat} (h : k < o.length) : (segOf o b).lens.getD k 0 = (o[k].w.length : Int) := by simp [segOf, List.getD, h]
theorem mayC_w {c : Cd} (h : mayC c = true) : fitsS c.id 16 = true ∧ (0 ≤ c.key ∧ c.key ≤ 1073741824) ∧ c.w.length ≤ 120 ∧ ∀ x ∈ c.w, fitsS x 32 = true := by
  simp only [mayC, Bool.and_eq_true, decide_eq_true_eq, List.all_eq_true] at h
  exact ⟨h.1, ⟨h.2.1, h.2.2.1⟩, h.2.2.2.1, h.2.2.2.2⟩
theorem seg_may_ok {o : List Cd} {b : Bool} (hm : ∀ c ∈ o, mayC c = true) (hn : (o.map (·.id)).Nodup) (h64 : o.length ≤ 64) (h200 : (wlS (o.flatMap (·.w))).length ≤ 200) (hs : b = true → o.Pairwise fun x y => befC x y = true) : SgP (segOf o b) := by
  refine ⟨by simp [segOf]; exact h64, by simp [segOf], by simp [segOf], hn, fun k hk => ?_, ?_⟩
  · have hk' : k < o.length := by simpa [segOf] using hk
    obtain ⟨m1, m2, m3, _⟩ := mayC_w (hm _ (List.getElem_mem hk'))
    unfold okD
    rw [ids_get hk', keys_get hk', lens_get hk']
    refine ⟨m1, m2, by omega, fun hb h0 => ?_⟩
    rw [ids_get (by omega), keys_get (by omega)]
    exact List.pairwise_iff_getElem.1 (hs hb) (k - 1) k (by omega) hk' (by omega)
  · refine ⟨fun x hx => ?_, prs_nodup o, fun q hq => ?_, ?_, ?_⟩
    · obtain ⟨t, ht, rfl⟩ := List.mem_map.1 hx
      refine ⟨?_, may_pst h64 fun c hc => (mayC_w (hm c hc)).2.2.1⟩
      obtain ⟨c, hc, hy⟩ := List.mem_flatMap.1 (wl_mem.1 ht)
      obtain ⟨k, hk, rfl⟩ := List.getElem_of_mem hc
      obtain ⟨j, hj, rfl⟩ := List.getElem_of_mem hy
      have : ((k : Int), (j : Int)) ∈ prT (tmOf o o[k].w[j]) := mem_prT.2 ⟨k, hk, j, hj, rfl, rfl⟩
      intro e
      rw [prT, e] at this; cases this
    · obtain ⟨k, hk, j, hj, rfl⟩ := mem_prs.1 hq
      refine ⟨by simp [segOf]; exact hk, ?_⟩
      rw [Int.toNat_natCast, lens_get hk]; simp only; omega
    · refine decide_eq_true ⟨fun k hk => ?_, by simpa [segOf] using h200⟩
      have e : (segOf o b).terms.map (·.t) = wlS (o.flatMap (·.w)) := by simp only [segOf, List.map_map]; exact List.map_id'' (fun _ => rfl) _
      simp only [e] at hk ⊢
      refine ⟨?_, fun h0 => List.pairwise_iff_getElem.1 (wl_srt _) (k - 1) k (by omega) hk (by omega)⟩
      obtain ⟨c, hc, hy⟩ := List.mem_flatMap.1 (wl_mem.1 (List.getElem_mem hk))
      exact (mayC_w (hm c hc)).2.2.2 _ hy
    · show (o.map fun c => (c.w.length : Int)).sum = ((prs (termsS o)).length : Int)
      rw [sum_len, prs_len]
/-- and its cards are those it was built from -/
theorem mem_ops {o : List Cd} {u : (Int × Int) × ByteArray} : u ∈ opsT (termsS o) ↔ ∃ (k : Nat) (h : k < o.length) (j : Nat) (h2 : j < o[k].w.length), u = (((k : Int), (j : Int)), o[k].w[j]) := by
  rw [opsT, List.mem_flatMap]
  constructor
  · rintro ⟨x, hx, hu⟩
    obtain ⟨t, _, rfl⟩ := List.mem_map.1 hx
    obtain ⟨q, hq, rfl⟩ := List.mem_map.1 hu
    obtain ⟨k, hk, j, hj, rfl, e⟩ := mem_prT.1 hq
    exact ⟨k, hk, j, hj, by rw [e]; rfl⟩
  · rintro ⟨k, hk, j, hj, rfl⟩
    refine ⟨tmOf o o[k].w[j], List.mem_map.2 ⟨o[k].w[j], wl_mem.2 (List.mem_flatMap.2 ⟨o[k], List.getElem_mem _, List.getElem_mem _⟩), rfl⟩, List.mem_map.2 ⟨((k : Int), (j : Int)), mem_prT.2 ⟨k, hk, j, hj, rfl, rfl⟩, rfl⟩⟩
theorem wAt_at {o : List Cd} {k j : Nat} (hk : k < o.length) (hj : j < o[k].w.length) : wAt (opsT (termsS o)) ((k : Int), (j : Int)) = o[k].w[j] := by
  unfold wAt
  cases hf : (opsT (termsS o)).find? (fun u => decide (u.1 = ((k : Int), (j : Int)))) with
  | none =>
    have := List.find?_eq_none.1 hf _ (mem_ops.2 ⟨k, hk, j, hj, rfl⟩)
    simp at this
  | some u =>
    have h1 := List.mem_of_find?_eq_some hf
    have h2 := List.find?_some hf
    simp only [decide_eq_true_eq] at h2
    obtain ⟨k', hk', j', hj', rfl⟩ := mem_ops.1 h1
    simp only [Prod.mk.injEq, Int.natCast_inj] at h2
    obtain ⟨rfl, rfl⟩ := h2
    rfl
theorem cards_back {o : List Cd} {b : Bool} (h : SgP (segOf o b)) : cardsS (segOf o b) = o := by
  rw [cardsS, if_pos h]
  refine List.ext_getElem (by simp [segOf]) fun k h1 h2 => ?_
  rw [List.getElem_map, List.getElem_range, cdW, ids_get h2, keys_get h2]
  have : rowW (segOf o b) (opsT (segOf o b).terms) k = o[k].w := by
    unfold rowW
    rw [lens_get h2, Int.toNat_natCast]
    refine List.ext_getElem (by simp) fun j g1 g2 => ?_
    rw [List.getElem_map, List.getElem_range]
    exact wAt_at h2 g2
  rw [this]
end Go.Aw
namespace Go.Aw
open Go.Proofs Go.Sort
set_option maxRecDepth 100000
set_option maxHeartbeats 4000000

/- LAW SEGBACK -/
theorem bTs_strs : ∀ (xs : List ByteArray), xs.length ≤ bTs (xs.map T.s) ∧ ∀ x ∈ xs, x.size < bTs (xs.map T.s)
  | [] => by simp [bTs]
  | x :: xs => by
    obtain ⟨h1, h2⟩ := bTs_strs xs
    have e : bTs ((x :: xs).map T.s) = x.size + 1 + bTs (xs.map T.s) := by simp [bTs, bT]
    rw [e]
    refine ⟨by simp only [List.length_cons]; omega, fun y hy => ?_⟩
    rcases List.mem_cons.1 hy with rfl | hy
    · omega
    · have := h2 y hy; omega
theorem bTs_cards : ∀ (l : List Cd), l.length ≤ bTs (l.map tcard) ∧ (l.flatMap (·.w)).length ≤ bTs (l.map tcard) ∧ ∀ c ∈ l, c.id.size < bTs (l.map tcard) ∧ ∀ x ∈ c.w, x.size < bTs (l.map tcard)
  | [] => by simp [bTs]
  | c :: l => by
    obtain ⟨h1, h2, h3⟩ := bTs_cards l
    obtain ⟨g1, g2⟩ := bTs_strs c.w
    have e : bTs ((c :: l).map tcard) = c.id.size + bTs (c.w.map T.s) + 3 + bTs (l.map tcard) := by simp [bTs, bT, tcard]; omega
    rw [e]
    refine ⟨by simp only [List.length_cons]; omega, by simp only [List.flatMap_cons, List.length_append]; omega, fun d hd => ?_⟩
    rcases List.mem_cons.1 hd with rfl | hd
    · exact ⟨by omega, fun x hx => by have := g2 x hx; omega⟩
    · exact ⟨by have := (h3 d hd).1; omega, fun x hx => by have := (h3 d hd).2 x hx; omega⟩
theorem bnd_of {l : List Cd} (h : bTs (l.map tcard) ≤ 1048576) : bndC l := by
  obtain ⟨h1, h2, h3⟩ := bTs_cards l
  exact ⟨by omega, by omega, fun c hc => ⟨by have := (h3 c hc).1; unfold bigB; omega, fun x hx => by have := (h3 c hc).2 x hx; unfold bigB; omega⟩⟩
theorem build_zero {l : List Cd} {b : Bool} (h : (buildS l b).2 = 0) : okL l = true ∧ l.length ≤ 64 ∧ (wlS ((ordO l b).flatMap (·.w))).length ≤ 200 ∧ buildS l b = (segOf (ordO l b) b, 0) := by
  unfold buildS at h ⊢
  by_cases h1 : okL l = false
  · rw [if_pos h1] at h; cases h
  · rw [if_neg h1] at h ⊢
    by_cases h2 : 64 < l.length
    · rw [if_pos h2] at h; cases h
    · rw [if_neg h2] at h ⊢
      by_cases h3 : 200 < (wlS ((ordO l b).flatMap (·.w))).length
      · rw [if_pos h3] at h; cases h
      · rw [if_neg h3]
        exact ⟨by simpa using h1, by omega, by omega, rfl⟩
theorem okL_all {l : List Cd} (h : okL l = true) : (∀ c ∈ l, mayC c = true) ∧ (l.map (·.id)).Nodup := by
  simp only [okL, Bool.and_eq_true, List.all_eq_true, decide_eq_true_eq] at h
  exact h
theorem inC_bef {l : List Cd} (h : (l.map (·.id)).Nodup) : (inC l).Pairwise fun x y => befC x y = true := by
  have hn : ((inC l).map (·.id)).Nodup := (inC_perm.map (·.id)).nodup_iff.2 h
  refine List.pairwise_iff_getElem.2 fun i j hi hj hij => ?_
  have h1 := List.pairwise_iff_getElem.1 (inC_srt l) i j hi hj hij
  have h2 : (inC l)[i].id ≠ (inC l)[j].id := by
    have := List.pairwise_iff_getElem.1 hn i j (by simpa using hi) (by simpa using hj) hij
    simpa using this
  cases q : befC (inC l)[i] (inC l)[j] with
  | true => rfl
  | false => exact absurd (bef_same q h1).2 h2
theorem seg_ok {l : List Cd} {b : Bool} (h : (buildS l b).2 = 0) : SgP (segOf (ordO l b) b) := by
  obtain ⟨h1, h2, h3, _⟩ := build_zero h
  obtain ⟨g1, g2⟩ := okL_all h1
  have hp := ordO_perm (l := l) (b := b)
  refine seg_may_ok (fun c hc => g1 c (hp.mem_iff.1 hc)) ((hp.map (·.id)).nodup_iff.2 g2) (by rw [hp.length_eq]; exact h2) h3 fun e => ?_
  subst e
  exact inC_bef g2
end Go.Aw
namespace Go.Aw
open Go.Proofs Go.Sort
set_option maxRecDepth 100000
set_option maxHeartbeats 4000000

/- LAW SEGHAS -/
theorem has_eq {o : List Cd} {b : Bool} {y : ByteArray} (h : SgP (segOf o b)) : hasS (segOf o b) y = pst (o.map (·.w)) y := by
  rw [hasS, if_pos h]
  cases hf : (segOf o b).terms.find? (fun x => decide (x.t = y)) with
  | some x =>
    have h1 := List.mem_of_find?_eq_some hf
    have h2 := List.find?_some hf
    simp only [decide_eq_true_eq] at h2
    obtain ⟨t, _, rfl⟩ := List.mem_map.1 h1
    subst h2; rfl
  | none =>
    refine (pst_none fun w hw hy => ?_).symm
    obtain ⟨c, hc, rfl⟩ := List.mem_map.1 hw
    have hm : tmOf o y ∈ (segOf o b).terms := List.mem_map.2 ⟨y, wl_mem.2 (List.mem_flatMap.2 ⟨c, hc, hy⟩), rfl⟩
    have := List.find?_eq_none.1 hf _ hm
    simp [tmOf] at this
def atD (l : List Po) (d : Int) : List Int := l.flatMap fun p => if p.1 = d then p.2 else []
theorem atD_succ {l : List Po} {d : Int} {k : Nat} (h : k < l.length) : atD (l.take (k + 1)) d = atD (l.take k) d ++ if l[k].1 = d then l[k].2 else [] := by
  rw [List.take_succ_eq_append_getElem h, atD, List.flatMap_append]; simp [atD]
theorem atD_pst {ls : List (List ByteArray)} {y : ByteArray} {d : Nat} (h : d < ls.length) : atD (pst ls y) d = plc ls[d] y := by
  have key : ∀ n, n ≤ ls.length → atD (pst (ls.take n) y) d = if d < n then plc ls[d] y else [] := by
    intro n
    induction n with
    | zero => intro _; simp [pst, atD]
    | succ n ih =>
      intro hn
      rw [pst_succ hn, atD, List.flatMap_append]
      show atD (pst (ls.take n) y) d ++ _ = _
      rw [ih (by omega)]
      by_cases e : d = n
      · subst e
        rw [if_neg (show ¬ d < d from by omega), if_pos (show d < d + 1 from by omega), List.nil_append]
        by_cases q : plc ls[d] y = []
        · rw [if_pos q, q]; rfl
        · rw [if_neg q]; simp
      · have hne : ¬ ((n : Nat) : Int) = (d : Int) := by omega
        have e3 : (if plc ls[n] y = [] then [] else [(((n : Nat) : Int), plc ls[n] y)]).flatMap (fun p : Po => if p.1 = ((d : Nat) : Int) then p.2 else []) = [] := by
          by_cases q : plc ls[n] y = []
          · rw [if_pos q]; rfl
          · rw [if_neg q]; simp [hne]
        rw [e3, List.append_nil]
        by_cases e2 : d < n
        · rw [if_pos e2, if_pos (show d < n + 1 from by omega)]
        · rw [if_neg e2, if_neg (show ¬ d < n + 1 from by omega)]
  have := key ls.length (Nat.le_refl _)
  rwa [List.take_length, if_pos h] at this
theorem atD_len {N : Nat} {d : Int} : ∀ {l : List Po}, (∀ p ∈ l, p.2.length < N) → (atD l d).length ≤ N * l.length
  | [], _ => by simp [atD]
  | p :: l, h => by
    have ih := atD_len (d := d) (l := l) fun q hq => h q (List.mem_cons_of_mem _ hq)
    have h1 := h p (by simp)
    have e : atD (p :: l) d = (if p.1 = d then p.2 else []) ++ atD l d := rfl
    rw [e, List.length_append, List.length_cons, Nat.mul_add]
    have : (if p.1 = d then p.2 else []).length ≤ p.2.length := by split <;> simp
    omega
theorem c_law08_SegHas_upto : ∀ ys, TVs [.sl 3 (.fc .s (.fc (.i .i64) (.fc (.sl 1 .s) .fn))), .b, .s, .i .i64] ys → bTs ys ≤ 1048576 → CG Try.prog 11 ys (.b true) := by
  intro ys hy hbt
  obtain ⟨y0, ys, rfl, h0, hy⟩ := tvs_cons hy
  obtain ⟨y1, ys, rfl, h1, hy⟩ := tvs_cons hy
  obtain ⟨y2, ys, rfl, h2, hy⟩ := tvs_cons hy
  obtain ⟨y3, ys, rfl, h3, hy⟩ := tvs_cons hy
  cases tvs_nil hy
  obtain ⟨l, rfl, _, _⟩ := tv_cards h0
  obtain ⟨b, rfl⟩ := tv_bool h1
  obtain ⟨y, rfl, _⟩ := tv_str h2
  obtain ⟨d, rfl, _⟩ := tv_int h3
  have hb : bndC l := bnd_of (by simp only [bTs, tcards, bT] at hbt; omega)
  obtain ⟨hb1, hb2, hb3⟩ := id hb
  refine ⟨k_law08_SegHas.calls ?_⟩
  have fin : ∀ L : List Blk, Ends [] (fun r h => r = V.g (T.b true) ∧ h = []) (V.g (T.b true)) L := fun L => Ends.ground (H := []) (L := L) 0 rfl ⟨rfl, rfl⟩
  have few := c_law08_Few l (by omega) (fun x hx => by have := hb.w x hx; omega)
  have b1 := c_seg_Build l b hb
  have hma : (l.map tcard).length = l.length := by simp
  by_cases hz : few8 l ∧ (buildS l b).2 = 0
  · obtain ⟨hf, hz⟩ := hz
    obtain ⟨hok, h64, h200, hS⟩ := build_zero hz
    have hsg := seg_ok hz
    have hp := ordO_perm (l := l) (b := b)
    have hbo := hb.perm hp
    have hbs := seg_bnd (b := b) hbo
    rw [decide_eq_true hf] at few
    rw [hS] at b1
    obtain ⟨o, ho⟩ : ∃ o, ordO l b = o := ⟨_, rfl⟩
    rw [ho] at hsg hp hbo hbs b1
    have hol : o.length = l.length := hp.length_eq
    (try conv => whnf); repeat ((first | refine (c_law08_awake).go rfl ?_ | refine (few).go rfl ?_ | refine (b1).go rfl ?_ | refine ⟨rfl, _, rfl, ⟨rfl, rfl, by decide⟩, ?_⟩ | refine ⟨rfl, ?_⟩); conv => whnf)
    refine Br.dec (fun e1 => ?_) (fun e1 => ?_)
    · (try conv => whnf); repeat ((first | fail); conv => whnf)
      exact ⟨fin _⟩
    (try conv => whnf); repeat ((first | fail); conv => whnf)
    refine Br.dec (fun e2 => ?_) (fun e2 => ?_)
    · (try conv => whnf); repeat ((first | fail); conv => whnf)
      exact ⟨fin _⟩
    (try conv => whnf); repeat ((first | fail); conv => whnf)
    refine Br.dec (fun e3 => ?_) (fun e3 => ?_)
    · (try conv => whnf); repeat ((first | fail); conv => whnf)
      exact ⟨fin _⟩
    obtain ⟨d, rfl⟩ := Int.eq_ofNat_of_zero_le (by omega : 0 ≤ d)
    have hd : d < o.length := by omega
    have w1 := c_seg_Words (segOf o b) d hbs.2.2.2 hbs.1
    have ew : (cardS (segOf o b) d).1.w = o[d].w := by
      rw [cardS, cards_back hsg, if_pos ⟨by omega, by omega⟩]; simp [List.getD, hd]
    rw [ew] at w1
    have p1 := c_seg_Has (segOf o b) y hbs.2.2.2 hbs.1
    rw [has_eq hsg] at p1
    obtain ⟨ps, hps⟩ : ∃ ps, pst (o.map (·.w)) y = ps := ⟨_, rfl⟩
    rw [hps] at p1
    (try conv => whnf); repeat ((first | refine (w1).go rfl ?_ | refine (p1).go rfl ?_ | refine ⟨rfl, _, rfl, ?_⟩); conv => whnf)
    have hpl : ps.length ≤ l.length := by rw [← hps]; have := pst_len (ls := o.map (·.w)) (x := y); simp at this; omega
    have hpb : ∀ p ∈ ps, p.2.length < 100000000 := fun p hpm => by
      rw [← hps] at hpm
      obtain ⟨w, hw, e⟩ := pst_at p hpm
      obtain ⟨c, hc, rfl⟩ := List.mem_map.1 hw
      have := hbo.w c hc
      have h4 := plc_len (ws := c.w) (x := y)
      rw [e]; omega
    have hat : atD ps d = plc o[d].w y := by
      rw [← hps, atD_pst (by simpa using hd)]; simp
    have hmp : (ps.map tpost).length = ps.length := by simp
    have hmw : (o[d].w.map T.s).length = o[d].w.length := by simp
    have hwd := hbo.w _ (List.getElem_mem hd)
    refine SW.loopR (α := Nat × Nat) (fun a => tm 118 [(2, .g (.s y)), (3, .g (.i d)), (11, .pa 0 0 0 0), (13, strs o[d].w), (14, posts ps), (15, .own 1 a.2 0 (atD (ps.take a.1) d).length), (16, .g (.i a.1))]) (fun a => [.arr 0 5 [.g (tseg (segOf o b))], .arr a.2 1 (vintl (atD (ps.take a.1) d))]) (fun a => a.1 ≤ ps.length) (fun a => ps.length - a.1) (0, 0) ?_ ?_ ?_
    · exact Nat.zero_le _
    · refine (Refi.valloc 15 1 rfl).trans (Refi.sub rfl ?_)
      simp [subT, subV, tm, tmGo, strs, tstrs, posts, tposts, setT, atD]
    · rintro ⟨k, g⟩ hk
      dsimp only at hk ⊢
      conv => whnf
      refine Br.dec (fun h => ?_) (fun h => ?_)
      · have hk' : k < ps.length := by omega
        have hst := atD_succ (d := d) hk'
        have hvl : (vintl (atD (ps.take k) d)).length = (atD (ps.take k) d).length := by simp [vintl]
        (try conv => whnf); repeat ((first | refine ⟨_, getZ (by omega), ?_⟩ | refine ⟨by omega, rfl, ?_⟩); conv => whnf)
        have hal := atD_len (d := (d : Int)) (l := ps.take k) (N := 100000000) fun p hpm => hpb p (List.mem_of_mem_take hpm)
        rw [List.length_take] at hal
        have hpk := hpb _ (List.getElem_mem hk')
        have hpi : ((ps[k].2.map T.i).map V.g).length = ps[k].2.length := by simp
        refine Br.eq (fun q => ?_) (fun q => ?_)
        · rw [if_pos q] at hst
          (try conv => whnf); repeat ((first | refine ⟨_, getZ (by omega), ?_⟩ | refine ⟨by omega, rfl, ?_⟩ | refine ⟨rfl, ?_⟩); conv => whnf)
          refine ⟨(by omega : (2 * ((atD (ps.take k) (d : Int)).length + ((ps[k].2.map T.i).map V.g).length) + 1024) * (8 + 1) ≤ 281474976710656), ⟨rfl, rfl, rfl⟩, _, ⟨[], (List.append_nil _).symm⟩, hvl.symm, ?_⟩
          (try conv => whnf); repeat ((first | refine ⟨in64 (by omega) (by omega), ?_⟩); conv => whnf)
          refine ⟨⟨(k + 1, g + 1), hk', by show _ - (k + 1) < _ - k; omega, Refi.sub ?_ ?_⟩⟩
          · show _ = [_, Blk.arr (g + 1) 1 (vintl (atD (ps.take (k + 1)) d))]
            rw [hst]
            simp [vintl]
          · dsimp only
            rw [hst]
            simp [subT, subV, tm, tmGo, strs, posts]
        · rw [if_neg q, List.append_nil] at hst
          (try conv => whnf); repeat ((first | refine ⟨in64 (by omega) (by omega), ?_⟩); conv => whnf)
          refine ⟨⟨(k + 1, g), hk', by show _ - (k + 1) < _ - k; omega, Refi.sub ?_ ?_⟩⟩
          · show _ = [_, Blk.arr g 1 (vintl (atD (ps.take (k + 1)) d))]
            rw [hst]
          · dsimp only
            rw [hst]
            simp [subT, subV, tm, tmGo, strs, posts]
      · have : k = ps.length := by omega
        subst this
        rw [List.take_length, hat]
        (try conv => whnf); repeat ((first | fail); conv => whnf)
        refine SW.loopR (α := Nat) (fun i => tm 118 [(2, .g (.s y)), (3, .g (.i d)), (11, .pa 0 0 0 0), (13, strs o[d].w), (15, .own 1 g 0 (plc o[d].w y).length), (17, .own 2 (plc (o[d].w.take i) y).length 0 (plc (o[d].w.take i) y).length), (18, .g (.i i))]) (fun i => [.arr 0 5 [.g (tseg (segOf o b))], .arr g 1 (vintl (plc o[d].w y)), .arr (plc (o[d].w.take i) y).length 1 (vintl (plc (o[d].w.take i) y))]) (fun i => i ≤ o[d].w.length) (fun i => o[d].w.length - i) 0 ?_ ?_ ?_
        · exact Nat.zero_le _
        · refine (Refi.valloc 17 1 rfl).trans (Refi.sub rfl ?_)
          simp [subT, subV, tm, tmGo, strs, setT, plc]
        · intro i hi
          dsimp only at hi ⊢
          conv => whnf
          refine Br.dec (fun h => ?_) (fun h => ?_)
          · have hi' : i < o[d].w.length := by omega
            have hst : plc (o[d].w.take (i + 1)) y = plc (o[d].w.take i) y ++ if o[d].w[i] = y then [(i : Int)] else [] := by
              rw [List.take_succ_eq_append_getElem hi', plc_app]; simp [Nat.min_eq_left (Nat.le_of_lt hi')]
            have hpl2 := plc_len (ws := o[d].w.take i) (x := y)
            rw [List.length_take] at hpl2
            have hvl : (vintl (plc (o[d].w.take i) y)).length = (plc (o[d].w.take i) y).length := by simp [vintl]
            (try conv => whnf); repeat ((first | refine ⟨_, getZ (by omega), ?_⟩ | refine ⟨by omega, rfl, ?_⟩); conv => whnf)
            rw [bl_beq]
            refine Br.dec (fun q => ?_) (fun q => ?_)
            · rw [if_pos q] at hst
              (try conv => whnf); repeat ((first | refine And.intro (show cellsAll _ _ from by repeat (first | exact trivial | refine ⟨⟨rfl, rfl⟩, ?_⟩)) ?_ | refine ⟨rfl, ?_⟩); conv => whnf)
              refine ⟨by simp; omega, ⟨rfl, rfl, rfl⟩, _, ⟨[], (List.append_nil _).symm⟩, hvl.symm, ?_⟩
              (try conv => whnf); repeat ((first | refine ⟨in64 (by omega) (by omega), ?_⟩); conv => whnf)
              refine ⟨⟨i + 1, hi', by omega, Refi.sub ?_ ?_⟩⟩
              · rw [hst]; simp [vintl]
              · rw [hst]; simp [subT, subV, tm, tmGo, strs]
            · rw [if_neg q, List.append_nil] at hst
              (try conv => whnf); repeat ((first | refine ⟨in64 (by omega) (by omega), ?_⟩); conv => whnf)
              exact ⟨⟨i + 1, hi', by omega, Refi.sub (by rw [hst]) (by rw [hst]; simp [subT, subV, tm, tmGo, strs])⟩⟩
          · have : i = o[d].w.length := by omega
            subst this
            rw [List.take_length]
            have s1 := c_ref01_Ints (plc o[d].w y) (plc o[d].w y) (by have := plc_len (ws := o[d].w) (x := y); omega)
            rw [decide_eq_true rfl] at s1
            (try conv => whnf); repeat ((first | fail); conv => whnf)
            refine CG.lend2 s1 trivial 1 (gr_vintl rfl (Nat.zero_le _) rfl) (gr_vintl rfl (Nat.zero_le _) rfl) ?_
            have hlen : ((segOf o b).lens.map T.i).length = o.length := by simp [segOf]
            have gl : ((segOf o b).lens.map T.i)[((d : Nat) : Int).toNat]? = some (T.i (o[d].w.length : Int)) := by simp [segOf, hd]
            (try conv => whnf); repeat ((first | refine ⟨_, gl, ?_⟩ | refine ⟨by omega, rfl, ?_⟩ | refine ⟨rfl, _, rfl, ?_⟩ | refine Br.dec (fun _ => ?_) (fun hh => absurd (by omega) hh)); conv => whnf)
            rw [show (((o[d].w.map T.s).length : Int) == (o[d].w.length : Int)) = true from by rw [hmw]; simp]
            exact ⟨fin _⟩
  · (try conv => whnf); repeat ((first | refine (c_law08_awake).go rfl ?_ | refine (few).go rfl ?_ | refine (b1).go rfl ?_ | refine ⟨rfl, _, rfl, ⟨rfl, rfl, by decide⟩, ?_⟩ | refine ⟨rfl, ?_⟩); conv => whnf)
    refine Br.not (fun e1 => ?_) (fun e1 => ?_)
    · (try conv => whnf); repeat ((first | fail); conv => whnf)
      exact ⟨fin _⟩
    · (try conv => whnf); repeat ((first | fail); conv => whnf)
      refine Br.ne (fun e2 => ?_) (fun e2 => ?_)
      · (try conv => whnf); repeat ((first | fail); conv => whnf)
        exact ⟨fin _⟩
      · exact absurd ⟨of_decide_eq_true e1, e2⟩ hz
end Go.Aw
