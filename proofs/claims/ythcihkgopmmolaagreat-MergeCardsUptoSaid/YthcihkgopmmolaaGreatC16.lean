/- Contracts of functions of the given program, by the abstract walk, for law MergeCardsUpto: what each one hands back; no condition but those that each theorem states. -/
import Derived.Test.YthcihkgopmmolaaGreatC15
import Derived.Test.YthcihkgopmmolaaGreatC2
namespace Go.Aw
open Go.Proofs Go.Sort
set_option maxRecDepth 100000
set_option maxHeartbeats 4000000

theorem tv_strs {t : T} (h : TV (.sl 1 .s) t) : ∃ xs : List ByteArray, t = tstrs xs ∧ xs.length ≤ maxLen := by
  obtain ⟨cs, ⟨es, rfl, hl, he⟩, rfl⟩ := h
  have : ∃ xs : List ByteArray, es = xs.map T.s := by
    clear hl
    induction es with
    | nil => exact ⟨[], rfl⟩
    | cons e es ih =>
      obtain ⟨xs, rfl⟩ := ih fun x hx => he x (by simp [hx])
      obtain ⟨ys, ⟨n, rfl, _⟩, rfl⟩ := he e (by simp)
      exact ⟨n :: xs, rfl⟩
  obtain ⟨xs, rfl⟩ := this
  exact ⟨xs, rfl, by simpa using hl⟩
theorem tv_bool {t : T} (h : TV .b t) : ∃ b : Bool, t = .b b := by
  obtain ⟨cs, ⟨b, rfl⟩, rfl⟩ := h
  exact ⟨b, rfl⟩
theorem bef_same {a b : Cd} (h : befC a b = false) (k : befC b a = false) : a.key = b.key ∧ a.id = b.id := by
  have h := of_decide_eq_false h
  have k := of_decide_eq_false k
  refine ⟨?_, ordC_zero h k⟩
  unfold ordC at h k
  rw [nz_lt] at h k
  omega
end Go.Aw
namespace Go.Aw
open Go.Proofs Go.Sort
set_option maxRecDepth 100000
set_option maxHeartbeats 4000000

end Go.Aw
namespace Go.Aw
open Go.Proofs Go.Sort
set_option maxRecDepth 100000
set_option maxHeartbeats 4000000

/- WHAT STANDS IN A BUILT SEGMENT -/
theorem mem_plc {w : List ByteArray} {t : ByteArray} {a : Int} : a ∈ plc w t ↔ ∃ (j : Nat) (h : j < w.length), a = j ∧ w[j] = t := by
  rw [plc, List.mem_map]
  constructor
  · rintro ⟨⟨y, j⟩, hm, rfl⟩
    rw [List.mem_filter] at hm
    obtain ⟨hm, e⟩ := hm
    have h1 := List.mem_zipIdx_iff_getElem?.1 hm
    have hj := lt_of_some h1
    rw [List.getElem?_eq_getElem hj] at h1
    exact ⟨j, hj, rfl, (Option.some.inj h1).trans (of_decide_eq_true e)⟩
  · rintro ⟨j, h, rfl, e⟩
    refine ⟨(w[j], j), List.mem_filter.2 ⟨List.mem_zipIdx_iff_getElem?.2 (List.getElem?_eq_getElem h), decide_eq_true e⟩, rfl⟩
theorem mem_pst {ls : List (List ByteArray)} {t : ByteArray} {p : Po} : p ∈ pst ls t ↔ ∃ (k : Nat) (h : k < ls.length), p = ((k : Int), plc ls[k] t) ∧ plc ls[k] t ≠ [] := by
  rw [pst, List.mem_filterMap]
  constructor
  · rintro ⟨⟨w, k⟩, hm, e⟩
    have h1 := List.mem_zipIdx_iff_getElem?.1 hm
    have hk := lt_of_some h1
    rw [List.getElem?_eq_getElem hk] at h1
    have h2 : ls[k] = w := Option.some.inj h1
    simp only [← h2] at e
    by_cases q : plc ls[k] t = []
    · simp only [q, if_pos] at e; cases e
    · simp only [if_neg q] at e
      exact ⟨k, hk, (Option.some.inj e).symm, q⟩
  · rintro ⟨k, hk, rfl, q⟩
    exact ⟨(ls[k], k), List.mem_zipIdx_iff_getElem?.2 (List.getElem?_eq_getElem hk), by simp only [if_neg q]⟩
theorem mem_prT {o : List Cd} {t : ByteArray} {q : Int × Int} : q ∈ prT (tmOf o t) ↔ ∃ (k : Nat) (h : k < o.length) (j : Nat) (h2 : j < o[k].w.length), q = ((k : Int), (j : Int)) ∧ o[k].w[j] = t := by
  rw [prT, List.mem_flatMap]
  constructor
  · rintro ⟨p, hp, hq⟩
    obtain ⟨k, hk, rfl, _⟩ := mem_pst.1 hp
    obtain ⟨a, ha, rfl⟩ := List.mem_map.1 hq
    have hk' : k < o.length := by simpa using hk
    simp only [List.getElem_map] at ha
    obtain ⟨j, hj, rfl, e⟩ := mem_plc.1 ha
    exact ⟨k, hk', j, hj, rfl, e⟩
  · rintro ⟨k, hk, j, hj, rfl, e⟩
    have hm : ((j : Nat) : Int) ∈ plc o[k].w t := mem_plc.2 ⟨j, hj, rfl, e⟩
    refine ⟨((k : Int), plc o[k].w t), mem_pst.2 ⟨k, by simpa using hk, by simp, ?_⟩, List.mem_map.2 ⟨j, hm, rfl⟩⟩
    simp only [List.getElem_map]
    intro h; rw [h] at hm; cases hm
theorem mem_prs {o : List Cd} {q : Int × Int} : q ∈ prs (termsS o) ↔ ∃ (k : Nat) (h : k < o.length) (j : Nat) (_ : j < o[k].w.length), q = ((k : Int), (j : Int)) := by
  rw [prs, List.mem_flatMap]
  constructor
  · rintro ⟨x, hx, hq⟩
    obtain ⟨t, _, rfl⟩ := List.mem_map.1 hx
    obtain ⟨k, hk, j, hj, rfl, _⟩ := mem_prT.1 hq
    exact ⟨k, hk, j, hj, rfl⟩
  · rintro ⟨k, hk, j, hj, rfl⟩
    refine ⟨tmOf o o[k].w[j], List.mem_map.2 ⟨o[k].w[j], wl_mem.2 (List.mem_flatMap.2 ⟨o[k], List.getElem_mem _, List.getElem_mem _⟩), rfl⟩, mem_prT.2 ⟨k, hk, j, hj, rfl, rfl⟩⟩
theorem plc_pw (w : List ByteArray) (t : ByteArray) : (plc w t).Pairwise (· < ·) := by
  have key : ∀ n, n ≤ w.length → (plc (w.take n) t).Pairwise (· < ·) := by
    intro n
    induction n with
    | zero => intro _; simp [plc]
    | succ n ih =>
      intro hn
      rw [List.take_succ_eq_append_getElem hn, plc_app, List.pairwise_append]
      refine ⟨ih (by omega), by split <;> simp, fun a ha b hb => ?_⟩
      obtain ⟨j, hj, rfl, _⟩ := mem_plc.1 ha
      split at hb
      · simp at hb; subst hb; simp at hj ⊢; omega
      · cases hb
  have := key w.length (Nat.le_refl _)
  rwa [List.take_length] at this
theorem pst_pw (ls : List (List ByteArray)) (t : ByteArray) : ((pst ls t).map (·.1)).Pairwise (· < ·) := by
  have key : ∀ n, n ≤ ls.length → ((pst (ls.take n) t).map (·.1)).Pairwise (· < ·) := by
    intro n
    induction n with
    | zero => intro _; simp [pst]
    | succ n ih =>
      intro hn
      rw [pst_succ hn, List.map_append, List.pairwise_append]
      refine ⟨ih (by omega), by split <;> simp, fun a ha b hb => ?_⟩
      obtain ⟨p, hp, rfl⟩ := List.mem_map.1 ha
      have h1 := pst_lt p hp
      split at hb
      · cases hb
      · simp at hb; subst hb; simp at h1; omega
  have := key ls.length (Nat.le_refl _)
  rwa [List.take_length] at this
theorem prs_nodup (o : List Cd) : (prs (termsS o)).Nodup := by
  unfold prs List.Nodup
  rw [List.pairwise_flatMap]
  refine ⟨fun x hx => ?_, ?_⟩
  · obtain ⟨t, _, rfl⟩ := List.mem_map.1 hx
    unfold prT
    rw [List.pairwise_flatMap]
    refine ⟨fun p hp => ?_, ?_⟩
    · obtain ⟨k, hk, rfl, _⟩ := mem_pst.1 hp
      rw [List.pairwise_map]
      exact (plc_pw _ _).imp fun h e => by cases e; omega
    · have := pst_pw (o.map (·.w)) t
      rw [List.pairwise_map] at this
      refine this.imp fun h x hx y hy e => ?_
      obtain ⟨a, _, rfl⟩ := List.mem_map.1 hx
      obtain ⟨b, _, rfl⟩ := List.mem_map.1 hy
      have := congrArg Prod.fst e
      simp only at this; omega
  · unfold termsS
    rw [List.pairwise_map]
    refine (wl_srt _).imp fun {s t} h x hx y hy e => ?_
    obtain ⟨k, hk, j, hj, rfl, e1⟩ := mem_prT.1 hx
    obtain ⟨k', hk', j', hj', rfl, e2⟩ := mem_prT.1 hy
    cases e
    rw [← e1, ← e2, ltB_irr] at h; cases h
theorem sum_len (o : List Cd) : (o.map fun c => (c.w.length : Int)).sum = ((o.flatMap (·.w)).length : Int) := by
  induction o with
  | nil => rfl
  | cons c o ih => simp only [List.map_cons, List.sum_cons, List.flatMap_cons, List.length_append, ih]; omega
def posAll (o : List Cd) : List (Int × Int) := (List.range o.length).flatMap fun (k : Nat) => (List.range (match o[k]? with | some c => c.w.length | none => 0)).map fun (j : Nat) => ((k : Int), (j : Int))
theorem mem_posAll {o : List Cd} {q : Int × Int} : q ∈ posAll o ↔ ∃ (k : Nat) (h : k < o.length) (j : Nat) (_ : j < o[k].w.length), q = ((k : Int), (j : Int)) := by
  rw [posAll, List.mem_flatMap]
  constructor
  · rintro ⟨k, hk, hq⟩
    have hk := List.mem_range.1 hk
    obtain ⟨j, hj, rfl⟩ := List.mem_map.1 hq
    have hj := List.mem_range.1 hj
    rw [List.getElem?_eq_getElem hk] at hj
    exact ⟨k, hk, j, hj, rfl⟩
  · rintro ⟨k, hk, j, hj, rfl⟩
    refine ⟨k, List.mem_range.2 hk, List.mem_map.2 ⟨j, List.mem_range.2 ?_, rfl⟩⟩
    rw [List.getElem?_eq_getElem hk]; exact hj
theorem posAll_nodup (o : List Cd) : (posAll o).Nodup := by
  unfold posAll List.Nodup
  rw [List.pairwise_flatMap]
  refine ⟨fun k _ => ?_, ?_⟩
  · rw [List.pairwise_map]
    exact List.pairwise_lt_range.imp fun h e => by
      have := congrArg Prod.snd e
      simp only at this; omega
  · refine List.pairwise_lt_range.imp fun h x hx y hy e => ?_
    obtain ⟨a, _, rfl⟩ := List.mem_map.1 hx
    obtain ⟨b, _, rfl⟩ := List.mem_map.1 hy
    have := congrArg Prod.fst e
    simp only at this; omega
theorem posAll_len (o : List Cd) : (posAll o).length = (o.flatMap (·.w)).length := by
  rw [posAll, List.length_flatMap, List.length_flatMap]
  congr 1
  refine List.ext_getElem (by simp) fun k h1 h2 => ?_
  have hk : k < o.length := by simpa using h1
  simp [hk]
theorem prs_len (o : List Cd) : (prs (termsS o)).length = (o.flatMap (·.w)).length := by
  rw [← posAll_len]
  exact ((List.perm_ext_iff_of_nodup (prs_nodup o) (posAll_nodup o)).2 fun q => by rw [mem_prs, mem_posAll]).length_eq
/- a segment that was built may stand -/
theorem risE_of {e : Int} : ∀ {l : Int} {xs : List Int}, (∀ x ∈ xs, l < x ∧ x < e) → xs.Pairwise (· < ·) → risE e l xs = true
  | _, [], _, _ => rfl
  | l, x :: xs, h, p => by
    obtain ⟨p1, p2⟩ := List.pairwise_cons.1 p
    have h1 := h x (by simp)
    rw [risE, risE_of (l := x) (fun y hy => ⟨p1 y hy, (h y (List.mem_cons_of_mem _ hy)).2⟩) p2, decide_eq_true h1.1, decide_eq_true h1.2]; rfl
theorem may_pst {o : List Cd} {t : ByteArray} (h64 : o.length ≤ 64) (hw : ∀ c ∈ o, c.w.length ≤ 120) : mayP (pst (o.map (·.w)) t) = true := by
  have hall : (pst (o.map (·.w)) t).all (fun p => decide (0 < p.2.length) && decide (p.2.length ≤ 120) && risE 120 (-1) p.2) = true := by
    rw [List.all_eq_true]
    intro p hp
    obtain ⟨k, hk, rfl, hne⟩ := mem_pst.1 hp
    have hk' : k < o.length := by simpa using hk
    simp only [List.getElem_map] at hne ⊢
    have h1 := hw _ (List.getElem_mem hk')
    have h2 := plc_len (ws := o[k].w) (x := t)
    have h3 : 0 < (plc o[k].w t).length := List.length_pos_iff.2 hne
    rw [decide_eq_true h3, decide_eq_true (by omega), risE_of (fun x hx => ?_) (plc_pw _ _)]
    · rfl
    · obtain ⟨j, hj, rfl, _⟩ := mem_plc.1 hx; omega
  have hlen := pst_len (ls := o.map (·.w)) (x := t)
  rw [List.length_map] at hlen
  rw [mayP, hall, decide_eq_true (by omega), docsL, risE_of (fun x hx => ?_) (pst_pw _ _)]
  · rfl
  · obtain ⟨p, hp, rfl⟩ := List.mem_map.1 hx
    obtain ⟨k, hk, rfl, _⟩ := mem_pst.1 hp
    have hk' : k < o.length := by simpa using hk
    simp only; omega
theorem ids_get {o : List Cd} {b : Bool} {k : Nat} (h : k < o.length) : (segOf o b).ids.getD k default = o[k].id := by simp [segOf, List.getD, h]
theorem keys_get {o : List Cd} {b : Bool} {k : Nat} (h : k < o.length) : (segOf o b).keys.getD k 0 = o[k].key := by simp [segOf, List.getD, h]
theorem lens_get {o : List Cd} {b : Bool} {k : Nat} (h : k < o.length) : (segOf o b).lens.getD k 0 = (o[k].w.length : Int) := by simp [segOf, List.getD, h]
theorem mayC_w {c : Cd} (h : mayC c = true) : fitsS c.id 16 = true ∧ (0 ≤ c.key ∧ c.key ≤ 1073741824) ∧ c.w.length ≤ 120 ∧ ∀ x ∈ c.w, fitsS x 32 = true := by
  simp only [mayC, Bool.and_eq_true, decide_eq_true_eq, List.all_eq_true] at h
  exact ⟨h.1, ⟨h.2.1, h.2.2.1⟩, h.2.2.2.1, h.2.2.2.2⟩
theorem seg_may_ok {o : List Cd} {b : Bool} (hm : ∀ c ∈ o, mayC c = true) (hn : (o.map (·.id)).Nodup) (h64 : o.length ≤ 64) (h200 : (wlS (o.flatMap (·.w))).length ≤ 200) (hs : b = true → o.Pairwise fun x y => befC x y = true) : SgP (segOf o b) := by
  refine ⟨by simp [segOf]; exact h64, by simp [segOf], by simp [segOf], hn, fun k hk => ?_, ?_⟩
  · have hk' : k < o.length := by simpa [segOf] using hk
    obtain ⟨m1, m2, m3, _⟩ := mayC_w (hm _ (List.getElem_mem hk'))
    unfold okD
    rw [ids_get hk', keys_get hk', lens_get hk']
    refine ⟨m1, m2, by omega, fun hb h0 => ?_⟩
    rw [ids_get (by omega), keys_get (by omega)]
    exact List.pairwise_iff_getElem.1 (hs hb) (k - 1) k (by omega) hk' (by omega)
  · refine ⟨fun x hx => ?_, prs_nodup o, fun q hq => ?_, ?_, ?_⟩
    · obtain ⟨t, ht, rfl⟩ := List.mem_map.1 hx
      refine ⟨?_, may_pst h64 fun c hc => (mayC_w (hm c hc)).2.2.1⟩
      obtain ⟨c, hc, hy⟩ := List.mem_flatMap.1 (wl_mem.1 ht)
      obtain ⟨k, hk, rfl⟩ := List.getElem_of_mem hc
      obtain ⟨j, hj, rfl⟩ := List.getElem_of_mem hy
      have : ((k : Int), (j : Int)) ∈ prT (tmOf o o[k].w[j]) := mem_prT.2 ⟨k, hk, j, hj, rfl, rfl⟩
      intro e
      rw [prT, e] at this; cases this
    · obtain ⟨k, hk, j, hj, rfl⟩ := mem_prs.1 hq
      refine ⟨by simp [segOf]; exact hk, ?_⟩
      rw [Int.toNat_natCast, lens_get hk]; simp only; omega
    · refine decide_eq_true ⟨fun k hk => ?_, by simpa [segOf] using h200⟩
      have e : (segOf o b).terms.map (·.t) = wlS (o.flatMap (·.w)) := by simp only [segOf, List.map_map]; exact List.map_id'' (fun _ => rfl) _
      simp only [e] at hk ⊢
      refine ⟨?_, fun h0 => List.pairwise_iff_getElem.1 (wl_srt _) (k - 1) k (by omega) hk (by omega)⟩
      obtain ⟨c, hc, hy⟩ := List.mem_flatMap.1 (wl_mem.1 (List.getElem_mem hk))
      exact (mayC_w (hm c hc)).2.2.2 _ hy
    · show (o.map fun c => (c.w.length : Int)).sum = ((prs (termsS o)).length : Int)
      rw [sum_len, prs_len]
/-- and its cards are those it was built from -/
theorem mem_ops {o : List Cd} {u : (Int × Int) × ByteArray} : u ∈ opsT (termsS o) ↔ ∃ (k : Nat) (h : k < o.length) (j : Nat) (h2 : j < o[k].w.length), u = (((k : Int), (j : Int)), o[k].w[j]) := by
  rw [opsT, List.mem_flatMap]
  constructor
  · rintro ⟨x, hx, hu⟩
    obtain ⟨t, _, rfl⟩ := List.mem_map.1 hx
    obtain ⟨q, hq, rfl⟩ := List.mem_map.1 hu
    obtain ⟨k, hk, j, hj, rfl, e⟩ := mem_prT.1 hq
    exact ⟨k, hk, j, hj, by rw [e]; rfl⟩
  · rintro ⟨k, hk, j, hj, rfl⟩
    refine ⟨tmOf o o[k].w[j], List.mem_map.2 ⟨o[k].w[j], wl_mem.2 (List.mem_flatMap.2 ⟨o[k], List.getElem_mem _, List.getElem_mem _⟩), rfl⟩, List.mem_map.2 ⟨((k : Int), (j : Int)), mem_prT.2 ⟨k, hk, j, hj, rfl, rfl⟩, rfl⟩⟩
theorem wAt_at {o : List Cd} {k j : Nat} (hk : k < o.length) (hj : j < o[k].w.length) : wAt (opsT (termsS o)) ((k : Int), (j : Int)) = o[k].w[j] := by
  unfold wAt
  cases hf : (opsT (termsS o)).find? (fun u => decide (u.1 = ((k : Int), (j : Int)))) with
  | none =>
    have := List.find?_eq_none.1 hf _ (mem_ops.2 ⟨k, hk, j, hj, rfl⟩)
    simp at this
  | some u =>
    have h1 := List.mem_of_find?_eq_some hf
    have h2 := List.find?_some hf
    simp only [decide_eq_true_eq] at h2
    obtain ⟨k', hk', j', hj', rfl⟩ := mem_ops.1 h1
    simp only [Prod.mk.injEq, Int.natCast_inj] at h2
    obtain ⟨rfl, rfl⟩ := h2
    rfl
theorem cards_back {o : List Cd} {b : Bool} (h : SgP (segOf o b)) : cardsS (segOf o b) = o := by
  rw [cardsS, if_pos h]
  refine List.ext_getElem (by simp [segOf]) fun k h1 h2 => ?_
  rw [List.getElem_map, List.getElem_range, cdW, ids_get h2, keys_get h2]
  have : rowW (segOf o b) (opsT (segOf o b).terms) k = o[k].w := by
    unfold rowW
    rw [lens_get h2, Int.toNat_natCast]
    refine List.ext_getElem (by simp) fun j g1 g2 => ?_
    rw [List.getElem_map, List.getElem_range]
    exact wAt_at h2 g2
  rw [this]
end Go.Aw
namespace Go.Aw
open Go.Proofs Go.Sort
set_option maxRecDepth 100000
set_option maxHeartbeats 4000000

/- LAW SEGBACK -/
theorem bTs_strs : ∀ (xs : List ByteArray), xs.length ≤ bTs (xs.map T.s) ∧ ∀ x ∈ xs, x.size < bTs (xs.map T.s)
  | [] => by simp [bTs]
  | x :: xs => by
    obtain ⟨h1, h2⟩ := bTs_strs xs
    have e : bTs ((x :: xs).map T.s) = x.size + 1 + bTs (xs.map T.s) := by simp [bTs, bT]
    rw [e]
    refine ⟨by simp only [List.length_cons]; omega, fun y hy => ?_⟩
    rcases List.mem_cons.1 hy with rfl | hy
    · omega
    · have := h2 y hy; omega
theorem inC_bef {l : List Cd} (h : (l.map (·.id)).Nodup) : (inC l).Pairwise fun x y => befC x y = true := by
  have hn : ((inC l).map (·.id)).Nodup := (inC_perm.map (·.id)).nodup_iff.2 h
  refine List.pairwise_iff_getElem.2 fun i j hi hj hij => ?_
  have h1 := List.pairwise_iff_getElem.1 (inC_srt l) i j hi hj hij
  have h2 : (inC l)[i].id ≠ (inC l)[j].id := by
    have := List.pairwise_iff_getElem.1 hn i j (by simpa using hi) (by simpa using hj) hij
    simpa using this
  cases q : befC (inC l)[i] (inC l)[j] with
  | true => rfl
  | false => exact absurd (bef_same q h1).2 h2
theorem idxS_at {l : List ByteArray} (hn : l.Nodup) {i : Nat} (hi : i < l.length) : idxS l l[i] = (i : Int) := by
  have : l.findIdx? (· == l[i]) = some i := by
    rw [List.findIdx?_eq_some_iff_getElem]
    refine ⟨hi, by show (l[i] == l[i]) = true; rw [ba_beq, decide_eq_true rfl], fun j hj e => ?_⟩
    have := List.pairwise_iff_getElem.1 hn j i (by omega) hi hj
    simp only [ba_beq, decide_eq_true_eq] at e
    exact this e
  rw [idxS, this]
end Go.Aw
