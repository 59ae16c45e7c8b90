/- Contracts of functions of the given program, by the abstract walk, for law MergeCardsUpto: what each one hands back; no condition but those that each theorem states. -/
import Derived.Test.YthcihkgopmmolaaGreatC22
namespace Go.Aw
open Go.Proofs Go.Sort
set_option maxRecDepth 100000
set_option maxHeartbeats 1000000

/- EACH PLACE IS GOT BY ONE -/
theorem bTs_len {α : Type} {e : α → T} (he : ∀ x, 1 ≤ bT (e x)) : ∀ l : List α, l.length ≤ bTs (l.map e) ∧ ∀ x ∈ l, bT (e x) ≤ bTs (l.map e)
  | [] => by simp [bTs]
  | x :: l => by
    obtain ⟨h1, h2⟩ := bTs_len he l
    have h0 := he x
    have e1 : bTs ((x :: l).map e) = bT (e x) + bTs (l.map e) := by simp [bTs]
    rw [e1]
    refine ⟨by simp only [List.length_cons]; omega, fun y hy => ?_⟩
    rcases List.mem_cons.1 hy with rfl | hy
    · omega
    · have := h2 y hy; omega
theorem bT_ints (l : List Int) : l.length < bT (tints l) := by
  have := (bTs_len (e := T.i) (fun _ => by simp [bT]) l).1
  simp only [tints, bT]; omega
theorem bT_post (p : Po) : p.2.length + 2 ≤ bT (tpost p) := by
  have := bT_ints p.2
  simp only [tpost, bT, bTs]; omega
theorem bT_posts (l : List Po) : l.length < bT (tposts l) ∧ ∀ p ∈ l, p.2.length < bT (tposts l) := by
  obtain ⟨h1, h2⟩ := bTs_len (e := tpost) (fun p => by have := bT_post p; omega) l
  simp only [tposts, bT]
  exact ⟨by omega, fun p hp => by have := h2 p hp; have := bT_post p; omega⟩
theorem bT_term (x : Tm) : bT (tposts x.p) < bT (tterm x) := by
  simp only [tterm, bT, bTs]; omega
theorem bT_seg (s : Sg) (N : Nat) (h : bT (tseg s) ≤ N) (hN : N < 1000000000) : bndS s := by
  have h1 := (bTs_strs s.ids).1
  have h2 := bT_ints s.keys
  have h3 := bT_ints s.lens
  obtain ⟨h4, h5⟩ := bTs_len (e := tterm) (fun x => by have := bT_term x; omega) s.terms
  have e : bT (tseg s) = (bTs (s.ids.map T.s) + 1) + (bT (tints s.keys) + (bT (tints s.lens) + ((bTs (s.terms.map tterm) + 1) + 1))) := by
    show bTs [T.sl 1 (s.ids.map T.s), tints s.keys, tints s.lens, T.sl 2 (s.terms.map tterm), .b s.sorted] = _
    simp only [bTs, bT]
  rw [e] at h
  refine ⟨by omega, by omega, by omega, by omega, fun x hx => ?_⟩
  have h6 := h5 x hx
  have h7 := bT_term x
  obtain ⟨h8, h9⟩ := bT_posts x.p
  exact ⟨by omega, fun p hp => by have := h9 p hp; omega⟩
theorem bnd_M {l : List Sg} {v : List (List Bool)} (h : bTs [tsegs l, tlive v] ≤ 1048576) : bndM l v := by
  have hs1 : ∀ s : Sg, 1 ≤ bT (tseg s) := fun s => by
    show 1 ≤ bTs [T.sl 1 (s.ids.map T.s), tints s.keys, tints s.lens, T.sl 2 (s.terms.map tterm), .b s.sorted]
    simp only [bTs, bT]; omega
  have hb1 : ∀ x : List Bool, x.length < bT (tbools x) := fun x => by
    have := (bTs_len (e := T.b) (fun _ => by simp [bT]) x).1
    simp only [tbools, bT]; omega
  obtain ⟨h1, h2⟩ := bTs_len (e := tseg) hs1 l
  obtain ⟨h3, h4⟩ := bTs_len (e := tbools) (fun x => by have := hb1 x; omega) v
  have e : bTs [tsegs l, tlive v] = (bTs (l.map tseg) + 1) + ((bTs (v.map tbools) + 1) + 0) := by simp only [bTs, tsegs, tlive, bT]
  rw [e] at h
  exact ⟨by omega, by omega, fun s hs => bT_seg s 1048576 (by have := h2 s hs; omega) (by omega), fun x hx => by have := h4 x hx; have := hb1 x; omega⟩
end Go.Aw
namespace Go.Aw
open Go.Proofs Go.Sort
set_option maxRecDepth 100000
set_option maxHeartbeats 1000000

/- WHAT LIVES IS ALL THAT IS THERE THEN -/
theorem merge_cards {l : List Sg} {v : List (List Bool)} {b : Bool} (h : (mergeS l v b).2.2 = 0) : SgP (segOf (ordL l v b) b) ∧ cardsS (segOf (ordL l v b) b) = ordL l v b := by
  obtain ⟨hr, hnd, h64, hsp⟩ := merge_tab h
  obtain ⟨m1, m2⟩ := merge_mS (b := b) hr
  rw [m2] at h
  obtain ⟨k1, k2⟩ := mS_may h (left_may hr)
  rw [← m1, hsp] at k1
  exact ⟨k1, cards_back k1⟩
theorem c_law11_MergeCards_upto : ∀ ys, TVs [.sl 5 TySg, .sl 1 (.sl 1 .b), .b, .i .i64, .i .i64] ys → bTs ys ≤ 1048576 → CG Tryz.prog 4 ys (.b true) := by
  intro ys hy hbt
  obtain ⟨y0, ys, rfl, h0, hy⟩ := tvs_cons hy
  obtain ⟨y1, ys, rfl, h1, hy⟩ := tvs_cons hy
  obtain ⟨y2, ys, rfl, h2, hy⟩ := tvs_cons hy
  obtain ⟨y3, ys, rfl, h3, hy⟩ := tvs_cons hy
  obtain ⟨y4, ys, rfl, h4, hy⟩ := tvs_cons hy
  cases tvs_nil hy
  obtain ⟨l, rfl, _, ha⟩ := tv_segs h0
  obtain ⟨v, rfl, _⟩ := tv_live h1
  obtain ⟨b, rfl⟩ := tv_bool h2
  obtain ⟨ii, rfl, _⟩ := tv_int h3
  obtain ⟨dd, rfl, _⟩ := tv_int h4
  have hb : bndM l v := bnd_M (by simp only [bTs, bT] at hbt ⊢; omega)
  refine ⟨k_law11_MergeCards.calls ?_⟩
  have hma : (l.map tseg).length = l.length := by simp
  have hmb : (v.map tbools).length = v.length := by simp
  have up := c_law11_awake
  have f1 := c_law11_Few l v (fun s hs z hz => by have := ha s hs z hz; unfold maxLen at this; omega)
  have fin : ∀ L : List Blk, Ends [] (fun r h => r = V.g (T.b true) ∧ h = []) (V.g (T.b true)) L := fun L => Ends.ground (H := []) (L := L) 0 rfl ⟨rfl, rfl⟩
  have c1 := c_merge_Merge l v b hb
  by_cases hok : (mergeS l v b).2.2 = 0
  case neg =>
    generalize mergeS l v b = m at c1 hok
    (try conv => whnf); repeat ((first | refine (up).go rfl ?_ | refine (f1).go rfl ?_ | refine (c1).go rfl ?_ | refine ⟨rfl, _, rfl, ⟨rfl, rfl, by decide⟩, ?_⟩ | refine ⟨rfl, ?_⟩); conv => whnf)
    refine Br.not (fun e1 => ?_) (fun e1 => ?_)
    · (try conv => whnf); repeat ((first | fail); conv => whnf)
      exact ⟨fin _⟩
    (try conv => whnf); repeat ((first | fail); conv => whnf)
    refine Br.ne (fun e2 => ?_) (fun e2 => absurd (by omega) hok)
    (try conv => whnf); repeat ((first | fail); conv => whnf)
    exact ⟨fin _⟩
  have hbs := merge_bnd (b := b) hb
  obtain ⟨hr, hnd, h64, hsp⟩ := merge_tab hok
  obtain ⟨hs, hcs⟩ := merge_cards hok
  have hWd : WdP l v (permL l v b) (tabsS l v b) := ⟨hr, tab_ok, permL_perm⟩
  rw [hsp] at c1 hbs
  have hPl : (permL l v b).length = manyN v := permL_len
  have hsl : (segOf (ordL l v b) b).ids.length = manyN v := by simp [segOf, ordL, hPl]
  have hsb : (segOf (ordL l v b) b).sorted = b := rfl
  have hlen : (leftS l v).length = manyN v := by rw [leftS, if_pos hr, leftC, List.length_map, leftP_len]
  have hat : ∀ (k : Nat) (p : Nat × Nat), (permL l v b)[k]? = some p → (ordL l v b)[k]? = some (cdP l p) := fun k p hk => by rw [ordL, List.getElem?_map, hk]; rfl
  rw [← hcs] at hat
  generalize hP : permL l v b = P at hWd hPl hat
  generalize htb : tabsS l v b = tb at c1 hWd
  generalize segOf (ordL l v b) b = s at c1 hsl hs hcs hbs hsb hat
  dsimp only at c1 hbs
  have hidl : (s.ids.map T.s).length = manyN v := by simp [hsl]
  have hPn := hWd.nd
  have hmt : (tb.map tints).length = l.length := by rw [List.length_map, hWd.tab.len, hr.1]
  have hlv := hr.1
  have cl := c_merge_Left l v hb
  have hll : ((leftS l v).map tcard).length = manyN v := by rw [List.length_map, hlen]
  have cm := c_seg_May s hbs.2.2.2 hbs.1
  rw [decide_eq_true hs] at cm
  (try conv => whnf); repeat ((first | refine (up).go rfl ?_ | refine (f1).go rfl ?_ | refine (c1).go rfl ?_ | refine ⟨rfl, _, rfl, ⟨rfl, rfl, by decide⟩, ?_⟩ | refine ⟨rfl, ?_⟩); conv => whnf)
  refine Br.not (fun e1 => ?_) (fun e1 => ?_)
  · (try conv => whnf); repeat ((first | fail); conv => whnf)
    exact ⟨fin _⟩
  have w1 := of_decide_eq_true e1
  (try conv => whnf); repeat ((first | refine ⟨_, (cl).go rfl ⟨rfl, rfl⟩, ?_⟩ | refine ⟨_, (cm).go rfl ⟨rfl, rfl⟩, ?_⟩ | refine ⟨rfl, _, rfl, ?_⟩ | refine Br.ne (fun hh => absurd hh (by omega)) (fun _ => ?_)); conv => whnf)
  have hbb : (if true = true then !(s.sorted == b) else (s.sorted == b)) = false := by rw [hsb]; cases b <;> rfl
  rw [hbb]
  (try conv => whnf); repeat ((first | refine Br.ne (fun hh => absurd hh (by omega)) (fun _ => ?_)); conv => whnf)
  refine Br.dec (fun e2 => ?_) (fun e2 => ?_)
  · (try conv => whnf); repeat ((first | fail); conv => whnf)
    exact ⟨fin _⟩
  (try conv => whnf); repeat ((first | fail); conv => whnf)
  refine Br.dec (fun e3 => ?_) (fun e3 => ?_)
  · (try conv => whnf); repeat ((first | fail); conv => whnf)
    exact ⟨fin _⟩
  (try conv => whnf); repeat ((first | fail); conv => whnf)
  refine Br.dec (fun e4 => ?_) (fun e4 => ?_)
  · (try conv => whnf); repeat ((first | fail); conv => whnf)
    exact ⟨fin _⟩
  obtain ⟨i, rfl⟩ : ∃ m : Nat, ii = m := ⟨ii.toNat, by omega⟩
  have hi : i < l.length := by omega
  have hiv : i < v.length := by omega
  have hit : i < tb.length := by have := hWd.tab.len; omega
  have hmi : (l[i].ids.map T.s).length = l[i].ids.length := by simp
  (try conv => whnf); repeat ((first | refine ⟨_, getZ (by omega), ?_⟩ | refine ⟨by omega, rfl, ?_⟩); conv => whnf)
  refine Br.dec (fun e5 => ?_) (fun e5 => ?_)
  · (try conv => whnf); repeat ((first | fail); conv => whnf)
    exact ⟨fin _⟩
  obtain ⟨j, rfl⟩ : ∃ m : Nat, dd = m := ⟨dd.toNat, by omega⟩
  obtain ⟨q1, q2⟩ := hr.2 i hi
  have hg0 : l.getD i noSg = l[i] := getD_at _ hi
  have hg1 : tb.getD i [] = tb[i] := getD_at _ hit
  have hg2 : v.getD i [] = v[i] := getD_at _ hiv
  rw [hg0] at q1 q2
  rw [hg2] at q2
  have hrow := hWd.tab.row i hiv
  rw [hg1, hg2] at hrow
  have hmr : (tb[i].map T.i).length = l[i].ids.length := by simp [hrow, q2]
  have hmv : (v[i].map T.b).length = l[i].ids.length := by simp [q2]
  have hj : j < l[i].ids.length := by omega
  have hjv : j < v[i].length := by omega
  have hjt : j < tb[i].length := by omega
  have hjv2 : j < (v.getD i []).length := by rw [hg2]; exact hjv
  have htj : (tb.getD i []).getD j (-1) = tb[i][j] := by rw [hg1, getD_at _ hjt]
  have hlj : (v.getD i []).getD j false = v[i][j] := by rw [hg2, getD_at _ hjv]
  have hid64 := q1.1
  have hbl := hb.2.2.1 _ (List.getElem_mem hi)
  (try conv => whnf); repeat ((first | refine ⟨_, getZ (by omega), ?_⟩ | refine ⟨by omega, rfl, ?_⟩ | refine Br.ne (fun hh => absurd hh (by omega)) (fun _ => ?_)); conv => whnf)
  cases hlv : v[i][j] with
  | false =>
    have hd := hWd.tab.dead i j hiv hjv2 (by rw [hlj, hlv])
    rw [htj] at hd
    rw [hd]
    (try conv => whnf); repeat ((first | fail); conv => whnf)
    exact ⟨fin _⟩
  | true =>
    obtain ⟨k, hk, hd⟩ := hWd.tab.live i j hiv hjv2 (by rw [hlj, hlv])
    rw [htj] at hd
    have hcat := hat k (i, j) hk
    obtain ⟨hkc, hke⟩ := List.getElem?_eq_some_iff.1 hcat
    have hjc : j < (cardsS l[i]).length := by rw [cards_len q1]; exact hj
    have hcd : cdP l (i, j) = (cardsS l[i])[j] := by rw [cdP, hg0, getD_at _ hjc]
    have a1 := c_seg_Card l[i] j hbl.2.2.2 hbl.1
    have a2 := c_seg_Card s k hbs.2.2.2 hbs.1
    rw [cardS, if_pos ⟨by omega, by omega⟩, Int.toNat_natCast, getD_at _ hjc] at a1
    rw [cardS, if_pos ⟨by omega, by omega⟩, Int.toNat_natCast, getD_at _ hkc, hke, hcd] at a2
    have hki : k < s.ids.length := by rw [← cards_len hs]; exact hkc
    have hfs : findS s (cardsS l[i])[j].id = (k : Int) := by
      have e9 : s.ids[k] = (cardsS l[i])[j].id := by
        have e10 := congrArg (fun (q : List ByteArray) => q[k]?) (cards_ids hs)
        simp only [List.getElem?_map, List.getElem?_eq_getElem hkc, List.getElem?_eq_getElem hki, Option.map_some] at e10
        rw [← Option.some.inj e10, hke, hcd]
      rw [findS, if_pos hs, ← e9]
      exact idxS_at hs.2.2.2.1 hki
    have a3 := c_seg_Find s (cardsS l[i])[j].id hbs.2.2.2 hbs.1
    rw [hfs] at a3
    have hw : ((cardsS l[i])[j]).w.length < 9223372036854775807 := by
      rw [card_at q1]
      have := card_w q1 hj
      have := (q1.2.2.2.2.1 j hj).2.2.1.2
      show (rowW l[i] (opsT l[i].terms) j).length < _
      omega
    have a4 := c_ref05_Same (cardsS l[i])[j] (cardsS l[i])[j] hw
    rw [decide_eq_true rfl] at a4
    generalize (cardsS l[i])[j] = c at a1 a2 a3 a4
    dsimp only at a1 a2
    rw [hd]
    (try conv => whnf); repeat ((first | refine (a1).go rfl ?_ | refine (a2).go rfl ?_ | refine (a3).go rfl ?_ | refine (a4).go rfl ?_ | refine ⟨_, getZ (by omega), ?_⟩ | refine ⟨by omega, rfl, ?_⟩ | refine ⟨rfl, _, rfl, ⟨rfl, rfl, by decide⟩, ?_⟩ | refine ⟨rfl, _, rfl, ?_⟩ | refine ⟨rfl, ?_⟩); conv => whnf)
    rw [show ((k : Int) == (k : Int)) = true from by simp]
    exact ⟨fin _⟩
end Go.Aw
