/- Contracts of functions of the given program, by the abstract walk, for law MergeTablesUpto: what each one hands back; no condition but those that each theorem states. -/
import Derived.Test.YthcihkgopmmolaaGreatC22
namespace Go.Aw
open Go.Proofs Go.Sort
set_option maxRecDepth 100000
set_option maxHeartbeats 1000000

/- EACH PLACE IS GOT BY ONE -/
theorem bTs_len {α : Type} {e : α → T} (he : ∀ x, 1 ≤ bT (e x)) : ∀ l : List α, l.length ≤ bTs (l.map e) ∧ ∀ x ∈ l, bT (e x) ≤ bTs (l.map e)
  | [] => by simp [bTs]
  | x :: l => by
    obtain ⟨h1, h2⟩ := bTs_len he l
    have h0 := he x
    have e1 : bTs ((x :: l).map e) = bT (e x) + bTs (l.map e) := by simp [bTs]
    rw [e1]
    refine ⟨by simp only [List.length_cons]; omega, fun y hy => ?_⟩
    rcases List.mem_cons.1 hy with rfl | hy
    · omega
    · have := h2 y hy; omega
theorem bT_ints (l : List Int) : l.length < bT (tints l) := by
  have := (bTs_len (e := T.i) (fun _ => by simp [bT]) l).1
  simp only [tints, bT]; omega
theorem bT_post (p : Po) : p.2.length + 2 ≤ bT (tpost p) := by
  have := bT_ints p.2
  simp only [tpost, bT, bTs]; omega
theorem bT_posts (l : List Po) : l.length < bT (tposts l) ∧ ∀ p ∈ l, p.2.length < bT (tposts l) := by
  obtain ⟨h1, h2⟩ := bTs_len (e := tpost) (fun p => by have := bT_post p; omega) l
  simp only [tposts, bT]
  exact ⟨by omega, fun p hp => by have := h2 p hp; have := bT_post p; omega⟩
theorem bT_term (x : Tm) : bT (tposts x.p) < bT (tterm x) := by
  simp only [tterm, bT, bTs]; omega
theorem bT_seg (s : Sg) (N : Nat) (h : bT (tseg s) ≤ N) (hN : N < 1000000000) : bndS s := by
  have h1 := (bTs_strs s.ids).1
  have h2 := bT_ints s.keys
  have h3 := bT_ints s.lens
  obtain ⟨h4, h5⟩ := bTs_len (e := tterm) (fun x => by have := bT_term x; omega) s.terms
  have e : bT (tseg s) = (bTs (s.ids.map T.s) + 1) + (bT (tints s.keys) + (bT (tints s.lens) + ((bTs (s.terms.map tterm) + 1) + 1))) := by
    show bTs [T.sl 1 (s.ids.map T.s), tints s.keys, tints s.lens, T.sl 2 (s.terms.map tterm), .b s.sorted] = _
    simp only [bTs, bT]
  rw [e] at h
  refine ⟨by omega, by omega, by omega, by omega, fun x hx => ?_⟩
  have h6 := h5 x hx
  have h7 := bT_term x
  obtain ⟨h8, h9⟩ := bT_posts x.p
  exact ⟨by omega, fun p hp => by have := h9 p hp; omega⟩
theorem bnd_M {l : List Sg} {v : List (List Bool)} (h : bTs [tsegs l, tlive v] ≤ 1048576) : bndM l v := by
  have hs1 : ∀ s : Sg, 1 ≤ bT (tseg s) := fun s => by
    show 1 ≤ bTs [T.sl 1 (s.ids.map T.s), tints s.keys, tints s.lens, T.sl 2 (s.terms.map tterm), .b s.sorted]
    simp only [bTs, bT]; omega
  have hb1 : ∀ x : List Bool, x.length < bT (tbools x) := fun x => by
    have := (bTs_len (e := T.b) (fun _ => by simp [bT]) x).1
    simp only [tbools, bT]; omega
  obtain ⟨h1, h2⟩ := bTs_len (e := tseg) hs1 l
  obtain ⟨h3, h4⟩ := bTs_len (e := tbools) (fun x => by have := hb1 x; omega) v
  have e : bTs [tsegs l, tlive v] = (bTs (l.map tseg) + 1) + ((bTs (v.map tbools) + 1) + 0) := by simp only [bTs, tsegs, tlive, bT]
  rw [e] at h
  exact ⟨by omega, by omega, fun s hs => bT_seg s 1048576 (by have := h2 s hs; omega) (by omega), fun x hx => by have := h4 x hx; have := hb1 x; omega⟩
theorem c_law11_MergeTables_upto : ∀ ys, TVs [.sl 5 TySg, .sl 1 (.sl 1 .b), .b] ys → bTs ys ≤ 1048576 → CG Tryz.prog 3 ys (.b true) := by
  intro ys hy hbt
  obtain ⟨y0, ys, rfl, h0, hy⟩ := tvs_cons hy
  obtain ⟨y1, ys, rfl, h1, hy⟩ := tvs_cons hy
  obtain ⟨y2, ys, rfl, h2, hy⟩ := tvs_cons hy
  cases tvs_nil hy
  obtain ⟨l, rfl, _, ha⟩ := tv_segs h0
  obtain ⟨v, rfl, _⟩ := tv_live h1
  obtain ⟨b, rfl⟩ := tv_bool h2
  have hb : bndM l v := bnd_M (by simp only [bTs, bT] at hbt ⊢; omega)
  refine ⟨k_law11_MergeTables.calls ?_⟩
  have hmb : (v.map tbools).length = v.length := by simp
  have up := c_law11_awake
  have f1 := c_law11_Few l v (fun s hs z hz => by have := ha s hs z hz; unfold maxLen at this; omega)
  have fin : ∀ L : List Blk, Ends [] (fun r h => r = V.g (T.b true) ∧ h = []) (V.g (T.b true)) L := fun L => Ends.ground (H := []) (L := L) 0 rfl ⟨rfl, rfl⟩
  have c1 := c_merge_Merge l v b hb
  by_cases hok : (mergeS l v b).2.2 = 0
  case neg =>
    generalize mergeS l v b = m at c1 hok
    (try conv => whnf); repeat ((first | refine (up).go rfl ?_ | refine (f1).go rfl ?_ | refine (c1).go rfl ?_ | refine ⟨rfl, _, rfl, ⟨rfl, rfl, by decide⟩, ?_⟩ | refine ⟨rfl, ?_⟩); conv => whnf)
    refine Br.not (fun e1 => ?_) (fun e1 => ?_)
    · (try conv => whnf); repeat ((first | fail); conv => whnf)
      exact ⟨fin _⟩
    (try conv => whnf); repeat ((first | fail); conv => whnf)
    refine Br.ne (fun e2 => ?_) (fun e2 => absurd (by omega) hok)
    (try conv => whnf); repeat ((first | fail); conv => whnf)
    exact ⟨fin _⟩
  obtain ⟨hr, hnd, h64, hsp⟩ := merge_tab hok
  have hWd : WdP l v (permL l v b) (tabsS l v b) := ⟨hr, tab_ok, permL_perm⟩
  rw [hsp] at c1
  have hPl : (permL l v b).length = manyN v := permL_len
  have hidl : ((segOf (ordL l v b) b).ids.map T.s).length = manyN v := by simp [segOf, ordL, hPl]
  generalize hP : permL l v b = P at hWd hPl
  generalize htb : tabsS l v b = tb at c1 hWd
  generalize segOf (ordL l v b) b = s at c1 hidl
  dsimp only at c1
  have hPn := hWd.nd
  have hmt : (tb.map tints).length = v.length := by rw [List.length_map, hWd.tab.len]
  have htl := hWd.tab.len
  (try conv => whnf); repeat ((first | refine (up).go rfl ?_ | refine (f1).go rfl ?_ | refine (c1).go rfl ?_ | refine ⟨rfl, _, rfl, ⟨rfl, rfl, by decide⟩, ?_⟩ | refine ⟨rfl, ?_⟩); conv => whnf)
  refine Br.not (fun e1 => ?_) (fun e1 => ?_)
  · (try conv => whnf); repeat ((first | fail); conv => whnf)
    exact ⟨fin _⟩
  have w1 := of_decide_eq_true e1
  have hv6 := w1.2.1
  (try conv => whnf); repeat ((first | refine ⟨by omega, rfl, ?_⟩ | refine ⟨rfl, _, rfl, ?_⟩); conv => whnf)
  rw [hidl]
  (try conv => whnf); repeat ((first | fail); conv => whnf)
  have hin0 : ∀ p ∈ P, p.1 < v.length := fun p hp => (mem_left.1 (hWd.perm.mem_iff.1 hp)).1
  refine SW.loopR (α := Nat) (fun i => tm 120 [(1, livs v), (10, .g (ttabs tb)), (12, .own 1 0 0 (manyN v)), (13, .g (.i i))]) (fun i => [.arr 0 5 [.g (tseg s)], .arr 0 1 (vI (arrP P i 0 (fun _ => 1) 0))]) (fun i => i ≤ v.length) (fun i => v.length - i) 0 ?_ ?_ ?_
  · exact Nat.zero_le _
  · refine Refi.sub ?_ ?_
    · rw [arrP_0, hPl]; simp [vI]; rfl
    · simp [subT, subV, tm, tmGo, ttabs]
  intro i hi
  dsimp only at hi ⊢
  (try conv => whnf); repeat ((first | fail); conv => whnf)
  refine Br.dec (fun e3 => ?_) (fun e3 => ?_)
  · have hiv : i < v.length := by omega
    have hit : i < tb.length := by omega
    have hg1 : tb.getD i [] = tb[i] := getD_at _ hit
    have hg2 : v.getD i [] = v[i] := getD_at _ hiv
    have hrow := hWd.tab.row i hiv
    rw [hg1, hg2] at hrow
    have hmr : (tb[i].map T.i).length = v[i].length := by simp [hrow]
    have hmv : (v[i].map T.b).length = v[i].length := by simp
    have hv70 := w1.2.2.2 _ (List.getElem_mem hiv)
    (try conv => whnf); repeat ((first | fail); conv => whnf)
    refine SW.loopR (α := Nat) (fun j => tm 120 [(1, livs v), (10, .g (ttabs tb)), (12, .own 1 0 0 (manyN v)), (13, .g (.i i)), (14, .g (.i j))]) (fun j => [.arr 0 5 [.g (tseg s)], .arr 0 1 (vI (arrP P i j (fun _ => 1) 0))]) (fun j => j ≤ v[i].length) (fun j => v[i].length - j) 0 ?_ ?_ ?_
    · exact Nat.zero_le _
    · exact Refi.sub rfl (by simp [subT, subV, tm, tmGo])
    intro j hj
    dsimp only at hj ⊢
    (try conv => whnf); repeat ((first | refine ⟨_, getZ (by omega), ?_⟩ | refine ⟨by omega, rfl, ?_⟩); conv => whnf)
    refine Br.dec (fun e4 => ?_) (fun e4 => ?_)
    · have hjv : j < v[i].length := by omega
      have hjt : j < tb[i].length := by omega
      have hjv2 : j < (v.getD i []).length := by rw [hg2]; exact hjv
      have htj : (tb.getD i []).getD j (-1) = tb[i][j] := by rw [hg1, getD_at _ hjt]
      have hlj : (v.getD i []).getD j false = v[i][j] := by rw [hg2, getD_at _ hjv]
      cases hlv : v[i][j] with
      | false =>
        have hd := hWd.tab.dead i j hiv hjv2 (by rw [hlj, hlv])
        rw [htj] at hd
        have hnm : (i, j) ∉ P := fun hm => by
          have := (mem_left.1 (hWd.perm.mem_iff.1 hm)).2.2
          rw [hlj, hlv] at this; cases this
        (try conv => whnf); repeat ((first | refine ⟨_, getZ (by omega), ?_⟩ | refine ⟨by omega, rfl, ?_⟩ | refine Br.dec (fun hh => absurd hh (by omega)) (fun _ => ?_)); conv => whnf)
        rw [hd, hlv]
        (try conv => whnf); repeat ((first | refine ⟨in64 (by omega) (by omega), ?_⟩); conv => whnf)
        exact ⟨⟨j + 1, hjv, by omega, Refi.sub (by rw [arrP_skip hnm]) (by simp [subT, subV, tm, tmGo])⟩⟩
      | true =>
        obtain ⟨k, hk, hd⟩ := hWd.tab.live i j hiv hjv2 (by rw [hlj, hlv])
        rw [htj] at hd
        have hkl := lt_of_get hk
        have hg : (vI (arrP P i j (fun _ => (1 : Int)) 0))[0 + (k : Int).toNat]? = some (V.g (.i 0)) := by
          have e9 : P[k] = (i, j) := by have := List.getElem?_eq_getElem hkl; rw [hk] at this; exact (Option.some.inj this).symm
          simp [vI, arrP, hkl, e9, dnP]
        have hu : (vI (arrP P i j (fun _ => (1 : Int)) 0)).set (0 + (k : Int).toNat) (V.g (.i (0 + 1))) = vI (arrP P i (j + 1) (fun _ => 1) 0) := by
          rw [← arrP_set hPn hk, vI, vI, List.map_set]; simp
        (try conv => whnf); repeat ((first | refine ⟨_, getZ (by omega), ?_⟩ | refine ⟨by omega, rfl, ?_⟩ | refine Br.dec (fun hh => absurd hh (by omega)) (fun _ => ?_)); conv => whnf)
        rw [hd, hlv, decide_eq_true (show (k : Int) ≥ 0 from by omega)]
        (try conv => whnf); repeat ((first | refine ⟨rfl, _, hg, ?_⟩ | refine ⟨⟨rfl, rfl, by decide⟩, ?_⟩ | refine ⟨⟨by omega, by omega⟩, ⟨rfl, rfl⟩, ?_⟩ | refine ⟨in64 (by omega) (by omega), ?_⟩); conv => whnf)
        exact ⟨⟨j + 1, hjv, by omega, Refi.sub (by rw [← hu]; rfl) (by simp [subT, subV, tm, tmGo])⟩⟩
    · have : j = v[i].length := by omega
      subst this
      (try conv => whnf); repeat ((first | refine ⟨in64 (by omega) (by omega), ?_⟩); conv => whnf)
      have hnx : ∀ p ∈ P, p.1 = i → p.2 < v[i].length := fun p hp e => by
        have := (mem_left.1 (hWd.perm.mem_iff.1 hp)).2.1
        rw [e, hg2] at this; exact this
      exact ⟨⟨i + 1, hiv, by omega, Refi.sub (by rw [← arrP_next hnx]) (by simp [subT, subV, tm, tmGo])⟩⟩
  · have : i = v.length := by omega
    subst this
    rw [arrP_all hin0]
    have hmp : (P.map fun _ => (1 : Int)).length = manyN v := by simp [hPl]
    (try conv => whnf); repeat ((first | fail); conv => whnf)
    refine SW.loopR (α := Nat) (fun i => tm 120 [(12, .own 1 0 0 (manyN v)), (16, .g (.i i))]) (fun _ => [.arr 0 5 [.g (tseg s)], .arr 0 1 (vI (P.map fun _ => 1))]) (fun i => i ≤ manyN v) (fun i => manyN v - i) 0 ?_ ?_ ?_
    · exact Nat.zero_le _
    · exact Refi.sub rfl (by simp [subT, subV, tm, tmGo])
    intro i hi
    dsimp only at hi ⊢
    (try conv => whnf); repeat ((first | fail); conv => whnf)
    refine Br.dec (fun e5 => ?_) (fun e5 => ?_)
    · have hg : (vI (P.map fun _ => (1 : Int)))[0 + (i : Int).toNat]? = some (V.g (.i 1)) := by
        have : i < P.length := by omega
        simp [vI, this]
      (try conv => whnf); repeat ((first | refine ⟨rfl, _, hg, ?_⟩ | refine ⟨⟨by omega, by omega⟩, ⟨rfl, rfl⟩, ?_⟩ | refine ⟨in64 (by omega) (by omega), ?_⟩); conv => whnf)
      exact ⟨⟨i + 1, by omega, by omega, Refi.sub rfl (by simp [subT, subV, tm, tmGo])⟩⟩
    · (try conv => whnf); repeat ((first | fail); conv => whnf)
      exact ⟨fin _⟩
end Go.Aw
