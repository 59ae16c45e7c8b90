/- Contracts of functions of the given program, by the abstract walk, for law MergeCardsUpto: what each one hands back; no condition but those that each theorem states. -/
import Derived.Test.YthcihkgopmmolaaGreatC15
import Derived.Test.YthcihkgopmmolaaGreatC16
import Derived.Test.YthcihkgopmmolaaGreatC21
import Derived.Test.YthcihkgopmmolaaGreatC4
namespace Go.Aw
open Go.Proofs Go.Sort
set_option maxRecDepth 100000
set_option maxHeartbeats 1000000

/- MERGE -/
theorem CG.gc {P : Program} {f : Nat} {ts : List T} {t : T} (c : CG P f ts t) : GC P f (ts.map V.g) (.g t) :=
  ⟨c.ok, fun i a h => by
    rw [List.getElem?_map] at h
    obtain ⟨x, _, rfl⟩ := Option.map_eq_some_iff.1 h
    exact .g, .g⟩
theorem storeS (y z : ByteArray) : storeV (V.g (T.s y)) 0 (V.g (T.s z)) = V.g (T.s z) := rfl
def mergeS (l : List Sg) (v : List (List Bool)) (b : Bool) : Sg × List (List Int) × Int :=
  if ¬ (rightP l v ∧ ((leftP v).map (idP l)).Nodup) then (noSg, [], 1) else if 64 < manyN v then (noSg, [], 8)
  else if 200 < (wlS ((ordL l v b).flatMap (·.w))).length then (noSg, [], 8) else (segOf (ordL l v b) b, tabsS l v b, 0)
theorem setP {α : Type} {P : List (Nat × Nat)} (f : Nat × Nat → α) (d : α) (hn : P.Nodup) {k : Nat} {q : Nat × Nat} (hk : P[k]? = some q) {D D' : Nat × Nat → Bool} (hD : ∀ p, D' p = (D p || decide (p = q))) :
    (P.map fun p => if D p then f p else d).set k (f q) = P.map fun p => if D' p then f p else d := by
  obtain ⟨hlt, hq⟩ := List.getElem?_eq_some_iff.1 hk
  refine List.ext_getElem (by simp) fun i h1 h2 => ?_
  have hi : i < P.length := by simpa using h2
  rw [List.getElem_set]
  split
  · rename_i e; subst e
    rw [List.getElem_map, hD, hq]
    simp
  · rename_i e
    have : P[i] ≠ q := fun h => e ((List.getElem_inj hn).1 (by rw [h, hq]))
    simp only [List.getElem_map]
    rw [hD, decide_eq_false this, Bool.or_false]
def dnP (i j : Nat) (p : Nat × Nat) : Bool := decide (p.1 < i ∨ (p.1 = i ∧ p.2 < j))
theorem dnP_succ {i j : Nat} (p : Nat × Nat) : dnP i (j + 1) p = (dnP i j p || decide (p = (i, j))) := by
  obtain ⟨a, b⟩ := p
  simp only [dnP, Prod.mk.injEq]
  rw [← Bool.decide_or]
  refine decide_eq_decide.2 ?_
  omega
def arrP {α : Type} (P : List (Nat × Nat)) (i j : Nat) (f : Nat × Nat → α) (d : α) : List α := P.map fun p => if dnP i j p then f p else d
theorem arrP_set {α : Type} {P : List (Nat × Nat)} {i j k : Nat} {f : Nat × Nat → α} {d : α} (hn : P.Nodup) (hk : P[k]? = some (i, j)) : (arrP P i j f d).set k (f (i, j)) = arrP P i (j + 1) f d := setP f d hn hk dnP_succ
theorem arrP_skip {α : Type} {P : List (Nat × Nat)} {i j : Nat} {f : Nat × Nat → α} {d : α} (hk : (i, j) ∉ P) : arrP P i (j + 1) f d = arrP P i j f d := by
  refine List.map_congr_left fun p hp => ?_
  rw [dnP_succ, decide_eq_false (fun e => hk (by rw [← e]; exact hp)), Bool.or_false]
theorem arrP_next {α : Type} {P : List (Nat × Nat)} {i j : Nat} {f : Nat × Nat → α} {d : α} (h : ∀ p ∈ P, p.1 = i → p.2 < j) : arrP P i j f d = arrP P (i + 1) 0 f d := by
  refine List.map_congr_left fun p hp => ?_
  have : dnP i j p = dnP (i + 1) 0 p := by
    refine decide_eq_decide.2 ?_
    have := h p hp
    omega
  rw [this]
theorem arrP_len {α : Type} {P : List (Nat × Nat)} {i j : Nat} {f : Nat × Nat → α} {d : α} : (arrP P i j f d).length = P.length := by simp [arrP]
theorem arrP_0 {α : Type} {P : List (Nat × Nat)} {f : Nat × Nat → α} {d : α} : arrP P 0 0 f d = List.replicate P.length d := by
  refine List.ext_getElem (by simp [arrP]) fun i h1 h2 => ?_
  simp [arrP, dnP]
theorem arrP_all {α : Type} {P : List (Nat × Nat)} {i : Nat} {f : Nat × Nat → α} {d : α} (h : ∀ p ∈ P, p.1 < i) : arrP P i 0 f d = P.map f := by
  refine List.map_congr_left fun p hp => ?_
  rw [show dnP i 0 p = true from decide_eq_true (.inl (h p hp)), if_pos rfl]
def hpM (P : List (Nat × Nat)) (l : List Sg) (b : Bool) (ts : List Tm) (n i j : Nat) : List Blk := [.arr 0 5 [zSeg], .arr 1 1 (rowS (arrP P i j (idP l) ⟨#[]⟩)), .arr 1 1 (vI (arrP P i j (keyP l) 0)), .arr 1 1 (vI (arrP P i j (lenP' l) 0)),
  .arr 1 5 [.ag [.own 1 1 0 n, .own 2 1 0 n, .own 3 1 0 n, .g (tterms ts), .g (.b b)]]]
theorem c_merge_Merge (l : List Sg) (v : List (List Bool)) (b : Bool) (hb : bndM l v) : CV Tryz.prog 10 [tsegs l, tlive v, .b b] (.tu [.g (tseg (mergeS l v b).1), .g (ttabs (mergeS l v b).2.1), .g (.i (mergeS l v b).2.2)]) := by
  refine ⟨k_merge_Merge.calls ?_, V.lt.gs (ts := [_, _, _])⟩
  obtain ⟨h1, h2, h3, h4⟩ := id hb
  have hma : (l.map tseg).length = l.length := by simp
  have err : ∀ n : Int, mergeS l v b = (noSg, [], n) → ∀ L : List Blk, Ends [] (fun r h => r = V.tu [.g (tseg (mergeS l v b).1), .g (ttabs (mergeS l v b).2.1), .g (.i (mergeS l v b).2.2)] ∧ h = []) (V.tu [zSeg, .nil 1, .g (.i n)]) L := fun n e L => by
    rw [e]
    exact Ends.grounds (H := []) (L := L) 1 (ts := [tseg noSg, ttabs [], .i n]) rfl ⟨rfl, rfl⟩
  have cr := c_merge_right l v hb
  (try conv => whnf); repeat ((first | refine (cr).go rfl ?_ | refine ⟨rfl, ?_⟩); conv => whnf)
  by_cases hr : rightP l v
  case neg =>
    have e := err 1 (by rw [mergeS, if_pos fun q => hr q.1])
    rw [decide_eq_false hr]
    (try conv => whnf); repeat ((first | refine ⟨rfl, _, rfl, ⟨rfl, rfl, by decide⟩, ?_⟩ | refine ⟨rfl, _, rfl, ?_⟩); conv => whnf)
    exact ⟨e _⟩
  have ctw := c_merge_twice l v hb hr
  rw [decide_eq_true hr]
  (try conv => whnf); repeat ((first | refine (ctw).go rfl ?_); conv => whnf)
  refine Br.dec (fun e1 => ?_) (fun e1 => ?_)
  · have e := err 1 (by rw [mergeS, if_pos fun q => e1 q.2])
    (try conv => whnf); repeat ((first | refine ⟨rfl, _, rfl, ⟨rfl, rfl, by decide⟩, ?_⟩ | refine ⟨rfl, _, rfl, ?_⟩); conv => whnf)
    exact ⟨e _⟩
  have hnd : ((leftP v).map (idP l)).Nodup := Classical.not_not.1 e1
  have cm := c_merge_many v h2 h4
  (try conv => whnf); repeat ((first | refine (cm).go rfl ?_); conv => whnf)
  refine Br.dec (fun e2 => ?_) (fun e2 => ?_)
  · have e := err 8 (by rw [mergeS, if_neg fun q => q ⟨hr, hnd⟩, if_pos (by omega)])
    (try conv => whnf); repeat ((first | refine ⟨rfl, _, rfl, ⟨rfl, rfl, by decide⟩, ?_⟩ | refine ⟨rfl, _, rfl, ?_⟩); conv => whnf)
    exact ⟨e _⟩
  have hm64 : manyN v ≤ 64 := by omega
  have ct := c_merge_tables l v b hb hr hm64
  have hWd : WdP l v (permL l v b) (tabsS l v b) := ⟨hr, tab_ok, permL_perm⟩
  have hPl : (permL l v b).length = manyN v := permL_len
  have cw := c_merge_words l v (permL l v b) (tabsS l v b) hb hWd (by omega)
  (try conv => whnf); repeat ((first | refine ⟨_, cw.gc, ?_⟩ | refine ⟨⟨by omega, by omega⟩, ⟨rfl, rfl⟩, ⟨Nat.le_of_ble_eq_true rfl, rfl⟩, ?_⟩ | refine ⟨⟨rfl, rfl⟩, ⟨Nat.le_of_ble_eq_true rfl, rfl⟩, ?_⟩ | refine (ct).go rfl ?_ | refine ⟨rfl, _, rfl, ⟨rfl, rfl, by decide⟩, ?_⟩ | refine ⟨rfl, _, rfl, ?_⟩); conv => whnf)
  have hln : (List.map tterm (termsS (List.map (cdP l) (permL l v b)))).length = (wlS ((ordL l v b).flatMap (·.w))).length := by simp [termsS, ordL]
  refine Br.dec (fun e3 => ?_) (fun e3 => ?_)
  · have e := err 8 (by rw [mergeS, if_neg fun q => q ⟨hr, hnd⟩, if_neg (by omega), if_pos (by omega)])
    (try conv => whnf); repeat ((first | refine ⟨rfl, _, rfl, ⟨rfl, rfl, by decide⟩, ?_⟩ | refine ⟨rfl, _, rfl, ?_⟩); conv => whnf)
    exact ⟨e _⟩
  have spec : mergeS l v b = (segOf (ordL l v b) b, tabsS l v b, 0) := by rw [mergeS, if_neg fun q => q ⟨hr, hnd⟩, if_neg (by omega), if_neg (by omega)]
  have hzs : ∀ {α : Type} (d : α), (List.replicate (manyN v) d) = arrP (permL l v b) 0 0 (fun _ => d) d := fun d => by rw [arrP_0, hPl]
  obtain ⟨P, hP⟩ : ∃ P, permL l v b = P := ⟨_, rfl⟩
  obtain ⟨tb, htb⟩ : ∃ tb, tabsS l v b = tb := ⟨_, rfl⟩
  rw [hP, htb] at hWd
  rw [hP] at hPl
  rw [htb] at spec
  have hPn := hWd.nd
  have hord : ordL l v b = P.map (cdP l) := by rw [ordL, hP]
  obtain ⟨T0, hT0⟩ : ∃ T0, termsS (List.map (cdP l) P) = T0 := ⟨_, rfl⟩
  have hmt : (tb.map tints).length = l.length := by rw [List.length_map, hWd.tab.len, hr.1]
  have hin0 : ∀ p ∈ P, p.1 < l.length := fun p hp => (right_v hr (hWd.perm.mem_iff.1 hp)).1
  (try conv => whnf); repeat ((first | fail); conv => whnf)
  refine SW.loopR (α := Nat) (fun i => tm 101 [(6, .pa 0 0 0 0), (10, .g (ttabs tb)), (11, .pa 4 1 0 0), (51, segs l), (52, .g (.i l.length)), (53, .g (.i i))]) (fun i => hpM P l b T0 (manyN v) i 0) (fun i => i ≤ l.length) (fun i => l.length - i) 0 ?_ ?_ ?_
  · exact Nat.zero_le _
  · refine Refi.sub ?_ ?_
    · rw [hpM, arrP_0, arrP_0, arrP_0, hPl, ← hT0, ← hP]
      simp [rowS, vI, zSeg, tterms]
      rfl
    · simp [subT, subV, tm, tmGo, tsegs, ttabs, htb]
  intro i hi
  dsimp only at hi ⊢
  unfold hpM
  conv => whnf
  refine Br.dec (fun h => ?_) (fun h => ?_)
  · have hi' : i < l.length := by omega
    have hiv : i < v.length := by rw [← hr.1]; exact hi'
    obtain ⟨q1, q2⟩ := hr.2 i hi'
    have hg0 : l.getD i noSg = l[i] := getD_at _ hi'
    have hit : i < tb.length := by rw [hWd.tab.len]; exact hiv
    have hg1 : tb.getD i [] = tb[i] := getD_at _ hit
    have hrow := hWd.tab.row i hiv
    rw [hg1, q2, hg0] at hrow
    rw [hg0] at q1
    have hk1 := q1.2.1
    have hk2 := q1.2.2.1
    have h64 := q1.1
    have hmr : (tb[i].map T.i).length = l[i].ids.length := by simp [hrow]
    have hmi : (l[i].ids.map T.s).length = l[i].ids.length := by simp
    have hmk : (l[i].keys.map T.i).length = l[i].ids.length := by simp [hk1]
    have hml : (l[i].lens.map T.i).length = l[i].ids.length := by simp [hk2]
    (try conv => whnf); repeat ((first | refine ⟨_, getZ (by omega), ?_⟩ | refine ⟨by omega, rfl, ?_⟩ | refine ⟨rfl, _, rfl, ⟨rfl, rfl, by decide⟩, ?_⟩ | refine ⟨rfl, ?_⟩); conv => whnf)
    refine SW.loopR (α := Nat) (fun j => tm 101 [(6, .pa 0 0 0 0), (10, .g (ttabs tb)), (11, .pa 4 1 0 0), (12, .g (.i i)), (13, .pa 5 0 0 0), (51, segs l), (52, .g (.i l.length)), (53, .g (.i i)), (61, .g (tints tb[i])), (62, .g (.i l[i].ids.length)), (63, .g (.i j))])
      (fun j => hpM P l b T0 (manyN v) i j ++ [.arr 0 5 [.g (tseg l[i])]]) (fun j => j ≤ l[i].ids.length) (fun j => l[i].ids.length - j) 0 ?_ ?_ ?_
    · exact Nat.zero_le _
    · exact Refi.sub rfl (by simp [subT, subV, tm, tmGo, tints, hrow])
    intro j hj
    dsimp only at hj ⊢
    unfold hpM
    conv => whnf
    refine Br.dec (fun h => ?_) (fun h => ?_)
    · have hj' : j < l[i].ids.length := by omega
      have hjv : j < (v.getD i []).length := by rw [q2, hg0]; exact hj'
      have hjt : j < tb[i].length := by omega
      have htj : (tb.getD i []).getD j (-1) = tb[i][j] := by rw [hg1, getD_at _ hjt]
      cases hlv : (v.getD i []).getD j false with
      | false =>
        have hd := hWd.tab.dead i j hiv hjv hlv
        rw [htj] at hd
        have hnm : (i, j) ∉ P := fun hm => by
          have := (mem_left.1 (hWd.perm.mem_iff.1 hm)).2.2
          rw [hlv] at this; cases this
        (try conv => whnf); repeat ((first | refine ⟨_, getZ (by omega), ?_⟩ | refine ⟨by omega, rfl, ?_⟩ | refine ⟨in64 (by omega) (by omega), ?_⟩ | refine Br.dec (fun hh => absurd hh (by omega)) (fun _ => ?_)); conv => whnf)
        exact ⟨⟨j + 1, hj', by omega, Refi.sub (by simp only [arrP_skip hnm]; rfl) (by simp [subT, subV, tm, tmGo])⟩⟩
      | true =>
        obtain ⟨k, hk, hd⟩ := hWd.tab.live i j hiv hjv hlv
        rw [htj] at hd
        have hkl := lt_of_get hk
        have hjk : j < l[i].keys.length := by omega
        have hjl : j < l[i].lens.length := by omega
        have hp1 : idP l (i, j) = l[i].ids[j] := by rw [idP, hg0, getD_at _ hj']
        have hp2 : keyP l (i, j) = l[i].keys[j] := by rw [keyP, hg0, getD_at _ hjk]
        have hp3 : lenP' l (i, j) = l[i].lens[j] := by rw [lenP', hg0, getD_at _ hjl]
        have s1 : ∃ z, (rowS (arrP P i j (idP l) ⟨#[]⟩))[0 + (k : Int).toNat]? = some (V.g (.s z)) := ⟨(arrP P i j (idP l) ⟨#[]⟩)[k]'(by rw [arrP_len]; exact hkl), by simp [rowS, hkl, arrP_len]⟩
        have s2 : ∃ z, (vI (arrP P i j (keyP l) 0))[0 + (k : Int).toNat]? = some (V.g (.i z)) := ⟨(arrP P i j (keyP l) 0)[k]'(by rw [arrP_len]; exact hkl), by simp [vI, hkl, arrP_len]⟩
        have s3 : ∃ z, (vI (arrP P i j (lenP' l) 0))[0 + (k : Int).toNat]? = some (V.g (.i z)) := ⟨(arrP P i j (lenP' l) 0)[k]'(by rw [arrP_len]; exact hkl), by simp [vI, hkl, arrP_len]⟩
        obtain ⟨z1, s1⟩ := s1
        obtain ⟨z2, s2⟩ := s2
        obtain ⟨z3, s3⟩ := s3
        have u1 : (rowS (arrP P i j (idP l) ⟨#[]⟩)).set (0 + (k : Int).toNat) (V.g (.s l[i].ids[j])) = rowS (arrP P i (j + 1) (idP l) ⟨#[]⟩) := by rw [← arrP_set hPn hk, hp1, rowS, rowS, List.map_set]; simp
        have u2 : (vI (arrP P i j (keyP l) 0)).set (0 + (k : Int).toNat) (V.g (.i l[i].keys[j])) = vI (arrP P i (j + 1) (keyP l) 0) := by rw [← arrP_set hPn hk, hp2, vI, vI, List.map_set]; simp
        have u3 : (vI (arrP P i j (lenP' l) 0)).set (0 + (k : Int).toNat) (V.g (.i l[i].lens[j])) = vI (arrP P i (j + 1) (lenP' l) 0) := by rw [← arrP_set hPn hk, hp3, vI, vI, List.map_set]; simp
        generalize rowS (arrP P i j (idP l) ⟨#[]⟩) = A1 at s1 u1 ⊢
        generalize vI (arrP P i j (keyP l) 0) = A2 at s2 u2 ⊢
        generalize vI (arrP P i j (lenP' l) 0) = A3 at s3 u3 ⊢
        (try conv => whnf); repeat ((first | refine ⟨_, getZ (by omega), ?_⟩ | refine ⟨by omega, rfl, ?_⟩ | refine ⟨⟨rfl, rfl⟩, ?_⟩ | refine ⟨⟨by omega, by omega⟩, ⟨rfl, rfl⟩, ?_⟩ | refine Br.dec (fun _ => ?_) (fun hh => absurd (by omega) hh) | refine ⟨_, rfl, ?_⟩); conv => whnf)
        rw [hd]
        (try conv => whnf); repeat ((first | refine ⟨_, s1, ⟨rfl, rfl, by decide⟩, ?_⟩ | refine ⟨_, s2, ⟨rfl, rfl, by decide⟩, ?_⟩ | refine ⟨_, s3, ⟨rfl, rfl, by decide⟩, ?_⟩ | refine ⟨⟨rfl, rfl⟩, ?_⟩ | refine ⟨⟨by omega, by omega⟩, ⟨rfl, rfl⟩, ?_⟩ | refine ⟨in64 (by omega) (by omega), ?_⟩); conv => whnf)
        exact ⟨⟨j + 1, hj', by omega, Refi.sub (by rw [storeS, storeI, storeI, u1, u2, u3]; rfl) (by simp [subT, subV, tm, tmGo])⟩⟩
    · have : j = l[i].ids.length := by omega
      subst this
      (try conv => whnf); repeat ((first | refine ⟨in64 (by omega) (by omega), ?_⟩); conv => whnf)
      have hnx : ∀ p ∈ P, p.1 = i → p.2 < l[i].ids.length := fun p hp e => by
        have := (right_v hr (hWd.perm.mem_iff.1 hp)).2.2
        rw [e, hg0] at this; exact this
      refine ⟨⟨i + 1, hi', by omega, Refi.back (H' := hpM P l b T0 (manyN v) (i + 1) 0) (L := [_]) (by rw [hpM, ← arrP_next hnx, ← arrP_next hnx, ← arrP_next hnx]; rfl) (Nat.zero_le _) ?_ (by simp [subT, subV, tm, tmGo, cutV, ltB, ltS, hpM])⟩⟩
      intro y hy
      simp only [hpM, List.mem_cons, List.not_mem_nil, or_false] at hy
      rcases hy with rfl | rfl | rfl | rfl | rfl
      · refine Blk.lt_of fun e he u hu => ?_
        simp only [List.mem_cons, List.not_mem_nil, or_false] at he; subst he
        simp only [zSeg, V.cells, List.mem_cons, List.not_mem_nil, or_false] at hu
        rcases hu with rfl | rfl | rfl | rfl | rfl
        · exact .nil
        · exact .nil
        · exact .nil
        · exact .nil
        · exact .g
      · exact Blk.lt_g
      · exact Blk.lt_g
      · exact Blk.lt_g
      · refine Blk.lt_of fun e he u hu => ?_
        simp only [List.mem_cons, List.not_mem_nil, or_false] at he; subst he
        simp only [V.cells, List.mem_cons, List.not_mem_nil, or_false] at hu
        have h5 : (hpM P l b T0 (manyN v) (i + 1) 0).length = 5 := rfl
        rcases hu with rfl | rfl | rfl | rfl | rfl
        · exact .own (by omega)
        · exact .own (by omega)
        · exact .own (by omega)
        · exact .g
        · exact .g
  · have : i = l.length := by omega
    subst this
    (try conv => whnf); repeat ((first | refine ⟨rfl, _, rfl, ⟨rfl, rfl, by decide⟩, ?_⟩ | refine ⟨rfl, _, rfl, ?_⟩); conv => whnf)
    rw [arrP_all hin0, arrP_all hin0, arrP_all hin0]
    have hPm : ∀ p ∈ P, p ∈ leftP v := fun p hp => hWd.perm.mem_iff.1 hp
    have hseg : segOf (ordL l v b) b = ⟨P.map (idP l), P.map (keyP l), P.map (lenP' l), T0, b⟩ := by
      have a1 : (P.map (cdP l)).map (·.id) = P.map (idP l) := by rw [List.map_map]; exact List.map_congr_left fun p hp => cdP_id hr (hPm p hp)
      have a2 : (P.map (cdP l)).map (·.key) = P.map (keyP l) := by rw [List.map_map]; exact List.map_congr_left fun p hp => cdP_key hr (hPm p hp)
      have a3 : (P.map (cdP l)).map (fun c => (c.w.length : Int)) = P.map (lenP' l) := by rw [List.map_map]; exact List.map_congr_left fun p hp => cdP_w hr (hPm p hp)
      rw [hord, segOf, a1, a2, a3, ← hT0]; rfl
    rw [spec, hseg]
    refine ⟨Ends.grounds (H := []) (L := [_, _, _, _, _]) 3 (ts := [tseg ⟨P.map (idP l), P.map (keyP l), P.map (lenP' l), T0, b⟩, ttabs tb, .i 0]) ?_ ⟨rfl, rfl⟩⟩
    have g1 := fun h hb => rowS_gr (l := P.map (idP l)) (n := 0) (d := 1) (b := 1) (g := 1) (h := h) hb (Nat.zero_le _)
    have g2 := fun h hb => vI_gr (l := P.map (keyP l)) (n := 0) (d := 1) (b := 2) (g := 1) (h := h) hb (Nat.zero_le _)
    have g3 := fun h hb => vI_gr (l := P.map (lenP' l)) (n := 0) (d := 1) (b := 3) (g := 1) (h := h) hb (Nat.zero_le _)
    simp only [List.length_map, hPl] at g1 g2 g3
    generalize hh : (_ :: _ :: _ :: _ :: _ :: [] : List Blk) = h
    have g1 := g1 h (by rw [← hh]; rfl)
    have g2 := g2 h (by rw [← hh]; rfl)
    have g3 := g3 h (by rw [← hh]; rfl)
    show optL [(optL [gr 0 h 2 (.own 1 1 0 (manyN v)), gr 0 h 2 (.own 2 1 0 (manyN v)), gr 0 h 2 (.own 3 1 0 (manyN v)), gr 0 h 2 (.g (tterms T0)), gr 0 h 2 (.g (.b b))]).map T.ag, gr 0 h 3 (.g (ttabs tb)), gr 0 h 3 (.g (.i 0))] = _
    rw [g1, g2, g3, gr_g, gr_g, gr_g, gr_g]
    rfl
end Go.Aw
namespace Go.Aw
open Go.Proofs Go.Sort
set_option maxRecDepth 100000
set_option maxHeartbeats 1000000

/- WHO IS LEFT -/
def leftS (l : List Sg) (v : List (List Bool)) : List Cd := if rightP l v then leftC l v else []
theorem c_merge_Left (l : List Sg) (v : List (List Bool)) (hb : bndM l v) : CG Tryz.prog 11 [tsegs l, tlive v] (tcards (leftS l v)) := by
  refine ⟨k_merge_Left.calls ?_⟩
  obtain ⟨h1, h2, h3, h4⟩ := id hb
  have hma : (l.map tseg).length = l.length := by simp
  have cr := c_merge_right l v hb
  (try conv => whnf); repeat ((first | refine (cr).go rfl ?_); conv => whnf)
  by_cases hr : rightP l v
  case neg =>
    rw [decide_eq_false hr]
    (try conv => whnf); repeat ((first | fail); conv => whnf)
    rw [leftS, if_neg hr]
    exact ⟨Ends.ground (H := []) (L := []) (t := tcards []) 1 rfl ⟨rfl, rfl⟩⟩
  rw [decide_eq_true hr]
  obtain ⟨r1, r2⟩ := id hr
  (try conv => whnf); repeat ((first | fail); conv => whnf)
  refine SW.loopR (α := Nat) (fun k => tm 43 [(1, livs v), (5, .own 0 (leftN v k).length 0 (leftN v k).length), (14, segs l), (15, .g (.i l.length)), (16, .g (.i k))])
    (fun k => [.arr (leftN v k).length 3 (vcards ((leftN v k).map (cdP l)))]) (fun k => k ≤ l.length) (fun k => l.length - k) 0 ?_ ?_ ?_
  · exact Nat.zero_le _
  · refine (Refi.valloc 5 3 rfl).trans (Refi.sub ?_ ?_)
    · simp [leftN, vcards, addB_eq]
    · simp [subT, subV, tm, tmGo, tsegs, tlive, setT, leftN]
  · intro k hk
    dsimp only at hk ⊢
    conv => whnf
    refine Br.dec (fun h => ?_) (fun h => ?_)
    · have hk' : k < l.length := by omega
      have hkv : k < v.length := by omega
      obtain ⟨q1, q2⟩ := r2 k hk'
      have hg0 : l.getD k noSg = l[k] := getD_at _ hk'
      have hg1 : v.getD k [] = v[k] := getD_at _ hkv
      rw [hg0] at q1 q2
      rw [hg1] at q2
      have hid := q1.1
      have hll := leftN_le hr (k := k) (by omega)
      have hcl := cards_len q1
      have hmc : ((cardsS l[k]).map tcard).length = l[k].ids.length := by simp [hcl]
      have hm1 : (v[k].map T.b).length = l[k].ids.length := by simp [q2]
      have hbk := h3 _ (List.getElem_mem hk')
      have cc := c_seg_Cards l[k] hbk.2.2.2 hbk.1
      obtain ⟨m, hm⟩ : ∃ m, (leftN v k).length = m := ⟨_, rfl⟩
      rw [hm]
      (try conv => whnf); repeat ((first | refine (cc).go rfl ?_ | refine ⟨_, getZ (by omega), ?_⟩ | refine ⟨by omega, rfl, ?_⟩ | refine ⟨rfl, _, rfl, ⟨rfl, rfl, by decide⟩, ?_⟩ | refine ⟨rfl, _, rfl, ?_⟩ | refine ⟨rfl, ?_⟩); conv => whnf)
      refine SW.loopR (α := Nat) (fun j => tm 43 [(1, livs v), (5, .own 0 (m + (liveD v[k] j).length) 0 (m + (liveD v[k] j).length)), (6, .g (.i k)), (14, segs l), (15, .g (.i l.length)), (16, .g (.i k)), (22, cards (cardsS l[k])), (23, .g (.i l[k].ids.length)), (24, .g (.i j))])
        (fun j => [.arr (m + (liveD v[k] j).length) 3 (vcards ((leftN v k ++ (liveD v[k] j).map fun d => (k, d)).map (cdP l))), .arr 0 5 [.g (tseg l[k])]])
        (fun j => j ≤ l[k].ids.length) (fun j => l[k].ids.length - j) 0 ?_ ?_ ?_
      · exact Nat.zero_le _
      · exact Refi.sub (by simp [liveD]; rfl) (by simp [subT, subV, tm, tmGo, cards, liveD, hcl])
      · intro j hj
        dsimp only at hj ⊢
        have hll2 := liveD_le (x := v[k]) (j := j)
        conv => whnf
        refine Br.dec (fun h => ?_) (fun h => ?_)
        · have hj' : j < l[k].ids.length := by omega
          have hjv : j < v[k].length := by omega
          have hjc : j < (cardsS l[k]).length := by omega
          have hs := liveD_succ (x := v[k]) (j := j) hjv
          have hle : ((leftN v k ++ (liveD v[k] j).map fun d => (k, d)).map (cdP l)).length = m + (liveD v[k] j).length := by simp [hm]
          have hk2 : cdP l (k, j) = (cardsS l[k])[j] := by rw [cdP, hg0, getD_at _ hjc]
          have hP : leftN v k ++ (liveD v[k] j ++ [j]).map (fun d => (k, d)) = (leftN v k ++ (liveD v[k] j).map fun d => (k, d)) ++ [(k, j)] := by simp
          generalize hP0 : leftN v k ++ (liveD v[k] j).map (fun d => (k, d)) = P at hle hP ⊢
          have e1 : vcards ((P ++ [(k, j)]).map (cdP l)) = vcards (P.map (cdP l)) ++ [V.g (tcard (cardsS l[k])[j])] := by simp [vcards, hk2]
          have f1 : (vcards (P.map (cdP l))).length = m + (liveD v[k] j).length := by rw [vcards, List.length_map]; exact hle
          (try conv => whnf); repeat ((first | refine ⟨_, getZ (by omega), ?_⟩ | refine ⟨by omega, rfl, ?_⟩ | refine ⟨by (simp; omega), rfl, ?_⟩ | refine ⟨rfl, _, rfl, ⟨rfl, rfl, by decide⟩, ?_⟩ | refine ⟨rfl, ?_⟩); conv => whnf)
          refine Br.intro (fun e => ?_) (fun e => ?_)
          · rw [e, if_pos rfl] at hs
            have hsl : (liveD v[k] (j + 1)).length = (liveD v[k] j).length + 1 := by rw [hs]; simp
            (try conv => whnf); repeat ((first | refine ⟨by simp; omega, ⟨rfl, rfl, rfl⟩, _, ⟨[], (List.append_nil _).symm⟩, by simp only [f1], ?_⟩ | refine And.intro (show cellsAll _ _ from by repeat (first | exact trivial | refine ⟨⟨rfl, rfl⟩, ?_⟩)) ?_ | refine ⟨rfl, _, rfl, ?_⟩ | refine ⟨rfl, ?_⟩ | refine ⟨in64 (by omega) (by omega), ?_⟩); conv => whnf)
            refine ⟨⟨j + 1, hj', by omega, Refi.back (H' := [.arr (m + (liveD v[k] (j + 1)).length) 3 (vcards ((leftN v k ++ (liveD v[k] (j + 1)).map fun d => (k, d)).map (cdP l))), .arr 0 5 [.g (tseg l[k])]]) (L := [.arr 0 3 [.g (tcard (cardsS l[k])[j])]]) ?_ (Nat.zero_le _) ?_ ?_⟩⟩
            · rw [hsl, hs, hP, e1]; rfl
            · intro y hy
              simp only [List.mem_cons, List.not_mem_nil, or_false] at hy
              rcases hy with rfl | rfl
              · exact Blk.lt_g
              · exact Blk.lt_g1
            · rw [hsl]; simp [subT, subV, tm, tmGo, cards, cutV, ltB, ltS, Nat.add_assoc]
          · rw [e, if_neg (by simp), List.append_nil] at hs
            (try conv => whnf); repeat ((first | refine ⟨in64 (by omega) (by omega), ?_⟩); conv => whnf)
            refine ⟨⟨j + 1, hj', by omega, Refi.back (H' := [.arr (m + (liveD v[k] (j + 1)).length) 3 (vcards ((leftN v k ++ (liveD v[k] (j + 1)).map fun d => (k, d)).map (cdP l))), .arr 0 5 [.g (tseg l[k])]]) (L := [.arr 0 3 [.g (tcard (cardsS l[k])[j])]]) (by rw [hs, hP0]; rfl) (Nat.zero_le _) ?_ (by rw [hs]; simp [subT, subV, tm, tmGo, cards, cutV, ltB, ltS])⟩⟩
            intro y hy
            simp only [List.mem_cons, List.not_mem_nil, or_false] at hy
            rcases hy with rfl | rfl
            · exact Blk.lt_g
            · exact Blk.lt_g1
        · have : j = l[k].ids.length := by omega
          subst this
          have hN : leftN v (k + 1) = leftN v k ++ (liveD v[k] l[k].ids.length).map fun d => (k, d) := by rw [leftN_succ, hg1, q2]
          have hNl : (leftN v (k + 1)).length = m + (liveD v[k] l[k].ids.length).length := by rw [hN]; simp [hm]
          rw [← hN]
          (try conv => whnf); repeat ((first | refine ⟨in64 (by omega) (by omega), ?_⟩); conv => whnf)
          refine ⟨⟨k + 1, hk', by omega, Refi.back (H' := [.arr (leftN v (k + 1)).length 3 (vcards ((leftN v (k + 1)).map (cdP l)))]) (L := [_]) (by rw [hNl]; rfl) (Nat.zero_le _) ?_ (by rw [hNl]; simp [subT, subV, tm, tmGo, cutV, ltB, ltS])⟩⟩
          intro y hy
          simp only [List.mem_cons, List.not_mem_nil, or_false] at hy
          rcases hy with rfl
          exact Blk.lt_g
    · have : k = l.length := by omega
      subst this
      rw [r1]
      (try conv => whnf); repeat ((first | fail); conv => whnf)
      rw [leftS, if_pos hr]
      refine ⟨Ends.ground (H := []) (L := [_]) (t := tcards (leftC l v)) 1 ?_ ⟨rfl, rfl⟩⟩
      exact gr_vcards rfl (Nat.zero_le _) (by simp [leftC, leftP])
end Go.Aw
namespace Go.Aw
open Go.Proofs Go.Sort
set_option maxRecDepth 100000
set_option maxHeartbeats 1000000

/- FEW -/
def fewT (x : Tm) : Prop := fewP x.p = true ∧ x.t.size ≤ 40
instance (x : Tm) : Decidable (fewT x) := by unfold fewT; exact inferInstance
def fewS (s : Sg) : Prop := s.ids.length ≤ 70 ∧ s.keys.length ≤ 70 ∧ s.lens.length ≤ 70 ∧ s.terms.length ≤ 210 ∧ (∀ x ∈ s.ids, x.size ≤ 40) ∧ ∀ x ∈ s.terms, fewT x
instance (s : Sg) : Decidable (fewS s) := by unfold fewS; exact inferInstance
theorem c_law08_FewSeg (s : Sg) (hp : ∀ x ∈ s.terms, x.p.length < 9223372036854775808) : CG Tryz.prog 16 [tseg s] (.b (decide (fewS s))) := by
  refine ⟨k_law08_FewSeg.calls ?_⟩
  have hmi : (s.ids.map T.s).length = s.ids.length := by simp
  have hmk : (s.keys.map T.i).length = s.keys.length := by simp
  have hml : (s.lens.map T.i).length = s.lens.length := by simp
  have hmt : (s.terms.map tterm).length = s.terms.length := by simp
  have no : ¬ fewS s → ∀ L, Ends [] (fun r h => r = V.g (T.b (decide (fewS s))) ∧ h = []) (V.g (T.sc (Value.bool false))) L := fun e L => by
    rw [decide_eq_false e]; exact Ends.ground (H := []) (L := L) 0 rfl ⟨rfl, rfl⟩
  (try conv => whnf); repeat ((first | refine ⟨rfl, _, rfl, ?_⟩ | refine ⟨⟨rfl, rfl⟩, ?_⟩); conv => whnf)
  refine Br.dec (fun e1 => ?_) (fun e1 => ?_)
  · (try conv => whnf); repeat ((first | fail); conv => whnf)
    exact ⟨no (fun q => by have := q.1; omega) _⟩
  (try conv => whnf); repeat ((first | refine ⟨rfl, _, rfl, ?_⟩); conv => whnf)
  refine Br.dec (fun e2 => ?_) (fun e2 => ?_)
  · (try conv => whnf); repeat ((first | fail); conv => whnf)
    exact ⟨no (fun q => by have := q.2.1; omega) _⟩
  (try conv => whnf); repeat ((first | refine ⟨rfl, _, rfl, ?_⟩); conv => whnf)
  refine Br.dec (fun e3 => ?_) (fun e3 => ?_)
  · (try conv => whnf); repeat ((first | fail); conv => whnf)
    exact ⟨no (fun q => by have := q.2.2.1; omega) _⟩
  (try conv => whnf); repeat ((first | refine ⟨rfl, _, rfl, ?_⟩); conv => whnf)
  refine Br.dec (fun e4 => ?_) (fun e4 => ?_)
  · (try conv => whnf); repeat ((first | fail); conv => whnf)
    exact ⟨no (fun q => by have := q.2.2.2.1; omega) _⟩
  (try conv => whnf); repeat ((first | fail); conv => whnf)
  refine SW.loopR (α := Nat) (fun i => tm 68 [(1, .pa 0 0 0 0), (3, .g (.i i))]) (fun _ => [.arr 0 5 [.g (tseg s)]]) (fun i => i ≤ s.ids.length ∧ ∀ x ∈ s.ids.take i, x.size ≤ 40) (fun i => s.ids.length - i) 0 ?_ ?_ ?_
  · exact ⟨Nat.zero_le _, by simp⟩
  · exact Refi.sub rfl (by simp [subT, subV, tm, tmGo])
  rintro i ⟨hi, hf⟩
  dsimp only at hi hf ⊢
  (try conv => whnf); repeat ((first | refine ⟨rfl, _, rfl, ?_⟩); conv => whnf)
  refine Br.dec (fun e5 => ?_) (fun e5 => ?_)
  · have hi' : i < s.ids.length := by omega
    (try conv => whnf); repeat ((first | refine ⟨_, getZ (by omega), ?_⟩ | refine ⟨by omega, rfl, ?_⟩ | refine ⟨rfl, _, rfl, ?_⟩); conv => whnf)
    refine Br.dec (fun e6 => ?_) (fun e6 => ?_)
    · (try conv => whnf); repeat ((first | fail); conv => whnf)
      exact ⟨no (fun q => by have := q.2.2.2.2.1 _ (List.getElem_mem hi'); omega) _⟩
    · (try conv => whnf); repeat ((first | refine ⟨in64 (by omega) (by omega), ?_⟩); conv => whnf)
      refine ⟨⟨i + 1, ⟨hi', fun x hx => ?_⟩, by omega, Refi.sub rfl (by simp [subT, subV, tm, tmGo])⟩⟩
      rw [List.take_succ_eq_append_getElem hi', List.mem_append, List.mem_singleton] at hx
      rcases hx with hx | rfl
      · exact hf x hx
      · omega
  · have : i = s.ids.length := by omega
    subst this
    rw [List.take_length] at hf
    (try conv => whnf); repeat ((first | fail); conv => whnf)
    refine SW.loopR (α := Nat) (fun i => tm 68 [(1, .pa 0 0 0 0), (4, .g (.i i))]) (fun _ => [.arr 0 5 [.g (tseg s)]]) (fun i => i ≤ s.terms.length ∧ ∀ x ∈ s.terms.take i, fewT x) (fun i => s.terms.length - i) 0 ?_ ?_ ?_
    · exact ⟨Nat.zero_le _, by simp⟩
    · exact Refi.sub rfl (by simp [subT, subV, tm, tmGo])
    rintro i ⟨hi2, hg⟩
    dsimp only at hi2 hg ⊢
    (try conv => whnf); repeat ((first | refine ⟨rfl, _, rfl, ?_⟩); conv => whnf)
    refine Br.dec (fun e7 => ?_) (fun e7 => ?_)
    · have hi' : i < s.terms.length := by omega
      have bad : ¬ fewT s.terms[i] → ¬ fewS s := fun e q => e (q.2.2.2.2.2 _ (List.getElem_mem hi'))
      have cf := c_Few s.terms[i].p (hp _ (List.getElem_mem hi'))
      (try conv => whnf); repeat ((first | refine (cf).go rfl ?_ | refine ⟨_, getZ (by omega), ?_⟩ | refine ⟨by omega, rfl, ?_⟩ | refine ⟨rfl, _, rfl, ?_⟩); conv => whnf)
      refine Br.not (fun e8 => ?_) (fun e8 => ?_)
      · (try conv => whnf); repeat ((first | fail); conv => whnf)
        exact ⟨no (bad fun q => by have := q.1; rw [e8] at this; cases this) _⟩
      · (try conv => whnf); repeat ((first | refine ⟨_, getZ (by omega), ?_⟩ | refine ⟨by omega, rfl, ?_⟩ | refine ⟨rfl, _, rfl, ?_⟩); conv => whnf)
        refine Br.dec (fun e9 => ?_) (fun e9 => ?_)
        · (try conv => whnf); repeat ((first | fail); conv => whnf)
          exact ⟨no (bad fun q => by have := q.2; omega) _⟩
        · (try conv => whnf); repeat ((first | refine ⟨in64 (by omega) (by omega), ?_⟩); conv => whnf)
          refine ⟨⟨i + 1, ⟨hi', fun x hx => ?_⟩, by omega, Refi.sub rfl (by simp [subT, subV, tm, tmGo])⟩⟩
          rw [List.take_succ_eq_append_getElem hi', List.mem_append, List.mem_singleton] at hx
          rcases hx with hx | rfl
          · exact hg x hx
          · exact ⟨e8, by omega⟩
    · have : i = s.terms.length := by omega
      subst this
      rw [List.take_length] at hg
      (try conv => whnf); repeat ((first | fail); conv => whnf)
      rw [decide_eq_true (show fewS s from ⟨by omega, by omega, by omega, by omega, hf, hg⟩)]
      exact ⟨Ends.ground (H := []) (L := [_]) 0 rfl ⟨rfl, rfl⟩⟩
def few11 (l : List Sg) (v : List (List Bool)) : Prop := l.length ≤ 6 ∧ v.length ≤ 6 ∧ (∀ s ∈ l, fewS s) ∧ ∀ x ∈ v, x.length ≤ 70
instance (l : List Sg) (v : List (List Bool)) : Decidable (few11 l v) := by unfold few11; exact inferInstance
theorem c_law11_Few (l : List Sg) (v : List (List Bool)) (hp : ∀ s ∈ l, ∀ x ∈ s.terms, x.p.length < 9223372036854775808) : CG Tryz.prog 9 [tsegs l, tlive v] (.b (decide (few11 l v))) := by
  refine ⟨k_law11_Few.calls ?_⟩
  have hma : (l.map tseg).length = l.length := by simp
  have hmb : (v.map tbools).length = v.length := by simp
  have no : ¬ few11 l v → ∀ L, Ends [] (fun r h => r = V.g (T.b (decide (few11 l v))) ∧ h = []) (V.g (T.sc (Value.bool false))) L := fun e L => by
    rw [decide_eq_false e]; exact Ends.ground (H := []) (L := L) 0 rfl ⟨rfl, rfl⟩
  (try conv => whnf); repeat ((first | fail); conv => whnf)
  refine Br.dec (fun e1 => ?_) (fun e1 => ?_)
  · (try conv => whnf); repeat ((first | fail); conv => whnf)
    exact ⟨no (fun q => by have := q.1; omega) _⟩
  (try conv => whnf); repeat ((first | fail); conv => whnf)
  refine Br.dec (fun e2 => ?_) (fun e2 => ?_)
  · (try conv => whnf); repeat ((first | fail); conv => whnf)
    exact ⟨no (fun q => by have := q.2.1; omega) _⟩
  (try conv => whnf); repeat ((first | fail); conv => whnf)
  refine SW.loopR (α := Nat) (fun i => tm 41 [(0, segs l), (1, livs v), (5, .g (.i i))]) (fun _ => []) (fun i => i ≤ l.length ∧ ∀ s ∈ l.take i, fewS s) (fun i => l.length - i) 0 ?_ ?_ ?_
  · exact ⟨Nat.zero_le _, by simp⟩
  · exact Refi.sub rfl (by simp [subT, subV, tm, tmGo])
  rintro i ⟨hi, hf⟩
  dsimp only at hi hf ⊢
  (try conv => whnf); repeat ((first | fail); conv => whnf)
  refine Br.dec (fun e3 => ?_) (fun e3 => ?_)
  · have hi' : i < l.length := by omega
    have cf := c_law08_FewSeg l[i] (hp _ (List.getElem_mem hi'))
    (try conv => whnf); repeat ((first | refine (cf).go rfl ?_ | refine ⟨_, getZ (by omega), ?_⟩ | refine ⟨by omega, rfl, ?_⟩); conv => whnf)
    refine Br.not (fun e4 => ?_) (fun e4 => ?_)
    · (try conv => whnf); repeat ((first | fail); conv => whnf)
      exact ⟨no (fun q => of_decide_eq_false e4 (q.2.2.1 _ (List.getElem_mem hi'))) _⟩
    · (try conv => whnf); repeat ((first | refine ⟨in64 (by omega) (by omega), ?_⟩); conv => whnf)
      refine ⟨⟨i + 1, ⟨hi', fun x hx => ?_⟩, by omega, Refi.sub rfl (by simp [subT, subV, tm, tmGo])⟩⟩
      rw [List.take_succ_eq_append_getElem hi', List.mem_append, List.mem_singleton] at hx
      rcases hx with hx | rfl
      · exact hf x hx
      · exact of_decide_eq_true e4
  · have : i = l.length := by omega
    subst this
    rw [List.take_length] at hf
    (try conv => whnf); repeat ((first | fail); conv => whnf)
    refine SW.loopR (α := Nat) (fun i => tm 41 [(1, livs v), (7, .g (.i i))]) (fun _ => []) (fun i => i ≤ v.length ∧ ∀ x ∈ v.take i, x.length ≤ 70) (fun i => v.length - i) 0 ?_ ?_ ?_
    · exact ⟨Nat.zero_le _, by simp⟩
    · exact Refi.sub rfl (by simp [subT, subV, tm, tmGo])
    rintro i ⟨hi2, hg⟩
    dsimp only at hi2 hg ⊢
    (try conv => whnf); repeat ((first | fail); conv => whnf)
    refine Br.dec (fun e5 => ?_) (fun e5 => ?_)
    · have hi' : i < v.length := by omega
      have hmv : (v[i].map T.b).length = v[i].length := by simp
      (try conv => whnf); repeat ((first | refine ⟨_, getZ (by omega), ?_⟩ | refine ⟨by omega, rfl, ?_⟩); conv => whnf)
      refine Br.dec (fun e6 => ?_) (fun e6 => ?_)
      · (try conv => whnf); repeat ((first | fail); conv => whnf)
        exact ⟨no (fun q => by have := q.2.2.2 _ (List.getElem_mem hi'); omega) _⟩
      · (try conv => whnf); repeat ((first | refine ⟨in64 (by omega) (by omega), ?_⟩); conv => whnf)
        refine ⟨⟨i + 1, ⟨hi', fun x hx => ?_⟩, by omega, Refi.sub rfl (by simp [subT, subV, tm, tmGo])⟩⟩
        rw [List.take_succ_eq_append_getElem hi', List.mem_append, List.mem_singleton] at hx
        rcases hx with hx | rfl
        · exact hg x hx
        · omega
    · have : i = v.length := by omega
      subst this
      rw [List.take_length] at hg
      (try conv => whnf); repeat ((first | fail); conv => whnf)
      rw [decide_eq_true (show few11 l v from ⟨by omega, by omega, hf, hg⟩)]
      exact ⟨Ends.ground (H := []) (L := []) 0 rfl ⟨rfl, rfl⟩⟩
theorem few_bndM {l : List Sg} {v : List (List Bool)} (h : few11 l v) : bndM l v := by
  obtain ⟨h1, h2, h3, h4⟩ := h
  refine ⟨by omega, by omega, fun s hs => ?_, fun x hx => by have := h4 x hx; omega⟩
  obtain ⟨f1, f2, f3, f4, f5, f6⟩ := h3 s hs
  refine ⟨by omega, by omega, by omega, by omega, fun x hx => ?_⟩
  have := (f6 x hx).1
  simp only [fewP, Bool.and_eq_true, decide_eq_true_eq, List.all_eq_true] at this
  exact ⟨by omega, fun p hp => by have := this.2 p hp; omega⟩
theorem c_law11_Tables (a b : List (List Int)) (ha : a.length < 1000000000) (hr : ∀ x ∈ a, x.length < 1000000000) : CG Tryz.prog 23 [ttabs a, ttabs b] (.b (decide (a = b))) := by
  refine ⟨k_law11_Tables.calls ?_⟩
  have hma : (a.map tints).length = a.length := by simp
  have hmb : (b.map tints).length = b.length := by simp
  have no : ¬ a = b → ∀ L, Ends [] (fun r h => r = V.g (T.b (decide (a = b))) ∧ h = []) (V.g (T.sc (Value.bool false))) L := fun e L => by
    rw [decide_eq_false e]; exact Ends.ground (H := []) (L := L) 0 rfl ⟨rfl, rfl⟩
  (try conv => whnf); repeat ((first | fail); conv => whnf)
  refine Br.ne (fun e1 => ?_) (fun e1 => ?_)
  · (try conv => whnf); repeat ((first | fail); conv => whnf)
    exact ⟨no (fun q => by subst q; omega) _⟩
  have e1' : a.length = b.length := by omega
  (try conv => whnf); repeat ((first | fail); conv => whnf)
  refine SW.loopR (α := Nat) (fun i => tm 29 [(0, .g (ttabs a)), (1, .g (ttabs b)), (5, .g (.i i))]) (fun _ => []) (fun i => i ≤ a.length ∧ a.take i = b.take i) (fun i => a.length - i) 0 ?_ ?_ ?_
  · exact ⟨Nat.zero_le _, by simp⟩
  · exact Refi.sub rfl (by simp [subT, subV, tm, tmGo])
  rintro i ⟨hi, hf⟩
  dsimp only at hi hf ⊢
  (try conv => whnf); repeat ((first | fail); conv => whnf)
  refine Br.dec (fun e3 => ?_) (fun e3 => ?_)
  · have hi' : i < a.length := by omega
    have hib : i < b.length := by omega
    have cf := c_ref01_Ints a[i] b[i] (by have := hr _ (List.getElem_mem hi'); omega)
    (try conv => whnf); repeat ((first | refine (cf).go rfl ?_ | refine ⟨_, getZ (by omega), ?_⟩ | refine ⟨by omega, rfl, ?_⟩); conv => whnf)
    refine Br.not (fun e4 => ?_) (fun e4 => ?_)
    · (try conv => whnf); repeat ((first | fail); conv => whnf)
      exact ⟨no (fun q => of_decide_eq_false e4 (by simp only [q])) _⟩
    · (try conv => whnf); repeat ((first | refine ⟨in64 (by omega) (by omega), ?_⟩); conv => whnf)
      refine ⟨⟨i + 1, ⟨hi', ?_⟩, by omega, Refi.sub rfl (by simp [subT, subV, tm, tmGo])⟩⟩
      rw [List.take_succ_eq_append_getElem hi', List.take_succ_eq_append_getElem hib, hf, of_decide_eq_true e4]
  · have : i = a.length := by omega
    subst this
    rw [List.take_length, e1', List.take_length] at hf
    (try conv => whnf); repeat ((first | fail); conv => whnf)
    rw [decide_eq_true hf]
    exact ⟨Ends.ground (H := []) (L := []) 0 rfl ⟨rfl, rfl⟩⟩
end Go.Aw
namespace Go.Aw
open Go.Proofs Go.Sort
set_option maxRecDepth 100000
set_option maxHeartbeats 1000000

/- ALL ALIVE, OF NONE TOO -/
/- THE CHAPTER'S EXAMPLE -/
def exA : List Cd := [⟨⟨#[120]⟩, 0, [⟨#[97]⟩]⟩, ⟨⟨#[121]⟩, 1, [⟨#[98]⟩, ⟨#[97]⟩]⟩]
def exB : List Cd := [⟨⟨#[122]⟩, 0, [⟨#[97]⟩]⟩]
def exSA : Sg := (buildS exA false).1
def exSB : Sg := (buildS exB false).1
def exL : List (List Bool) := [[false, true], [true]]
def exM : Sg × List (List Int) × Int := mergeS [exSA, exSB] exL false
theorem exA_few : few8 exA := by decide
theorem exB_few : few8 exB := by decide
theorem exA_ok : (buildS exA false).2 = 0 := by decide +kernel
theorem exB_ok : (buildS exB false).2 = 0 := by decide +kernel
theorem exSA_few : fewS exSA := by decide +kernel
theorem exSB_few : fewS exSB := by decide +kernel
theorem exM_ok : exM.2.2 = 0 := by decide +kernel
theorem exM_ids : exM.1.ids = [⟨#[121]⟩, ⟨#[122]⟩] := by decide +kernel
theorem exM_a : hasS exM.1 ⟨#[97]⟩ = [(0, [1]), (1, [0])] := by decide +kernel
theorem exM_t : exM.2.1 = [[-1, 0], [1]] := by decide +kernel
theorem exM_few : fewS exM.1 := by decide +kernel
theorem exM_left : (leftS [exSA, exSB] exL).length = 2 := by decide +kernel
theorem c_law11_awake : CG Tryz.prog 8 [] (.b true) := by
  refine ⟨k_law11_awake.calls ?_⟩
  have b1 := c_seg_Build exA false (few_bnd exA_few)
  have b2 := c_seg_Build exB false (few_bnd exB_few)
  rw [exA_ok] at b1
  rw [exB_ok] at b2
  have hfew : few11 [exSA, exSB] exL := ⟨by decide, by decide, fun s hs => by simp at hs; rcases hs with rfl | rfl; exact exSA_few; exact exSB_few, by decide⟩
  have hfm : few11 [exM.1] [] := ⟨by decide, by decide, fun s hs => by simp at hs; subst hs; exact exM_few, by decide⟩
  have hbm := (few_bndM hfm).2.2.1 exM.1 (by simp)
  have hb := few_bndM hfew
  have m1 := c_merge_Merge [exSA, exSB] exL false hb
  rw [show mergeS [exSA, exSB] exL false = exM from rfl, exM_ok, exM_t] at m1
  have l1 := c_merge_Left [exSA, exSB] exL hb
  have h1 := c_seg_Has exM.1 ⟨#[97]⟩ hbm.2.2.2 hbm.1
  rw [exM_a] at h1
  have s1 := c_ref06_Same [(0, [1]), (1, [0])] [(0, [1]), (1, [0])] (by decide) (by decide)
  rw [decide_eq_true rfl] at s1
  have t1 := c_ref05_Texts exM.1.ids [⟨#[121]⟩, ⟨#[122]⟩] (by rw [exM_ids]; decide)
  rw [exM_ids, decide_eq_true rfl] at t1
  have w1 := c_law11_Tables [[-1, 0], [1]] [[-1, 0], [1]] (by decide) (by decide)
  rw [decide_eq_true rfl] at w1
  have e2 : exM.1.ids.map T.s = [.s ⟨#[121]⟩, .s ⟨#[122]⟩] := by rw [exM_ids]; rfl
  have hl : ((leftS [exSA, exSB] exL).map tcard).length = 2 := by rw [List.length_map]; exact exM_left
  (try conv => whnf); repeat ((first | refine (b1).go rfl ?_ | refine (b2).go rfl ?_ | refine (m1).go rfl ?_ | refine (l1).go rfl ?_ | refine (h1).go rfl ?_ | refine (s1).go rfl ?_ | refine (t1).go rfl ?_ | refine (w1).go rfl ?_ | refine And.intro (show cellsAll _ _ from by repeat (first | exact trivial | refine ⟨⟨rfl, rfl⟩, ?_⟩)) ?_ | refine ⟨rfl, _, rfl, ⟨rfl, rfl, by decide⟩, ?_⟩ | refine ⟨rfl, _, rfl, ?_⟩ | refine ⟨rfl, ?_⟩); conv => whnf)
  rw [hl]
  exact ⟨Ends.ground (H := []) (L := [_, _, _]) 0 rfl ⟨rfl, rfl⟩⟩
end Go.Aw
namespace Go.Aw
open Go.Proofs Go.Sort
set_option maxRecDepth 100000
set_option maxHeartbeats 1000000

/- MERGE, SEEN FROM THE CARDS -/
def lcS (s : Sg) (x : List Bool) : List Cd := (liveD x x.length).map fun d => (cardsS s).getD d noCd
def leftZ (l : List Sg) (v : List (List Bool)) : List Cd := (l.zip v).flatMap fun p => lcS p.1 p.2
def mS (o : List Cd) (b : Bool) : Sg × Int := if ¬ (o.map (·.id)).Nodup then (noSg, 1) else if 64 < o.length then (noSg, 8) else if 200 < (wlS (o.flatMap (·.w))).length then (noSg, 8) else (segOf (ordO o b) b, 0)
theorem leftC_Z {l : List Sg} {v : List (List Bool)} (h : l.length = v.length) : leftC l v = leftZ l v := by
  have e : leftC l v = (List.range v.length).flatMap fun i => lcS (l.getD i noSg) (v.getD i []) := by
    rw [leftC, leftP, leftN, List.map_flatMap]
    simp only [List.map_map]
    rfl
  rw [e, leftZ]
  have : l.zip v = (List.range v.length).map fun i => (l.getD i noSg, v.getD i []) := by
    refine List.ext_getElem (by simp [h]) fun i h1 h2 => ?_
    have hi : i < v.length := by simpa using h2
    have hi2 : i < l.length := by omega
    simp [hi, hi2]
  rw [this, List.flatMap_map]
theorem rightP_iff {l : List Sg} {v : List (List Bool)} : rightP l v ↔ l.length = v.length ∧ ∀ p ∈ l.zip v, SgP p.1 ∧ p.2.length = p.1.ids.length := by
  constructor
  · rintro ⟨h1, h2⟩
    refine ⟨h1, fun p hp => ?_⟩
    obtain ⟨i, hi, rfl⟩ := List.getElem_of_mem hp
    have hi1 : i < l.length := by simp at hi; omega
    have hi2 : i < v.length := by simp at hi; omega
    have := h2 i hi1
    rw [getD_at _ hi1, getD_at _ hi2] at this
    simpa using this
  · rintro ⟨h1, h2⟩
    refine ⟨h1, fun i hi => ?_⟩
    have hi2 : i < v.length := by omega
    rw [getD_at _ hi, getD_at _ hi2]
    exact h2 (l[i], v[i]) (List.mem_iff_getElem.2 ⟨i, by simp; omega, by simp⟩)
theorem ordL_O {l : List Sg} {v : List (List Bool)} (hr : rightP l v) (hn : ((leftP v).map (idP l)).Nodup) {b : Bool} : ordL l v b = ordO (leftC l v) b := by
  cases b with
  | false => rw [ordL, permL_false, ordO, if_neg (by simp)]; rfl
  | true =>
    rw [ordO, if_pos rfl]
    refine srt_ext (r := fun a b => befC a b = true) (fun a b h k => by rw [befC_asymm h] at k; cases k) (ordL_bef hr hn) (inC_bef (by rw [leftC_ids hr]; exact hn)) fun x => ?_
    rw [inC_mem, ordL_perm.mem_iff]
theorem wl_perm {a b : List ByteArray} (h : ∀ x, x ∈ a ↔ x ∈ b) : wlS a = wlS b :=
  srt_ext (fun _ _ => ltB_asy) (wl_srt _) (wl_srt _) fun x => by rw [wl_mem, wl_mem, h]
theorem mem_w {o o' : List Cd} (h : ∀ c, c ∈ o ↔ c ∈ o') (x : ByteArray) : x ∈ o.flatMap (·.w) ↔ x ∈ o'.flatMap (·.w) := by
  simp only [List.mem_flatMap, h]
theorem merge_no {l : List Sg} {v : List (List Bool)} {b : Bool} (h : ¬ rightP l v) : mergeS l v b = (noSg, [], 1) := by rw [mergeS, if_pos fun q => h q.1]
theorem merge_mS {l : List Sg} {v : List (List Bool)} {b : Bool} (hr : rightP l v) : (mergeS l v b).1 = (mS (leftZ l v) b).1 ∧ (mergeS l v b).2.2 = (mS (leftZ l v) b).2 := by
  have hz := leftC_Z hr.1
  have hids := leftC_ids hr
  have hlen : (leftC l v).length = manyN v := by rw [leftC, List.length_map, leftP_len]
  rw [← hz, mergeS, mS, hids]
  by_cases hn : ((leftP v).map (idP l)).Nodup
  · have a1 : ¬ ¬ (rightP l v ∧ ((leftP v).map (idP l)).Nodup) := fun q => q ⟨hr, hn⟩
    have a2 : ¬ ¬ ((leftP v).map (idP l)).Nodup := fun q => q hn
    rw [if_neg a1, if_neg a2, hlen, ordL_O hr hn]
    have hw : wlS ((ordO (leftC l v) b).flatMap (·.w)) = wlS ((leftC l v).flatMap (·.w)) := wl_perm (mem_w fun c => ordO_perm.mem_iff)
    rw [hw]
    split
    · exact ⟨rfl, rfl⟩
    · split
      · exact ⟨rfl, rfl⟩
      · exact ⟨rfl, rfl⟩
  · rw [if_pos fun q => hn q.2, if_pos hn]
    exact ⟨rfl, rfl⟩
theorem mS_ok {o : List Cd} {b : Bool} (h : (mS o b).2 = 0) : (o.map (·.id)).Nodup ∧ o.length ≤ 64 ∧ (wlS (o.flatMap (·.w))).length ≤ 200 ∧ mS o b = (segOf (ordO o b) b, 0) := by
  unfold mS at h ⊢
  split at h
  · cases h
  · rename_i h1
    split at h
    · cases h
    · split at h
      · cases h
      · rw [if_neg h1, if_neg ‹_›, if_neg ‹_›]
        exact ⟨Classical.not_not.1 h1, by omega, by omega, rfl⟩
theorem lc_may {s : Sg} (h : SgP s) {x : List Bool} (hx : x.length = s.ids.length) : ∀ c ∈ lcS s x, mayC c = true := fun c hc => by
  obtain ⟨d, hd, rfl⟩ := List.mem_map.1 hc
  rw [liveD, List.mem_filter] at hd
  have hr : rightP [s] [x] := rightP_iff.2 ⟨rfl, fun p hp => by simp at hp; subst hp; exact ⟨h, hx⟩⟩
  have := cdP_fit (l := [s]) (v := [x]) hr (p := (0, d)) (mem_left.2 ⟨by simp, by simpa using hd.1, hd.2⟩)
  exact this
theorem left_may {l : List Sg} {v : List (List Bool)} (hr : rightP l v) : ∀ c ∈ leftZ l v, mayC c = true := fun c hc => by
  obtain ⟨p, hp, hc⟩ := List.mem_flatMap.1 hc
  obtain ⟨h1, h2⟩ := (rightP_iff.1 hr).2 p hp
  exact lc_may h1 h2 c hc
theorem mS_may {o : List Cd} {b : Bool} (h : (mS o b).2 = 0) (hm : ∀ c ∈ o, mayC c = true) : SgP (mS o b).1 ∧ cardsS (mS o b).1 = ordO o b := by
  obtain ⟨h1, h2, h3, h4⟩ := mS_ok h
  have hp := ordO_perm (l := o) (b := b)
  rw [h4]
  have hs : SgP (segOf (ordO o b) b) := by
    refine seg_may_ok (fun c hc => hm c (hp.mem_iff.1 hc)) ((hp.map _).nodup_iff.2 h1) (by rw [hp.length_eq]; exact h2) ?_ fun hb => ?_
    · rw [wl_perm (mem_w fun c => hp.mem_iff)]; exact h3
    · subst hb
      rw [ordO, if_pos rfl]; exact inC_bef h1
  exact ⟨hs, cards_back hs⟩
/-- a segment that is all alive, as sorted as it is to be -/
theorem cards_ids {s : Sg} (h : SgP s) : (cardsS s).map (·.id) = s.ids := by have := congrArg Sg.ids (seg_canon h); exact this
end Go.Aw
namespace Go.Aw
open Go.Proofs Go.Sort
set_option maxRecDepth 100000
set_option maxHeartbeats 1000000

theorem CV.gc {P : Program} {f : Nat} {ts : List T} {v : V} (c : CV P f ts v) : GC P f (ts.map V.g) v :=
  ⟨c.ok, fun i a h => by
    rw [List.getElem?_map] at h
    obtain ⟨x, _, rfl⟩ := Option.map_eq_some_iff.1 h
    exact .g, c.lt⟩
theorem merge_tab {l : List Sg} {v : List (List Bool)} {b : Bool} (h : (mergeS l v b).2.2 = 0) : rightP l v ∧ ((leftP v).map (idP l)).Nodup ∧ manyN v ≤ 64 ∧ mergeS l v b = (segOf (ordL l v b) b, tabsS l v b, 0) := by
  unfold mergeS at h ⊢
  by_cases h1 : ¬ (rightP l v ∧ ((leftP v).map (idP l)).Nodup)
  · rw [if_pos h1] at h; cases h
  · have h2 := Classical.not_not.1 h1
    rw [if_neg h1] at h ⊢
    by_cases h3 : 64 < manyN v
    · rw [if_pos h3] at h; cases h
    · rw [if_neg h3] at h ⊢
      by_cases h4 : 200 < (wlS ((ordL l v b).flatMap (·.w))).length
      · rw [if_pos h4] at h; cases h
      · rw [if_neg h4]
        exact ⟨h2.1, h2.2, by omega, rfl⟩
/- WHAT A LAW IS GIVEN -/
abbrev TyTm : Ty := .fc .s (.fc (.sl 2 (.fc (.i .i64) (.fc (.sl 1 (.i .i64)) .fn))) .fn)
abbrev TySg : Ty := .fc (.sl 1 .s) (.fc (.sl 1 (.i .i64)) (.fc (.sl 1 (.i .i64)) (.fc (.sl 2 TyTm) (.fc .b .fn))))
theorem tv_term {t : T} (h : TV TyTm t) : ∃ x : Tm, t = tterm x ∧ x.p.length ≤ maxLen := by
  obtain ⟨cs, h1, rfl⟩ := h
  obtain ⟨_, _, rfl, ⟨n1, rfl, hs⟩, _, _, rfl, h3, rfl⟩ := h1
  obtain ⟨es, rfl, hl, he⟩ := h3
  obtain ⟨xs, e, hx⟩ := tv_posts (t := .sl 2 es) ⟨[.sl 2 es], ⟨es, rfl, hl, he⟩, rfl⟩
  refine ⟨⟨n1, xs⟩, ?_, hx⟩
  show T.ag [.s n1, .sl 2 es] = _
  rw [e]; rfl
theorem tv_terms {t : T} (h : TV (.sl 2 TyTm) t) : ∃ l : List Tm, t = tterms l ∧ l.length ≤ maxLen ∧ ∀ x ∈ l, x.p.length ≤ maxLen := by
  obtain ⟨cs, ⟨es, rfl, hl, he⟩, rfl⟩ := h
  have : ∃ l : List Tm, es = l.map tterm ∧ ∀ x ∈ l, x.p.length ≤ maxLen := by
    clear hl
    induction es with
    | nil => exact ⟨[], rfl, by simp⟩
    | cons e es ih =>
      obtain ⟨xs, rfl, hxs⟩ := ih fun x hx => he x (by simp [hx])
      obtain ⟨ys, h1, h2⟩ := he e (by simp)
      obtain ⟨c, h3, h4⟩ := tv_term ⟨ys, h1, h2⟩
      subst h3
      exact ⟨c :: xs, rfl, by simpa using ⟨h4, hxs⟩⟩
  obtain ⟨l, rfl, hx⟩ := this
  exact ⟨l, rfl, by simpa using hl, hx⟩
theorem tv_seg {t : T} (h : TV TySg t) : ∃ s : Sg, t = tseg s ∧ ∀ x ∈ s.terms, x.p.length ≤ maxLen := by
  obtain ⟨cs, h1, rfl⟩ := h
  obtain ⟨_, _, rfl, ⟨e1, rfl, l1, q1⟩, _, _, rfl, ⟨e2, rfl, l2, q2⟩, _, _, rfl, ⟨e3, rfl, l3, q3⟩, _, _, rfl, ⟨e4, rfl, l4, q4⟩, _, _, rfl, ⟨b, rfl⟩, rfl⟩ := h1
  obtain ⟨x1, w1, _⟩ := tv_strs (t := .sl 1 e1) ⟨[.sl 1 e1], ⟨e1, rfl, l1, q1⟩, rfl⟩
  obtain ⟨x2, w2, _⟩ := tv_ints (t := .sl 1 e2) ⟨[.sl 1 e2], ⟨e2, rfl, l2, q2⟩, rfl⟩
  obtain ⟨x3, w3, _⟩ := tv_ints (t := .sl 1 e3) ⟨[.sl 1 e3], ⟨e3, rfl, l3, q3⟩, rfl⟩
  obtain ⟨x4, w4, _, hx⟩ := tv_terms (t := .sl 2 e4) ⟨[.sl 2 e4], ⟨e4, rfl, l4, q4⟩, rfl⟩
  refine ⟨⟨x1, x2, x3, x4, b⟩, ?_, hx⟩
  show T.ag [.sl 1 e1, .sl 1 e2, .sl 1 e3, .sl 2 e4, .b b] = _
  rw [w1, w2, w3, w4]; rfl
theorem tv_segs {t : T} (h : TV (.sl 5 TySg) t) : ∃ l : List Sg, t = tsegs l ∧ l.length ≤ maxLen ∧ ∀ s ∈ l, ∀ x ∈ s.terms, x.p.length ≤ maxLen := by
  obtain ⟨cs, ⟨es, rfl, hl, he⟩, rfl⟩ := h
  have : ∃ l : List Sg, es = l.map tseg ∧ ∀ s ∈ l, ∀ x ∈ s.terms, x.p.length ≤ maxLen := by
    clear hl
    induction es with
    | nil => exact ⟨[], rfl, by simp⟩
    | cons e es ih =>
      obtain ⟨xs, rfl, hxs⟩ := ih fun x hx => he x (by simp [hx])
      obtain ⟨ys, h1, h2⟩ := he e (by simp)
      obtain ⟨c, h3, h4⟩ := tv_seg ⟨ys, h1, h2⟩
      subst h3
      refine ⟨c :: xs, rfl, fun s hs => ?_⟩
      rcases List.mem_cons.1 hs with rfl | hs
      · exact h4
      · exact hxs s hs
  obtain ⟨l, rfl, hx⟩ := this
  exact ⟨l, rfl, by simpa using hl, hx⟩
theorem tv_live {t : T} (h : TV (.sl 1 (.sl 1 .b)) t) : ∃ v : List (List Bool), t = tlive v ∧ v.length ≤ maxLen := by
  obtain ⟨cs, ⟨es, rfl, hl, he⟩, rfl⟩ := h
  have : ∃ v : List (List Bool), es = v.map tbools := by
    clear hl
    induction es with
    | nil => exact ⟨[], rfl⟩
    | cons e es ih =>
      obtain ⟨xs, rfl⟩ := ih fun x hx => he x (by simp [hx])
      obtain ⟨ys, h1, h2⟩ := he e (by simp)
      obtain ⟨c, h3, _⟩ := tv_bools ⟨ys, h1, h2⟩
      subst h3
      exact ⟨c :: xs, rfl⟩
  obtain ⟨v, rfl⟩ := this
  exact ⟨v, rfl, by simpa using hl⟩
theorem mS_bnd {l : List Sg} {v : List (List Bool)} {b : Bool} (hr : rightP l v) (_hb : bndM l v) : bndS (mergeS l v b).1 := by
  obtain ⟨m1, m2⟩ := merge_mS (b := b) hr
  rw [m1]
  have hz : bndS noSg := by refine ⟨by decide, by decide, by decide, by decide, fun x hx => by cases hx⟩
  by_cases h : (mS (leftZ l v) b).2 = 0
  · obtain ⟨h1, h2⟩ := mS_may h (left_may hr)
    have h3 := h1.tms
    refine ⟨by have := h1.1; omega, by have := h1.1; have := h1.2.1; omega, by have := h1.1; have := h1.2.2.1; omega, by have := h3.len; omega, fun x hx => ?_⟩
    obtain ⟨_, q⟩ := h3.ok x hx
    exact ⟨by have := q.len; omega, fun p hp => by have := q.le p hp; omega⟩
  · have : (mS (leftZ l v) b).1 = noSg := by
      unfold mS at h ⊢
      split
      · rfl
      · split
        · rfl
        · split
          · rfl
          · rename_i h1 h2 h3
            rw [if_neg h1, if_neg h2, if_neg h3] at h
            exact absurd rfl h
    rw [this]; exact hz
theorem merge_bnd {l : List Sg} {v : List (List Bool)} {b : Bool} (hb : bndM l v) : bndS (mergeS l v b).1 := by
  by_cases hr : rightP l v
  · exact mS_bnd hr hb
  · rw [merge_no hr]; refine ⟨by decide, by decide, by decide, by decide, fun x hx => by cases hx⟩
end Go.Aw
