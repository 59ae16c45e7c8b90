/- Contracts of functions of the given program, by the abstract walk, for law MergeTwice: what each one hands back; no condition but those that each theorem states. -/
import Derived.Test.YthcihkgopmmolaaGreatC22
namespace Go.Aw
open Go.Proofs Go.Sort
set_option maxRecDepth 100000
set_option maxHeartbeats 1000000

/- SOME MERGED, AND THEN WITH ANOTHER ONE -/
theorem right_split {l : List Sg} {v : List (List Bool)} (hr : rightP l v) (n : Nat) : rightP (l.take n) (v.take n) ∧ rightP (l.drop n) (v.drop n) ∧ leftZ l v = leftZ (l.take n) (v.take n) ++ leftZ (l.drop n) (v.drop n) := by
  obtain ⟨h1, h2⟩ := rightP_iff.1 hr
  have hl : (l.take n).length = (v.take n).length := by simp [h1]
  have hd : (l.drop n).length = (v.drop n).length := by simp [h1]
  have e : (l.take n).zip (v.take n) ++ (l.drop n).zip (v.drop n) = l.zip v := by
    rw [← List.zip_append hl, List.take_append_drop, List.take_append_drop]
  refine ⟨rightP_iff.2 ⟨hl, fun p hp => h2 p (by rw [← e]; exact List.mem_append_left _ hp)⟩, rightP_iff.2 ⟨hd, fun p hp => h2 p (by rw [← e]; exact List.mem_append_right _ hp)⟩, ?_⟩
  rw [leftZ, ← e, List.flatMap_append]; rfl
theorem merge_right {l : List Sg} {v : List (List Bool)} {b : Bool} (h : (mergeS l v b).2.2 = 0) : rightP l v := by
  by_cases hr : rightP l v
  · exact hr
  · rw [merge_no hr] at h; cases h
theorem twice_no {l : List Sg} {v : List (List Bool)} {b : Bool} {n : Nat} (h : (mergeS l v b).2.2 = 0) : (mergeS (l.take n) (v.take n) b).2.2 = 0 := by
  have hr := merge_right h
  obtain ⟨r1, r2, r3⟩ := right_split hr n
  rw [(merge_mS hr).2, r3] at h
  rw [(merge_mS r1).2]
  exact mS_pre h
theorem twice_ok {l : List Sg} {v : List (List Bool)} {b : Bool} {n : Nat} (h : (mergeS l v b).2.2 = 0) {a : Sg} (ha : (mergeS (l.take n) (v.take n) b).1 = a) :
    SgP a ∧ (mergeS (a :: l.drop n) (List.replicate a.ids.length true :: v.drop n) b).1 = (mergeS l v b).1 ∧ (mergeS (a :: l.drop n) (List.replicate a.ids.length true :: v.drop n) b).2.2 = 0 := by
  have h1 := twice_no (n := n) h
  have hr := merge_right h
  obtain ⟨r1, r2, r3⟩ := right_split hr n
  obtain ⟨m1, m2⟩ := merge_mS (b := b) r1
  rw [m2] at h1
  obtain ⟨k1, k2⟩ := mS_may h1 (left_may r1)
  rw [← m1, ha] at k1 k2
  have hra : rightP (a :: l.drop n) (List.replicate a.ids.length true :: v.drop n) := by
    obtain ⟨q1, q2⟩ := rightP_iff.1 r2
    refine rightP_iff.2 ⟨by rw [List.length_cons, List.length_cons, q1], fun p hp => ?_⟩
    rw [List.zip_cons_cons, List.mem_cons] at hp
    rcases hp with rfl | hp
    · exact ⟨k1, by simp⟩
    · exact q2 p hp
  obtain ⟨m3, m4⟩ := merge_mS (b := b) hra
  obtain ⟨m5, m6⟩ := merge_mS (b := b) hr
  have e : mS (leftZ (a :: l.drop n) (List.replicate a.ids.length true :: v.drop n)) b = mS (leftZ l v) b := by
    rw [leftZ_cons, lcS_all k1, k2, r3]; exact ordO_idem
  exact ⟨k1, by rw [m3, m5, e], by rw [m4, e, ← m6]; exact h⟩
/-- arguments out of own blocks, given for good -/
theorem CV.giv2 {P : Program} {f : Nat} {ts : List T} {v : V} (c : CV P f ts v) (n d : Nat) {H : List Blk} (hm : noMp H) {args : List V} (ha : optL (args.map (gr n H d)) = some ts) {K : V → List Blk → Prop} (k : K v (killH n H)) : ACalls P f args H K := by
  have h1 : ACalls P f (ts.map .g) (killH n H) K := c.go (by rw [List.map_map]; exact optL_map_some _) k
  have hts := optL_some ha
  have hl : args.length = ts.length := by simpa using congrArg List.length hts
  refine ⟨h1.1, fun γ I w vs r hlen hv => ?_⟩
  obtain ⟨r2, x2⟩ := kill_ok r hm n
  refine (h1.2 _ _ w vs r2 (by simp; omega) fun i v hi => ?_).mono fun e w' ⟨r1, x, H', γ', I', h1, h2, h3, h4, h5⟩ => ⟨r1, x, H', γ', I', h1, h2, h3, h4, x2.trans h5⟩
  rw [List.getElem?_map] at hi
  cases ht : ts[i]? with
  | none => rw [ht] at hi; cases hi
  | some y =>
    rw [ht] at hi; simp at hi; subst hi
    have h2 := congrArg (·[i]?) hts
    simp only [List.getElem?_map, ht, Option.map_some] at h2
    cases he : args[i]? with
    | none => rw [he] at h2; simp at h2
    | some e =>
      rw [he] at h2; simp at h2
      exact .g (gr_sound r (fun k hk => .inl hk) (fun b k g sz es h1 h2 h3 => .inr ⟨b, g, sz, es, h1, h2, h3⟩) d e y _ h2 (hv i e he))
theorem c_law11_MergeTwice : ∀ ys, TVs [.sl 5 TySg, .sl 1 (.sl 1 .b), .b, .i .i64] ys → CG Tryz.prog 6 ys (.b true) := by
  intro ys hy
  obtain ⟨y0, ys, rfl, h0, hy⟩ := tvs_cons hy
  obtain ⟨y1, ys, rfl, h1, hy⟩ := tvs_cons hy
  obtain ⟨y2, ys, rfl, h2, hy⟩ := tvs_cons hy
  obtain ⟨y3, ys, rfl, h3, hy⟩ := tvs_cons hy
  cases tvs_nil hy
  obtain ⟨l, rfl, _, ha⟩ := tv_segs h0
  obtain ⟨v, rfl, _⟩ := tv_live h1
  obtain ⟨b, rfl⟩ := tv_bool h2
  obtain ⟨n, rfl, _⟩ := tv_int h3
  refine ⟨k_law11_MergeTwice.calls ?_⟩
  have hma : (l.map tseg).length = l.length := by simp
  have hmb : (v.map tbools).length = v.length := by simp
  have up := c_law11_awake
  have f1 := c_law11_Few l v (fun s hs z hz => by have := ha s hs z hz; unfold maxLen at this; omega)
  have fin : ∀ L : List Blk, Ends [] (fun r h => r = V.g (T.b true) ∧ h = []) (V.g (T.b true)) L := fun L => Ends.ground (H := []) (L := L) 0 rfl ⟨rfl, rfl⟩
  (try conv => whnf); repeat ((first | refine (up).go rfl ?_ | refine (f1).go rfl ?_); conv => whnf)
  refine Br.not (fun e1 => ?_) (fun e1 => ?_)
  · (try conv => whnf); repeat ((first | fail); conv => whnf)
    exact ⟨fin _⟩
  have w1 := of_decide_eq_true e1
  (try conv => whnf); repeat ((first | fail); conv => whnf)
  refine Br.dec (fun e2 => ?_) (fun e2 => ?_)
  · (try conv => whnf); repeat ((first | fail); conv => whnf)
    exact ⟨fin _⟩
  (try conv => whnf); repeat ((first | fail); conv => whnf)
  refine Br.dec (fun e3 => ?_) (fun e3 => ?_)
  · (try conv => whnf); repeat ((first | fail); conv => whnf)
    exact ⟨fin _⟩
  (try conv => whnf); repeat ((first | fail); conv => whnf)
  refine Br.ne (fun e4 => ?_) (fun e4 => ?_)
  · (try conv => whnf); repeat ((first | fail); conv => whnf)
    exact ⟨fin _⟩
  obtain ⟨m, rfl⟩ : ∃ m : Nat, n = m := ⟨n.toNat, by omega⟩
  have hlv : l.length = v.length := by omega
  have hml : m ≤ l.length := by omega
  have wl := w1.1
  have wv := w1.2.1
  have w2 : few11 (l.take m) (v.take m) := ⟨by simp; omega, by simp; omega, fun s hs => w1.2.2.1 s (List.mem_of_mem_take hs), fun x hx => w1.2.2.2 x (List.mem_of_mem_take hx)⟩
  have hm1 := few_bndM w1
  have hm2 := few_bndM w2
  have c1 := c_merge_Merge l v b hm1
  have c2 := c_merge_Merge (l.take m) (v.take m) b hm2
  have no := twice_no (l := l) (v := v) (b := b) (n := m)
  have yes := fun h => twice_ok (l := l) (v := v) (b := b) (n := m) h (a := (mergeS (l.take m) (v.take m) b).1) rfl
  have hba := merge_bnd (b := b) hm2
  have hbs := merge_bnd (b := b) hm1
  generalize (mergeS (l.take m) (v.take m) b).1 = a at c2 yes hba
  generalize (mergeS (l.take m) (v.take m) b).2.2 = f at c2 no
  have ht1 : T.sl 5 (List.take m (l.map tseg)) = tsegs (l.take m) := by rw [tsegs, List.map_take]
  have ht2 : T.sl 1 (List.take m (v.map tbools)) = tlive (v.take m) := by rw [tlive, List.map_take]
  by_cases hee : (mergeS l v b).2.2 = 0
  case neg =>
    generalize mergeS l v b = ms at c1 hee
    have hne : (ms.2.2 != 0) = true := by simpa using hee
    (try conv => whnf); repeat ((first | refine ⟨_, c2.gc, ?_⟩ | refine (c1).go rfl ?_ | refine ⟨rfl, _, rfl, ⟨rfl, rfl, by decide⟩, ?_⟩ | refine ⟨rfl, ⟨by omega, by omega, by omega⟩, ?_⟩ | refine ⟨rfl, ?_⟩ | rw [← List.map_drop, ← List.map_take]); conv => whnf)
    rw [hne]
    (try conv => whnf); repeat ((first | fail); conv => whnf)
    rw [hne]
    exact ⟨fin _⟩
  have hf0 := no hee
  subst hf0
  obtain ⟨ya, y1, y2⟩ := yes hee
  rw [hee] at c1
  have h64 := ya.1
  have hmi : (a.ids.map T.s).length = a.ids.length := by simp
  have cn : CG Tryz.prog 18 [.i (a.ids.map T.s).length] (tbools (List.replicate a.ids.length true)) := by rw [hmi]; exact c_live_NewZ a.ids.length h64
  have hb3 : bndM (a :: l.drop m) (List.replicate a.ids.length true :: v.drop m) := by
    obtain ⟨_, _, b3, b4⟩ := hm1
    refine ⟨by simp; omega, by simp; omega, fun s hs => ?_, fun x hx => ?_⟩
    · rcases List.mem_cons.1 hs with rfl | hs
      · exact hba
      · exact b3 s (List.mem_of_mem_drop hs)
    · rcases List.mem_cons.1 hx with rfl | hx
      · simp; omega
      · exact b4 x (List.mem_of_mem_drop hx)
  have c3 := c_merge_Merge (a :: l.drop m) (List.replicate a.ids.length true :: v.drop m) b hb3
  rw [y1, y2] at c3
  have sm := c_seg_Same (mergeS l v b).1 (mergeS l v b).1 hbs
  rw [decide_eq_true rfl] at sm
  generalize (mergeS l v b).1 = s at c1 c3 sm
  generalize (mergeS l v b).2.1 = tt at c1
  generalize (mergeS (a :: l.drop m) (List.replicate a.ids.length true :: v.drop m) b).2.1 = t3 at c3
  (try conv => whnf); repeat ((first | refine ⟨_, c2.gc, ?_⟩ | refine ⟨by simp; omega, ⟨rfl, rfl, rfl⟩, _, ⟨[], (List.append_nil _).symm⟩, rfl, ?_⟩ | refine (c1).go rfl ?_ | refine (cn).go rfl ?_ | refine And.intro (show cellsAll _ _ from by repeat (first | exact trivial | refine ⟨⟨rfl, rfl⟩, ?_⟩)) ?_ | refine ⟨rfl, _, rfl, ⟨rfl, rfl, by decide⟩, ?_⟩ | refine ⟨rfl, ⟨by omega, by omega, by omega⟩, ?_⟩ | refine ⟨⟨rfl, rfl⟩, ?_⟩ | refine ⟨rfl, ?_⟩ | refine ⟨_, rfl, ?_⟩ | rw [← List.map_drop, ← List.map_take]); conv => whnf)
  have k1 : List.map V.g (List.map tseg (List.take ((((l.map tseg).length : Nat) : Int).toNat - ((m : Nat) : Int).toNat) (List.drop ((m : Nat) : Int).toNat l))) = (l.drop m).map fun s => V.g (tseg s) := by
    rw [List.map_map, Int.toNat_natCast, Int.toNat_natCast, List.length_map, List.take_of_length_le (by simp)]; rfl
  have k2 : List.map V.g (List.map tbools (List.take ((((v.map tbools).length : Nat) : Int).toNat - ((m : Nat) : Int).toNat) (List.drop ((m : Nat) : Int).toNat v))) = (v.drop m).map fun x => V.g (tbools x) := by
    rw [List.map_map, Int.toNat_natCast, Int.toNat_natCast, List.length_map, List.take_of_length_le (by simp)]; rfl
  rw [k1, k2]
  refine CV.giv2 c3 2 2 (noMp_cons (noMp_cons (noMp_cons (noMp_cons noMp_nil)))) ?_ ?_
  · show optL [gr 2 _ 2 (.own 2 1 0 _), gr 2 _ 2 (.own 3 1 0 _), gr 2 _ 2 (.g (.b b))] = _
    rw [gr_own (f := fun s => V.g (tseg s)) (e := tseg) (l := a :: l.drop m) rfl (by omega) (by simp; omega) (fun _ _ => gr_g), gr_own (f := fun x => V.g (tbools x)) (e := tbools) (l := List.replicate a.ids.length true :: v.drop m) rfl (by omega) (by simp; omega) (fun _ _ => gr_g), gr_g]
    rfl
  · (try conv => whnf); repeat ((first | refine (sm).go rfl ?_ | refine ⟨rfl, _, rfl, ⟨rfl, rfl, by decide⟩, ?_⟩ | refine ⟨rfl, _, rfl, ?_⟩ | refine ⟨rfl, ?_⟩); conv => whnf)
    exact ⟨Ends.ground (H := []) (L := [_, _, _, _, _]) 0 rfl ⟨rfl, rfl⟩⟩
end Go.Aw
