/- Contracts of functions of the given program, by the abstract walk, for law PhraseLess: what each one hands back; no condition but those that each theorem states. -/
import Derived.Test.YtbodcpinpomobaaC4
namespace Go.Aw
open Go.Proofs
set_option maxRecDepth 100000

theorem live_all {l : List Po} (h : mayP l = true) : aliveL l (List.replicate 64 true) = l := by
  rw [aliveL, if_pos h, List.filter_eq_self]
  intro p hp
  have hb := mayP_doc h p hp
  have h1 : p.1.toNat < 64 := by omega
  rw [liveQ, decide_eq_true (by simp; omega), Bool.true_and, List.getElem?_replicate, if_pos h1]; rfl

theorem c_law17_PhraseAlive : ∀ ys, TVs [.sl 2 (.fc (.i .i64) (.fc (.sl 1 (.i .i64)) .fn)), .sl 1 .b, .i .i64] ys → CG Try.prog 7 ys (.b true) := by
  intro ys hy
  obtain ⟨y0, ys, rfl, h0, hy⟩ := tvs_cons hy
  obtain ⟨y1, ys, rfl, h1, hy⟩ := tvs_cons hy
  obtain ⟨y2, ys, rfl, h2, hy⟩ := tvs_cons hy
  cases tvs_nil hy
  obtain ⟨l, rfl, hl0⟩ := tv_posts h0
  obtain ⟨lives, rfl, hv0⟩ := tv_bools h1
  obtain ⟨doc, rfl, hdoc⟩ := tv_int h2
  unfold maxLen at hl0 hv0
  refine ⟨k_law17_PhraseAlive.calls ?_⟩
  have hmb : (lives.map T.b).length = lives.length := by simp
  have f1 := c_Few l (by omega)
  conv => whnf
  cases hv1 : fewP l <;> rw [hv1] at f1
  · repeat ((first | refine (c_law17_awake).go rfl ?_ | refine (f1).go rfl ?_ | refine And.intro (show cellsAll _ _ from by repeat (first | exact trivial | refine ⟨⟨rfl, rfl⟩, ?_⟩)) ?_); conv => whnf)
    exact ⟨Ends.keep ⟨rfl, rfl⟩⟩
  · obtain ⟨p1, p2⟩ := fewP_ok hv1
    have hp : ∀ p ∈ l, p.2.length < 1000000000 := fun p hp => by have := p2 p hp; omega
    repeat ((first | refine (c_law17_awake).go rfl ?_ | refine (f1).go rfl ?_ | refine And.intro (show cellsAll _ _ from by repeat (first | exact trivial | refine ⟨⟨rfl, rfl⟩, ?_⟩)) ?_); conv => whnf)
    refine Br.dec (fun h => ?_) (fun h => ?_)
    · conv => whnf
      exact ⟨Ends.keep ⟨rfl, rfl⟩⟩
    · conv => whnf
      have g1 := c_post_May l (by omega) hp
      cases hmay : mayP l <;> rw [hmay] at g1
      · repeat ((first | refine (g1).go rfl ?_ | refine And.intro (show cellsAll _ _ from by repeat (first | exact trivial | refine ⟨⟨rfl, rfl⟩, ?_⟩)) ?_); conv => whnf)
        exact ⟨Ends.keep ⟨rfl, rfl⟩⟩
      · have hal : aliveL l lives = l.filter (liveQ lives) := by rw [aliveL, if_pos hmay]
        have a1 := c_phrase_Alive l lives (by omega) (by omega) hp
        have a2 := c_live_New 64 (by omega) (by omega)
        have a3 := c_phrase_Alive l (List.replicate 64 true) (by omega) (by simp) hp
        rw [live_all hmay] at a3
        have a4 := same_true (a := l) (b := l) (by omega) hp rfl
        have hsub : (l.filter (liveQ lives)).Sublist l := List.filter_sublist
        rw [hal] at a1
        generalize hm : l.filter (liveQ lives) = m at a1 hsub
        have hmm := mayP_sub hmay hsub
        have hml := hsub.length_le
        have hmp : ∀ p ∈ m, p.2.length < 1000000000 := fun p h => hp p (hsub.subset h)
        have b1 := c_post_Find l doc (by omega) hp
        have b2 := c_post_Find m doc (by omega) hmp
        have g2 := c_post_May m (by omega) hmp
        rw [hmm] at g2
        rcases find_cases doc hmm with ⟨k, hk, e2, hkd⟩ | ⟨e2, hno⟩
        · have hkl : m[k] ∈ l := hsub.subset (List.getElem_mem _)
          have hq : liveQ lives m[k] = true := by
            have : m[k] ∈ l.filter (liveQ lives) := by rw [hm]; exact List.getElem_mem _
            exact (List.mem_filter.1 this).2
          rcases find_cases doc hmay with ⟨i, hi, e1, hid⟩ | ⟨e1, hno⟩
          · rw [e1] at b1; rw [e2] at b2
            have hb := mayP_doc hmay _ (List.getElem_mem hi)
            repeat ((first | refine (g1).go rfl ?_ | refine (a1).go rfl ?_ | refine (a2).go rfl ?_ | refine (a3).go rfl ?_ | refine (a4).go rfl ?_ | refine (b1).go rfl ?_ | refine (b2).go rfl ?_ | refine And.intro (show cellsAll _ _ from by repeat (first | exact trivial | refine ⟨⟨rfl, rfl⟩, ?_⟩)) ?_); conv => whnf)
            have hqd : doc < lives.length ∧ lives[doc.toNat]?.getD false = true := by
              rw [liveQ, Bool.and_eq_true, decide_eq_true_eq, hkd] at hq; exact hq
            refine Br.dec (fun h3 => absurd h3 (by simp; omega)) (fun h3 => ?_)
            conv => whnf
            refine Br.dec (fun h4 => absurd h4 (by omega)) (fun h4 => ?_)
            conv => whnf
            refine Br.dec (fun h5 => absurd h5 (by simp; omega)) (fun h5 => ?_)
            conv => whnf
            refine ⟨by simp; omega, rfl, ?_⟩
            conv => whnf
            refine ⟨_, getI (by omega) (by omega), ?_⟩
            conv => whnf
            have hld : lives[doc.toNat]'(by omega) = true := by
              have := hqd.2
              rwa [List.getElem?_eq_getElem (by omega)] at this
            rw [hld]
            conv => whnf
            refine Br.dec (fun h6 => absurd h6 (by simp; omega)) (fun h6 => ?_)
            conv => whnf
            have hmk : m[k] = l[i] := by
              obtain ⟨j, hj, e⟩ := List.getElem_of_mem hkl
              have := doc_inj hmay hi hj (by rw [e, hid, hkd])
              subst this; exact e.symm
            refine ⟨in64 (by omega) (by omega), ?_⟩
            conv => whnf
            refine ⟨rfl, ⟨by omega, by omega, by simp; omega⟩, ?_⟩
            refine ⟨in64 (by omega) (by omega), ?_⟩
            conv => whnf
            refine ⟨rfl, ⟨by omega, by omega, by simp; omega⟩, ?_⟩
            conv => whnf
            have s1 := same_true (a := [m[k]]) (b := [l[i]]) (by simp) (fun p hp' => hmp p (by simp at hp'; subst hp'; exact List.getElem_mem _)) (by rw [hmk])
            have eM : (((m.map tpost).drop (k : Int).toNat).take (((k : Int) + 1).toNat - (k : Int).toNat)) = [tpost m[k]] := by
              rw [show (k : Int).toNat = k from by omega, show ((k : Int) + 1).toNat - k = 1 from by omega, List.drop_eq_getElem_cons (by simpa using hk)]; simp
            have eL : (((l.map tpost).drop (i : Int).toNat).take (((i : Int) + 1).toNat - (i : Int).toNat)) = [tpost l[i]] := by
              rw [show (i : Int).toNat = i from by omega, show ((i : Int) + 1).toNat - i = 1 from by omega, List.drop_eq_getElem_cons (by simpa using hi)]; simp
            rw [eM, eL]
            repeat ((first | refine (s1).go rfl ?_ | refine (g2).go rfl ?_ | refine And.intro (show cellsAll _ _ from by repeat (first | exact trivial | refine ⟨⟨rfl, rfl⟩, ?_⟩)) ?_); conv => whnf)
            exact ⟨Ends.keep ⟨rfl, rfl⟩⟩
          · exact absurd hkd (hno _ hkl)
        · have hle : (((m.map tpost).length : Nat) : Int) ≤ ((l.map tpost).length : Nat) := by simp; omega
          rcases find_cases doc hmay with ⟨i, hi, e1, hid⟩ | ⟨e1, hnl⟩
          · rw [e1] at b1; rw [e2] at b2
            have hb := mayP_doc hmay _ (List.getElem_mem hi)
            have hq : liveQ lives l[i] = false := by
              cases hq : liveQ lives l[i] with
              | false => rfl
              | true => exact absurd hid (hno _ (by rw [← hm]; exact List.mem_filter.2 ⟨List.getElem_mem _, hq⟩))
            repeat ((first | refine (g1).go rfl ?_ | refine (a1).go rfl ?_ | refine (a2).go rfl ?_ | refine (a3).go rfl ?_ | refine (a4).go rfl ?_ | refine (b1).go rfl ?_ | refine (b2).go rfl ?_ | refine And.intro (show cellsAll _ _ from by repeat (first | exact trivial | refine ⟨⟨rfl, rfl⟩, ?_⟩)) ?_); conv => whnf)
            refine Br.dec (fun h3 => absurd h3 (by simp; omega)) (fun h3 => ?_)
            conv => whnf
            refine Br.dec (fun h4 => absurd h4 (by omega)) (fun h4 => ?_)
            conv => whnf
            refine Br.dec (fun h5 => ?_) (fun h5 => ?_)
            · conv => whnf
              rw [decide_eq_true hle]
              exact ⟨Ends.keep ⟨rfl, rfl⟩⟩
            · conv => whnf
              have h5' : doc < lives.length := by simp at h5; omega
              refine ⟨by simp; omega, rfl, ?_⟩
              conv => whnf
              refine ⟨_, getI (by omega) (by omega), ?_⟩
              conv => whnf
              have hld : lives[doc.toNat]'(by omega) = false := by
                rw [liveQ, hid, decide_eq_true h5', Bool.true_and, List.getElem?_eq_getElem (by omega)] at hq
                exact hq
              rw [hld]
              conv => whnf
              rw [decide_eq_true hle]
              exact ⟨Ends.keep ⟨rfl, rfl⟩⟩
          · rw [e1] at b1; rw [e2] at b2
            repeat ((first | refine (g1).go rfl ?_ | refine (a1).go rfl ?_ | refine (a2).go rfl ?_ | refine (a3).go rfl ?_ | refine (a4).go rfl ?_ | refine (b1).go rfl ?_ | refine (b2).go rfl ?_ | refine And.intro (show cellsAll _ _ from by repeat (first | exact trivial | refine ⟨⟨rfl, rfl⟩, ?_⟩)) ?_); conv => whnf)
            rw [decide_eq_true hle]
            exact ⟨Ends.keep ⟨rfl, rfl⟩⟩
end Go.Aw
namespace Go.Aw
open Go.Proofs
set_option maxRecDepth 100000
set_option maxHeartbeats 4000000

theorem stands_mem {n : List Po} {d x : Int} : standsL n d x = true ↔ ∃ p ∈ n, p.1 = d ∧ x ∈ p.2 := by
  simp [standsL, List.any_eq_true]
theorem stands_at {n : List Po} (h : mayP n = true) {i : Nat} (hi : i < n.length) {x : Int} : standsL n n[i].1 x = decide (x ∈ n[i].2) := by
  rw [Bool.eq_iff_iff, stands_mem, decide_eq_true_eq]
  constructor
  · rintro ⟨p, hp, h1, h2⟩
    obtain ⟨j, hj, rfl⟩ := List.getElem_of_mem hp
    have := doc_inj h hj hi h1
    subst this; exact h2
  · intro h2; exact ⟨_, List.getElem_mem hi, rfl, h2⟩
theorem stands_none {n : List Po} {d x : Int} (h : ∀ p ∈ n, p.1 ≠ d) : standsL n d x = false := by
  rw [← Bool.not_eq_true, stands_mem]
  rintro ⟨p, hp, h1, _⟩; exact h p hp h1
theorem mem_refNear {l : List (List Po)} {p : Po} (h : p ∈ refNear l) : ∃ D : Nat, D < 64 ∧ p = ((D : Int), refAt l D 120) ∧ refAt l D 120 ≠ [] ∧ l.all mayP = true ∧ l ≠ [] := by
  unfold refNear at h; split at h
  · rename_i hc
    obtain ⟨d, hd0, hd⟩ := List.mem_filterMap.1 h
    unfold refF at hd
    split at hd
    · cases hd
    · rename_i hne; cases hd; exact ⟨d, List.mem_range.1 hd0, rfl, hne, hc⟩
  · simp at h
theorem near_may (l : List (List Po)) : mayP (refNear l) = true := by
  rw [mayP_iff]
  refine ⟨fun p hp => ?_, near_len, ?_, fun x hx => ?_⟩
  · obtain ⟨D, _, rfl, hne, _⟩ := mem_refNear hp
    have h1 : risE 120 (-1) (refAt l D 120) = true := risE_iff.2 ⟨refAt_rises, fun x hx => by obtain ⟨p, h1, _, rfl⟩ := mem_refAt.1 hx; omega⟩
    have h2 := refAt_len (l := l) (d := D) (n := 120)
    have h3 := List.length_pos_iff.2 hne
    simp [okP, h1]; omega
  · unfold refNear; split
    · show List.Pairwise _ (List.map _ _)
      rw [List.pairwise_map, List.pairwise_filterMap]
      refine List.Pairwise.imp ?_ List.pairwise_lt_range
      intro a b hab p hp q hq
      unfold refF at hp hq
      split at hp
      · cases hp
      · split at hq
        · cases hq
        · cases hp; cases hq; show (a : Int) < b; omega
    · exact .nil
  · obtain ⟨p, hp, rfl⟩ := List.mem_map.1 hx
    obtain ⟨D, hD, rfl, _⟩ := mem_refNear hp
    dsimp only; omega
theorem near_stands {l : List (List Po)} (hn : l ≠ []) (hall : l.all mayP = true) {d x : Int} : standsL (refNear l) d x = true ↔ ∀ (k : Nat) (h : k < l.length), standsL l[k] d (x + k) = true := by
  constructor
  · intro h
    obtain ⟨p, hp, rfl, hx⟩ := stands_mem.1 h
    obtain ⟨D, _, rfl, _⟩ := mem_refNear hp
    obtain ⟨P, _, h2, rfl⟩ := mem_refAt.1 hx
    exact refA_iff.1 h2
  · intro h
    have h0 : 0 < l.length := List.length_pos_iff.2 hn
    have hm0 := List.all_eq_true.1 hall _ (List.getElem_mem h0)
    obtain ⟨p, hp, hd, hx⟩ := stands_mem.1 (h 0 h0)
    have b1 := mayP_doc hm0 p hp
    have b2 := (risE_ge (mayP_ok hm0 p hp).2.2).2 _ hx
    obtain ⟨D, hD⟩ : ∃ D : Nat, d = D := ⟨d.toNat, by omega⟩
    obtain ⟨X, hX⟩ : ∃ X : Nat, x = X := ⟨x.toNat, by omega⟩
    subst hD hX
    have hmem : (X : Int) ∈ refAt l D 120 := mem_refAt.2 ⟨X, by omega, refA_iff.2 h, rfl⟩
    refine stands_mem.2 ⟨((D : Int), refAt l D 120), ?_, rfl, hmem⟩
    rw [refNear, if_pos ⟨hall, hn⟩]
    refine List.mem_filterMap.2 ⟨D, List.mem_range.2 (by omega), ?_⟩
    rw [refF, if_neg (fun e => by rw [e] at hmem; simp at hmem)]
theorem po_ext {a b : List Po} (ha : mayP a = true) (hb : mayP b = true) (h : ∀ d x, standsL a d x = true ↔ standsL b d x = true) : a = b := by
  have key : ∀ {a b : List Po}, mayP a = true → (∀ d x, standsL a d x = true → standsL b d x = true) → ∀ d, d ∈ docsL a → d ∈ docsL b := by
    intro a b ha h d hd
    obtain ⟨p, hp, rfl⟩ := List.mem_map.1 hd
    obtain ⟨x, hx⟩ := List.exists_mem_of_length_pos (mayP_ok ha p hp).1
    obtain ⟨q, hq, h1, _⟩ := stands_mem.1 (h _ _ (stands_mem.2 ⟨p, hp, rfl, hx⟩))
    exact h1 ▸ List.mem_map_of_mem hq
  have hd : docsL a = docsL b := rises_ext (mayP_iff.1 ha).2.2.1 (mayP_iff.1 hb).2.2.1 fun d =>
    ⟨key ha (fun d x => (h d x).1) d, key hb (fun d x => (h d x).2) d⟩
  have hl : a.length = b.length := by have := congrArg List.length hd; rwa [docs_len, docs_len] at this
  refine List.ext_getElem hl fun i hi hj => ?_
  have h1 : a[i].1 = b[i].1 := by
    have e1 : (docsL a)[i]? = some a[i].1 := by
      show (a.map (·.1))[i]? = _
      rw [List.getElem?_map, List.getElem?_eq_getElem hi]; rfl
    have e2 : (docsL b)[i]? = some b[i].1 := by
      show (b.map (·.1))[i]? = _
      rw [List.getElem?_map, List.getElem?_eq_getElem hj]; rfl
    rw [hd, e2] at e1; exact (Option.some.inj e1).symm
  refine Prod.ext h1 (rises_ext (risE_iff.1 (mayP_ok ha _ (List.getElem_mem hi)).2.2).1 (risE_iff.1 (mayP_ok hb _ (List.getElem_mem hj)).2.2).1 fun x => ?_)
  have e1 := stands_at ha hi (x := x)
  have e2 := stands_at hb hj (x := x)
  have e3 := h a[i].1 x
  rw [e1, h1, e2] at e3
  simpa using e3
theorem near_one {l : List Po} (h : mayP l = true) : refNear [l] = l := by
  refine po_ext (near_may _) h fun d x => ?_
  rw [near_stands (by simp) (by simp [h])]
  constructor
  · intro h; simpa using h 0 (by simp)
  · intro h k hk
    have : k = 0 := by simp at hk; omega
    subst this; simpa using h
theorem near_two {l : List Po} (h : mayP l = true) {d x : Int} : standsL (refNear [l, l]) d x = true ↔ standsL l d x = true ∧ standsL l d (x + 1) = true := by
  rw [near_stands (by simp) (by simp [h])]
  constructor
  · intro h; exact ⟨by simpa using h 0 (by simp), by simpa using h 1 (by simp)⟩
  · rintro ⟨h1, h2⟩ k hk
    have : k = 0 ∨ k = 1 := by simp at hk; omega
    rcases this with rfl | rfl
    · simpa using h1
    · simpa using h2

theorem near_no : refNear [] = [] := by rw [refNear, if_neg (by simp)]

theorem c_Near (l : List (List Po)) (hl : l.length < 1000000) (hs : ∀ one ∈ l, one.length < 1000000000) (hp : ∀ one ∈ l, ∀ p ∈ one, p.2.length < 1000000000) :
    CG Try.prog 17 [.sl 1 (l.map tposts)] (tposts (refNear l)) := by
  have := c_phrase_Near l hl hs hp
  rwa [near_ref] at this

/-- what Find and Has tell of a posting -/
theorem find_has {n : List Po} {d : Int} (h : mayP n = true) : (∃ (i : Nat) (hi : i < n.length), findP n d = i ∧ ∀ x, standsL n d x = decide (x ∈ n[i].2)) ∨ (findP n d = -1 ∧ ∀ x, standsL n d x = false) := by
  rcases find_cases d h with ⟨i, hi, e, hd⟩ | ⟨e, hno⟩
  · subst hd; exact .inl ⟨i, hi, e, fun x => stands_at h hi⟩
  · exact .inr ⟨e, fun x => stands_none hno⟩
theorem stands_range {n : List Po} (h : mayP n = true) {d x : Int} (hs : standsL n d x = true) : 0 ≤ x ∧ x < 120 := by
  obtain ⟨p, hp, _, hx⟩ := stands_mem.1 hs
  have := (risE_ge (mayP_ok h p hp).2.2).2 _ hx
  omega

theorem c_law17_PhraseOne : ∀ ys, TVs [.sl 2 (.fc (.i .i64) (.fc (.sl 1 (.i .i64)) .fn)), .i .i64, .i .i64] ys → CG Try.prog 5 ys (.b true) := by
  intro ys hy
  obtain ⟨y0, ys, rfl, h0, hy⟩ := tvs_cons hy
  obtain ⟨y1, ys, rfl, h1, hy⟩ := tvs_cons hy
  obtain ⟨y2, ys, rfl, h2, hy⟩ := tvs_cons hy
  cases tvs_nil hy
  obtain ⟨l, rfl, hl0⟩ := tv_posts h0
  obtain ⟨doc, rfl, hdoc⟩ := tv_int h1
  obtain ⟨at', rfl, hat⟩ := tv_int h2
  unfold maxLen at hl0
  refine ⟨k_law17_PhraseOne.calls ?_⟩
  have f1 := c_Few l (by omega)
  conv => whnf
  cases hv1 : fewP l <;> rw [hv1] at f1
  · repeat ((first | refine (c_law17_awake).go rfl ?_ | refine (f1).go rfl ?_ | refine And.intro (show cellsAll _ _ from by repeat (first | exact trivial | refine ⟨⟨rfl, rfl⟩, ?_⟩)) ?_); conv => whnf)
    exact ⟨Ends.keep ⟨rfl, rfl⟩⟩
  · obtain ⟨p1, p2⟩ := fewP_ok hv1
    have hp : ∀ p ∈ l, p.2.length < 1000000000 := fun p hp => by have := p2 p hp; omega
    have g1 := c_post_May l (by omega) hp
    cases hmay : mayP l <;> rw [hmay] at g1
    · repeat ((first | refine (c_law17_awake).go rfl ?_ | refine (f1).go rfl ?_ | refine (g1).go rfl ?_ | refine And.intro (show cellsAll _ _ from by repeat (first | exact trivial | refine ⟨⟨rfl, rfl⟩, ?_⟩)) ?_); conv => whnf)
      exact ⟨Ends.keep ⟨rfl, rfl⟩⟩
    · have a1 := c_Near [l] (by simp) (by simp; omega) (by simpa using hp)
      rw [near_one hmay] at a1
      have a2 := same_true (a := l) (b := l) (by omega) hp rfl
      have a3 := c_Near [l, l] (by simp) (by simp; omega) (by simpa using hp)
      have a4 := c_Near [] (by simp) (by simp) (by simp)
      rw [near_no] at a4
      have hst := fun x => near_two hmay (d := doc) (x := x)
      have hnl := near_len (l := [l, l])
      have hna := fun p => near_ats (l := [l, l]) (p := p)
      have hnm := near_may [l, l]
      generalize refNear [l, l] = n at a3 hst hnl hna hnm
      have hnp : ∀ p ∈ n, p.2.length < 1000000000 := fun p hp => by have := hna p hp; omega
      have b1 := c_post_Find l doc (by omega) hp
      have b2 := c_post_Find n doc (by omega) hnp
      have hm : (l.map tpost).length = l.length := by simp
      have hmn : (n.map tpost).length = n.length := by simp
      rcases find_has (d := doc) hnm with ⟨k, hk, e2, hk2⟩ | ⟨e2, hk2⟩
      · rw [e2] at b2
        have x3 := c_ref16_Has n[k].2 at' (by have := hnp _ (List.getElem_mem hk); omega)
        rw [← hk2] at x3
        rcases find_has (d := doc) hmay with ⟨i, hi, e1, hi2⟩ | ⟨e1, hi2⟩
        · rw [e1] at b1
          have x1 := c_ref16_Has l[i].2 at' (by have := hp _ (List.getElem_mem hi); omega)
          have x2 := c_ref16_Has l[i].2 (at' + 1) (by have := hp _ (List.getElem_mem hi); omega)
          rw [← hi2] at x1 x2
          have hs1 := hst at'
          have hr := stands_range hmay (d := doc) (x := at')
          by_cases g0 : 0 ≤ at'
          · by_cases g1' : at' < 120
            · cases hv1 : standsL l doc at' <;> cases hv2 : standsL l doc (at' + 1) <;> cases hv3 : standsL n doc at' <;> rw [hv1] at x1 hs1 <;> rw [hv2] at x2 hs1 <;> rw [hv3] at x3 hs1 <;> simp at hs1 <;>
                repeat ((first | refine (c_law17_awake).go rfl ?_ | refine (f1).go rfl ?_ | refine (g1).go rfl ?_ | refine (a1).go rfl ?_ | refine (a2).go rfl ?_ | refine (a3).go rfl ?_ | refine (b1).go rfl ?_ | refine (b2).go rfl ?_ | refine (x1).go rfl ?_ | refine (x2).go rfl ?_ | refine (x3).go rfl ?_ | refine (a4).go rfl ?_ | refine And.intro (show cellsAll _ _ from by repeat (first | exact trivial | refine ⟨⟨rfl, rfl⟩, ?_⟩)) ?_ | refine ⟨_, getZ (by omega), ?_⟩ | refine ⟨_, getI (by omega) (by omega), ?_⟩ | refine ⟨by omega, rfl, ?_⟩ | refine ⟨by (simp; omega), rfl, ?_⟩ | refine ⟨rfl, _, rfl, ⟨rfl, rfl, by decide⟩, ?_⟩ | refine ⟨rfl, _, rfl, ?_⟩ | refine ⟨rfl, ?_⟩ | refine ⟨in64 (by omega) (by omega), ?_⟩ | refine Br.dec (fun _ => ?_) (fun hh => absurd (by omega) hh) | refine Br.dec (fun hh => absurd hh (by omega)) (fun _ => ?_) | refine Br.eq (fun _ => ?_) (fun hh => absurd (by omega) hh) | refine Br.eq (fun hh => absurd hh (by omega)) (fun _ => ?_) | refine Br.ne (fun _ => ?_) (fun hh => absurd (by omega) hh) | refine Br.ne (fun hh => absurd hh (by omega)) (fun _ => ?_)); conv => whnf)
              all_goals exact ⟨Ends.keep ⟨rfl, rfl⟩⟩
            · have hv3 : standsL n doc at' = false := by
                rw [← Bool.not_eq_true, hs1]; rintro ⟨h, _⟩; have := hr h; omega
              rw [hv3] at x3
              repeat ((first | refine (c_law17_awake).go rfl ?_ | refine (f1).go rfl ?_ | refine (g1).go rfl ?_ | refine (a1).go rfl ?_ | refine (a2).go rfl ?_ | refine (a3).go rfl ?_ | refine (b1).go rfl ?_ | refine (b2).go rfl ?_ | refine (x1).go rfl ?_ | refine (x2).go rfl ?_ | refine (x3).go rfl ?_ | refine (a4).go rfl ?_ | refine And.intro (show cellsAll _ _ from by repeat (first | exact trivial | refine ⟨⟨rfl, rfl⟩, ?_⟩)) ?_ | refine ⟨_, getZ (by omega), ?_⟩ | refine ⟨_, getI (by omega) (by omega), ?_⟩ | refine ⟨by omega, rfl, ?_⟩ | refine ⟨by (simp; omega), rfl, ?_⟩ | refine ⟨rfl, _, rfl, ⟨rfl, rfl, by decide⟩, ?_⟩ | refine ⟨rfl, _, rfl, ?_⟩ | refine ⟨rfl, ?_⟩ | refine ⟨in64 (by omega) (by omega), ?_⟩ | refine Br.dec (fun _ => ?_) (fun hh => absurd (by omega) hh) | refine Br.dec (fun hh => absurd hh (by omega)) (fun _ => ?_) | refine Br.eq (fun _ => ?_) (fun hh => absurd (by omega) hh) | refine Br.eq (fun hh => absurd hh (by omega)) (fun _ => ?_) | refine Br.ne (fun _ => ?_) (fun hh => absurd (by omega) hh) | refine Br.ne (fun hh => absurd hh (by omega)) (fun _ => ?_)); conv => whnf)
              exact ⟨Ends.keep ⟨rfl, rfl⟩⟩
          · repeat ((first | refine (c_law17_awake).go rfl ?_ | refine (f1).go rfl ?_ | refine (g1).go rfl ?_ | refine (a1).go rfl ?_ | refine (a2).go rfl ?_ | refine (a3).go rfl ?_ | refine (b1).go rfl ?_ | refine (b2).go rfl ?_ | refine (x1).go rfl ?_ | refine (x2).go rfl ?_ | refine (x3).go rfl ?_ | refine (a4).go rfl ?_ | refine And.intro (show cellsAll _ _ from by repeat (first | exact trivial | refine ⟨⟨rfl, rfl⟩, ?_⟩)) ?_ | refine ⟨_, getZ (by omega), ?_⟩ | refine ⟨_, getI (by omega) (by omega), ?_⟩ | refine ⟨by omega, rfl, ?_⟩ | refine ⟨by (simp; omega), rfl, ?_⟩ | refine ⟨rfl, _, rfl, ⟨rfl, rfl, by decide⟩, ?_⟩ | refine ⟨rfl, _, rfl, ?_⟩ | refine ⟨rfl, ?_⟩ | refine ⟨in64 (by omega) (by omega), ?_⟩ | refine Br.dec (fun _ => ?_) (fun hh => absurd (by omega) hh) | refine Br.dec (fun hh => absurd hh (by omega)) (fun _ => ?_) | refine Br.eq (fun _ => ?_) (fun hh => absurd (by omega) hh) | refine Br.eq (fun hh => absurd hh (by omega)) (fun _ => ?_) | refine Br.ne (fun _ => ?_) (fun hh => absurd (by omega) hh) | refine Br.ne (fun hh => absurd hh (by omega)) (fun _ => ?_)); conv => whnf)
            exact ⟨Ends.keep ⟨rfl, rfl⟩⟩
        · rw [e1] at b1
          have hv3 : standsL n doc at' = false := by
            rw [← Bool.not_eq_true, hst, hi2]; simp
          rw [hv3] at x3
          by_cases g0 : 0 ≤ at'
          · repeat ((first | refine (c_law17_awake).go rfl ?_ | refine (f1).go rfl ?_ | refine (g1).go rfl ?_ | refine (a1).go rfl ?_ | refine (a2).go rfl ?_ | refine (a3).go rfl ?_ | refine (b1).go rfl ?_ | refine (b2).go rfl ?_ | refine (x3).go rfl ?_ | refine (a4).go rfl ?_ | refine And.intro (show cellsAll _ _ from by repeat (first | exact trivial | refine ⟨⟨rfl, rfl⟩, ?_⟩)) ?_ | refine ⟨_, getZ (by omega), ?_⟩ | refine ⟨_, getI (by omega) (by omega), ?_⟩ | refine ⟨by omega, rfl, ?_⟩ | refine ⟨by (simp; omega), rfl, ?_⟩ | refine ⟨rfl, _, rfl, ⟨rfl, rfl, by decide⟩, ?_⟩ | refine ⟨rfl, _, rfl, ?_⟩ | refine ⟨rfl, ?_⟩ | refine ⟨in64 (by omega) (by omega), ?_⟩ | refine Br.dec (fun _ => ?_) (fun hh => absurd (by omega) hh) | refine Br.dec (fun hh => absurd hh (by omega)) (fun _ => ?_) | refine Br.eq (fun _ => ?_) (fun hh => absurd (by omega) hh) | refine Br.eq (fun hh => absurd hh (by omega)) (fun _ => ?_) | refine Br.ne (fun _ => ?_) (fun hh => absurd (by omega) hh) | refine Br.ne (fun hh => absurd hh (by omega)) (fun _ => ?_)); conv => whnf)
            exact ⟨Ends.keep ⟨rfl, rfl⟩⟩
          · repeat ((first | refine (c_law17_awake).go rfl ?_ | refine (f1).go rfl ?_ | refine (g1).go rfl ?_ | refine (a1).go rfl ?_ | refine (a2).go rfl ?_ | refine (a3).go rfl ?_ | refine (b1).go rfl ?_ | refine (b2).go rfl ?_ | refine (x3).go rfl ?_ | refine (a4).go rfl ?_ | refine And.intro (show cellsAll _ _ from by repeat (first | exact trivial | refine ⟨⟨rfl, rfl⟩, ?_⟩)) ?_ | refine ⟨_, getZ (by omega), ?_⟩ | refine ⟨_, getI (by omega) (by omega), ?_⟩ | refine ⟨by omega, rfl, ?_⟩ | refine ⟨by (simp; omega), rfl, ?_⟩ | refine ⟨rfl, _, rfl, ⟨rfl, rfl, by decide⟩, ?_⟩ | refine ⟨rfl, _, rfl, ?_⟩ | refine ⟨rfl, ?_⟩ | refine ⟨in64 (by omega) (by omega), ?_⟩ | refine Br.dec (fun _ => ?_) (fun hh => absurd (by omega) hh) | refine Br.dec (fun hh => absurd hh (by omega)) (fun _ => ?_) | refine Br.eq (fun _ => ?_) (fun hh => absurd (by omega) hh) | refine Br.eq (fun hh => absurd hh (by omega)) (fun _ => ?_) | refine Br.ne (fun _ => ?_) (fun hh => absurd (by omega) hh) | refine Br.ne (fun hh => absurd hh (by omega)) (fun _ => ?_)); conv => whnf)
            exact ⟨Ends.keep ⟨rfl, rfl⟩⟩
      · rw [e2] at b2
        rcases find_has (d := doc) hmay with ⟨i, hi, e1, hi2⟩ | ⟨e1, hi2⟩
        · rw [e1] at b1
          have x1 := c_ref16_Has l[i].2 at' (by have := hp _ (List.getElem_mem hi); omega)
          have x2 := c_ref16_Has l[i].2 (at' + 1) (by have := hp _ (List.getElem_mem hi); omega)
          rw [← hi2] at x1 x2
          have hs1 := hst at'
          rw [hk2] at hs1
          by_cases g0 : 0 ≤ at'
          · by_cases g1' : at' < 120
            · cases hv1 : standsL l doc at' <;> cases hv2 : standsL l doc (at' + 1) <;> rw [hv1] at x1 hs1 <;> rw [hv2] at x2 hs1 <;> simp at hs1 <;>
                repeat ((first | refine (c_law17_awake).go rfl ?_ | refine (f1).go rfl ?_ | refine (g1).go rfl ?_ | refine (a1).go rfl ?_ | refine (a2).go rfl ?_ | refine (a3).go rfl ?_ | refine (b1).go rfl ?_ | refine (b2).go rfl ?_ | refine (x1).go rfl ?_ | refine (x2).go rfl ?_ | refine (a4).go rfl ?_ | refine And.intro (show cellsAll _ _ from by repeat (first | exact trivial | refine ⟨⟨rfl, rfl⟩, ?_⟩)) ?_ | refine ⟨_, getZ (by omega), ?_⟩ | refine ⟨_, getI (by omega) (by omega), ?_⟩ | refine ⟨by omega, rfl, ?_⟩ | refine ⟨by (simp; omega), rfl, ?_⟩ | refine ⟨rfl, _, rfl, ⟨rfl, rfl, by decide⟩, ?_⟩ | refine ⟨rfl, _, rfl, ?_⟩ | refine ⟨rfl, ?_⟩ | refine ⟨in64 (by omega) (by omega), ?_⟩ | refine Br.dec (fun _ => ?_) (fun hh => absurd (by omega) hh) | refine Br.dec (fun hh => absurd hh (by omega)) (fun _ => ?_) | refine Br.eq (fun _ => ?_) (fun hh => absurd (by omega) hh) | refine Br.eq (fun hh => absurd hh (by omega)) (fun _ => ?_) | refine Br.ne (fun _ => ?_) (fun hh => absurd (by omega) hh) | refine Br.ne (fun hh => absurd hh (by omega)) (fun _ => ?_)); conv => whnf)
              all_goals exact ⟨Ends.keep ⟨rfl, rfl⟩⟩
            · repeat ((first | refine (c_law17_awake).go rfl ?_ | refine (f1).go rfl ?_ | refine (g1).go rfl ?_ | refine (a1).go rfl ?_ | refine (a2).go rfl ?_ | refine (a3).go rfl ?_ | refine (b1).go rfl ?_ | refine (b2).go rfl ?_ | refine (x1).go rfl ?_ | refine (x2).go rfl ?_ | refine (a4).go rfl ?_ | refine And.intro (show cellsAll _ _ from by repeat (first | exact trivial | refine ⟨⟨rfl, rfl⟩, ?_⟩)) ?_ | refine ⟨_, getZ (by omega), ?_⟩ | refine ⟨_, getI (by omega) (by omega), ?_⟩ | refine ⟨by omega, rfl, ?_⟩ | refine ⟨by (simp; omega), rfl, ?_⟩ | refine ⟨rfl, _, rfl, ⟨rfl, rfl, by decide⟩, ?_⟩ | refine ⟨rfl, _, rfl, ?_⟩ | refine ⟨rfl, ?_⟩ | refine ⟨in64 (by omega) (by omega), ?_⟩ | refine Br.dec (fun _ => ?_) (fun hh => absurd (by omega) hh) | refine Br.dec (fun hh => absurd hh (by omega)) (fun _ => ?_) | refine Br.eq (fun _ => ?_) (fun hh => absurd (by omega) hh) | refine Br.eq (fun hh => absurd hh (by omega)) (fun _ => ?_) | refine Br.ne (fun _ => ?_) (fun hh => absurd (by omega) hh) | refine Br.ne (fun hh => absurd hh (by omega)) (fun _ => ?_)); conv => whnf)
              exact ⟨Ends.keep ⟨rfl, rfl⟩⟩
          · repeat ((first | refine (c_law17_awake).go rfl ?_ | refine (f1).go rfl ?_ | refine (g1).go rfl ?_ | refine (a1).go rfl ?_ | refine (a2).go rfl ?_ | refine (a3).go rfl ?_ | refine (b1).go rfl ?_ | refine (b2).go rfl ?_ | refine (x1).go rfl ?_ | refine (x2).go rfl ?_ | refine (a4).go rfl ?_ | refine And.intro (show cellsAll _ _ from by repeat (first | exact trivial | refine ⟨⟨rfl, rfl⟩, ?_⟩)) ?_ | refine ⟨_, getZ (by omega), ?_⟩ | refine ⟨_, getI (by omega) (by omega), ?_⟩ | refine ⟨by omega, rfl, ?_⟩ | refine ⟨by (simp; omega), rfl, ?_⟩ | refine ⟨rfl, _, rfl, ⟨rfl, rfl, by decide⟩, ?_⟩ | refine ⟨rfl, _, rfl, ?_⟩ | refine ⟨rfl, ?_⟩ | refine ⟨in64 (by omega) (by omega), ?_⟩ | refine Br.dec (fun _ => ?_) (fun hh => absurd (by omega) hh) | refine Br.dec (fun hh => absurd hh (by omega)) (fun _ => ?_) | refine Br.eq (fun _ => ?_) (fun hh => absurd (by omega) hh) | refine Br.eq (fun hh => absurd hh (by omega)) (fun _ => ?_) | refine Br.ne (fun _ => ?_) (fun hh => absurd (by omega) hh) | refine Br.ne (fun hh => absurd hh (by omega)) (fun _ => ?_)); conv => whnf)
            exact ⟨Ends.keep ⟨rfl, rfl⟩⟩
        · rw [e1] at b1
          repeat ((first | refine (c_law17_awake).go rfl ?_ | refine (f1).go rfl ?_ | refine (g1).go rfl ?_ | refine (a1).go rfl ?_ | refine (a2).go rfl ?_ | refine (a3).go rfl ?_ | refine (b1).go rfl ?_ | refine (b2).go rfl ?_ | refine (a4).go rfl ?_ | refine And.intro (show cellsAll _ _ from by repeat (first | exact trivial | refine ⟨⟨rfl, rfl⟩, ?_⟩)) ?_ | refine ⟨_, getZ (by omega), ?_⟩ | refine ⟨_, getI (by omega) (by omega), ?_⟩ | refine ⟨by omega, rfl, ?_⟩ | refine ⟨by (simp; omega), rfl, ?_⟩ | refine ⟨rfl, _, rfl, ⟨rfl, rfl, by decide⟩, ?_⟩ | refine ⟨rfl, _, rfl, ?_⟩ | refine ⟨rfl, ?_⟩ | refine ⟨in64 (by omega) (by omega), ?_⟩ | refine Br.dec (fun _ => ?_) (fun hh => absurd (by omega) hh) | refine Br.dec (fun hh => absurd hh (by omega)) (fun _ => ?_) | refine Br.eq (fun _ => ?_) (fun hh => absurd (by omega) hh) | refine Br.eq (fun hh => absurd hh (by omega)) (fun _ => ?_) | refine Br.ne (fun _ => ?_) (fun hh => absurd (by omega) hh) | refine Br.ne (fun hh => absurd hh (by omega)) (fun _ => ?_)); conv => whnf)
          exact ⟨Ends.keep ⟨rfl, rfl⟩⟩
end Go.Aw
namespace Go.Aw
open Go.Proofs
set_option maxRecDepth 100000
set_option maxHeartbeats 4000000

theorem near_head {l m n : List Po} (hall : [l, m, n].all mayP = true) {d x : Int} (h : standsL (refNear [l, m, n]) d x = true) : standsL (refNear [l, m]) d x = true ∧ standsL (refNear [m, n]) d (x + 1) = true := by
  rw [near_stands (by simp) hall] at h
  have h0 := h 0 (by simp)
  have h1 := h 1 (by simp)
  have h2 := h 2 (by simp)
  simp only [List.all_cons, List.all_nil, Bool.and_eq_true, Bool.and_true] at hall
  rw [near_stands (by simp) (by simp [hall.1, hall.2.1]), near_stands (by simp) (by simp [hall.2.1, hall.2.2])]
  constructor
  · intro k hk
    have : k = 0 ∨ k = 1 := by simp at hk; omega
    rcases this with rfl | rfl
    · exact h0
    · exact h1
  · intro k hk
    have : k = 0 ∨ k = 1 := by simp at hk; omega
    rcases this with rfl | rfl
    · simpa using h1
    · rw [show x + 1 + ((1 : Nat) : Int) = x + ((2 : Nat) : Int) from by omega]; exact h2
theorem near_head' {l m n : List Po} {d x : Int} (h : standsL (refNear [l, m, n]) d x = true) : standsL (refNear [l, m]) d x = true ∧ standsL (refNear [m, n]) d (x + 1) = true := by
  obtain ⟨p, hp, _⟩ := stands_mem.1 h
  obtain ⟨_, _, _, _, hall, _⟩ := mem_refNear hp
  exact near_head hall h

theorem c_law17_PhraseLess : ∀ ys, TVs [.sl 2 (.fc (.i .i64) (.fc (.sl 1 (.i .i64)) .fn)), .sl 2 (.fc (.i .i64) (.fc (.sl 1 (.i .i64)) .fn)), .sl 2 (.fc (.i .i64) (.fc (.sl 1 (.i .i64)) .fn))] ys → CG Try.prog 6 ys (.b true) := by
  intro ys hy
  obtain ⟨y0, ys, rfl, h0, hy⟩ := tvs_cons hy
  obtain ⟨y1, ys, rfl, h1, hy⟩ := tvs_cons hy
  obtain ⟨y2, ys, rfl, h2, hy⟩ := tvs_cons hy
  cases tvs_nil hy
  obtain ⟨l, rfl, hl0⟩ := tv_posts h0
  obtain ⟨m, rfl, hm0⟩ := tv_posts h1
  obtain ⟨n, rfl, hn0⟩ := tv_posts h2
  unfold maxLen at hl0 hm0 hn0
  refine ⟨k_law17_PhraseLess.calls ?_⟩
  have f1 := c_law17_few [l, m, n] (by simp) (by simp; omega)
  conv => whnf
  cases hv1 : (decide ([l, m, n].length ≤ 6) && [l, m, n].all fewP) <;> rw [hv1] at f1
  · repeat ((first | refine (c_law17_awake).go rfl ?_ | refine (f1).go rfl ?_ | refine And.intro (show cellsAll _ _ from by repeat (first | exact trivial | refine ⟨⟨rfl, rfl⟩, ?_⟩)) ?_); conv => whnf)
    exact ⟨Ends.keep ⟨rfl, rfl⟩⟩
  · rw [Bool.and_eq_true] at hv1
    have p0 := hv1.2
    simp only [List.all_cons, List.all_nil, Bool.and_eq_true, Bool.and_true] at p0
    have few1 : ∀ {l : List Po}, fewP l = true → l.length < 1000000000 ∧ ∀ p ∈ l, p.2.length < 1000000000 := fun h => ⟨by have := (fewP_ok h).1; omega, fun p hp => by have := (fewP_ok h).2 p hp; omega⟩
    have ql := few1 p0.1
    have qm := few1 p0.2.1
    have qn := few1 p0.2.2
    have a1 := c_Near [l, m, n] (by simp) (by simpa using ⟨ql.1, qm.1, qn.1⟩) (by simpa using ⟨fun a b => ql.2 (a, b), fun a b => qm.2 (a, b), fun a b => qn.2 (a, b)⟩)
    have a2 := c_Near [l, m] (by simp) (by simpa using ⟨ql.1, qm.1⟩) (by simpa using ⟨fun a b => ql.2 (a, b), fun a b => qm.2 (a, b)⟩)
    have a3 := c_Near [m, n] (by simp) (by simpa using ⟨qm.1, qn.1⟩) (by simpa using ⟨fun a b => qm.2 (a, b), fun a b => qn.2 (a, b)⟩)
    have hst := fun d x => near_head' (l := l) (m := m) (n := n) (d := d) (x := x)
    have lA := near_len (l := [l, m, n])
    have tA := fun p => near_ats (l := [l, m, n]) (p := p)
    have mA := near_may [l, m, n]
    generalize refNear [l, m, n] = A at a1 hst lA tA mA
    have lB := near_len (l := [l, m])
    have tB := fun p => near_ats (l := [l, m]) (p := p)
    have mB := near_may [l, m]
    generalize refNear [l, m] = B at a2 hst lB tB mB
    have lC := near_len (l := [m, n])
    have tC := fun p => near_ats (l := [m, n]) (p := p)
    have mC := near_may [m, n]
    generalize refNear [m, n] = C at a3 hst lC tC mC
    have hmA : (A.map tpost).length = A.length := by simp
    have hmB : (B.map tpost).length = B.length := by simp
    have hmC : (C.map tpost).length = C.length := by simp
    have pA : ∀ p ∈ A, p.2.length < 1000000000 := fun p hp => by have := tA p hp; omega
    have pB : ∀ p ∈ B, p.2.length < 1000000000 := fun p hp => by have := tB p hp; omega
    have pC : ∀ p ∈ C, p.2.length < 1000000000 := fun p hp => by have := tC p hp; omega
    have g2 := c_post_May A (by omega) pA
    rw [mA] at g2
    (try conv => whnf); repeat ((first | refine (c_law17_awake).go rfl ?_ | refine (f1).go rfl ?_ | refine (a1).go rfl ?_ | refine (a2).go rfl ?_ | refine (a3).go rfl ?_ | refine And.intro (show cellsAll _ _ from by repeat (first | exact trivial | refine ⟨⟨rfl, rfl⟩, ?_⟩)) ?_ | refine ⟨_, getZ (by omega), ?_⟩ | refine ⟨_, getI (by omega) (by omega), ?_⟩ | refine ⟨by omega, rfl, ?_⟩ | refine ⟨by (simp; omega), rfl, ?_⟩ | refine ⟨rfl, _, rfl, ⟨rfl, rfl, by decide⟩, ?_⟩ | refine ⟨rfl, _, rfl, ?_⟩ | refine ⟨rfl, ?_⟩ | refine ⟨in64 (by omega) (by omega), ?_⟩ | refine Br.dec (fun _ => ?_) (fun hh => absurd (by omega) hh) | refine Br.dec (fun hh => absurd hh (by omega)) (fun _ => ?_) | refine Br.eq (fun _ => ?_) (fun hh => absurd (by omega) hh) | refine Br.eq (fun hh => absurd hh (by omega)) (fun _ => ?_) | refine Br.ne (fun _ => ?_) (fun hh => absurd (by omega) hh) | refine Br.ne (fun hh => absurd hh (by omega)) (fun _ => ?_)); conv => whnf)
    refine SW.loop (α := Nat) (fun k => tm 138 [(9, posts A), (10, posts B), (11, posts C), (12, .g (.i k))]) (fun _ => []) (fun k => k ≤ A.length) (fun k => A.length - k) 0 ?_ ?_ ?_ ?_
    · exact Nat.zero_le _
    · rfl
    · simp [subT, subV, tm, tmGo, posts, tposts]
    · intro k hk
      dsimp only at hk ⊢
      conv => whnf
      refine Br.dec (fun h => ?_) (fun h => ?_)
      · have hk' : k < A.length := by omega
        have hne := (mayP_ok mA _ (List.getElem_mem hk')).1
        have hrng := (risE_ge (mayP_ok mA _ (List.getElem_mem hk')).2.2).2
        have hmk : (A[k].2.map T.i).length = A[k].2.length := by simp
        have hbk := pA _ (List.getElem_mem hk')
        have b1 := c_post_Find B A[k].1 (by omega) pB
        have b2 := c_post_Find C A[k].1 (by omega) pC
        have hin : ∀ x ∈ A[k].2, standsL B A[k].1 x = true ∧ standsL C A[k].1 (x + 1) = true := fun x hx => hst _ _ (stands_mem.2 ⟨_, List.getElem_mem hk', rfl, hx⟩)
        obtain ⟨x0, hx0⟩ := List.exists_mem_of_length_pos hne
        obtain ⟨i, hi, e1, hi2⟩ : ∃ (i : Nat) (hi : i < B.length), findP B A[k].1 = i ∧ ∀ x, standsL B A[k].1 x = decide (x ∈ B[i].2) := by
          rcases find_has (d := A[k].1) mB with h | ⟨_, h⟩
          · exact h
          · have := (hin x0 hx0).1; rw [h] at this; cases this
        obtain ⟨j, hj, e2, hj2⟩ : ∃ (j : Nat) (hj : j < C.length), findP C A[k].1 = j ∧ ∀ x, standsL C A[k].1 x = decide (x ∈ C[j].2) := by
          rcases find_has (d := A[k].1) mC with h | ⟨_, h⟩
          · exact h
          · have := (hin x0 hx0).2; rw [h] at this; cases this
        have tBi := pB _ (List.getElem_mem hi)
        have tCj := pC _ (List.getElem_mem hj)
        rw [e1] at b1
        rw [e2] at b2
        (try conv => whnf); repeat ((first | refine (b1).go rfl ?_ | refine (b2).go rfl ?_ | refine And.intro (show cellsAll _ _ from by repeat (first | exact trivial | refine ⟨⟨rfl, rfl⟩, ?_⟩)) ?_ | refine ⟨_, getZ (by omega), ?_⟩ | refine ⟨_, getI (by omega) (by omega), ?_⟩ | refine ⟨by omega, rfl, ?_⟩ | refine ⟨by (simp; omega), rfl, ?_⟩ | refine ⟨rfl, _, rfl, ⟨rfl, rfl, by decide⟩, ?_⟩ | refine ⟨rfl, _, rfl, ?_⟩ | refine ⟨rfl, ?_⟩ | refine ⟨in64 (by omega) (by omega), ?_⟩ | refine Br.dec (fun _ => ?_) (fun hh => absurd (by omega) hh) | refine Br.dec (fun hh => absurd hh (by omega)) (fun _ => ?_) | refine Br.eq (fun _ => ?_) (fun hh => absurd (by omega) hh) | refine Br.eq (fun hh => absurd hh (by omega)) (fun _ => ?_) | refine Br.ne (fun _ => ?_) (fun hh => absurd (by omega) hh) | refine Br.ne (fun hh => absurd hh (by omega)) (fun _ => ?_)); conv => whnf)
        refine SW.loop (α := Nat) (fun q => tm 138 [(9, posts A), (10, posts B), (11, posts C), (12, .g (.i k)), (13, .g (.i i)), (14, .g (.i j)), (15, .g (.i q))]) (fun _ => []) (fun q => q ≤ A[k].2.length) (fun q => A[k].2.length - q) 0 ?_ ?_ ?_ ?_
        · exact Nat.zero_le _
        · rfl
        · simp [subT, subV, tm, tmGo, posts]
        · intro q hq
          dsimp only at hq ⊢
          conv => whnf
          (try conv => whnf); repeat ((first | refine And.intro (show cellsAll _ _ from by repeat (first | exact trivial | refine ⟨⟨rfl, rfl⟩, ?_⟩)) ?_ | refine ⟨_, getZ (by omega), ?_⟩ | refine ⟨_, getI (by omega) (by omega), ?_⟩ | refine ⟨by omega, rfl, ?_⟩ | refine ⟨by (simp; omega), rfl, ?_⟩ | refine ⟨rfl, _, rfl, ⟨rfl, rfl, by decide⟩, ?_⟩ | refine ⟨rfl, _, rfl, ?_⟩ | refine ⟨rfl, ?_⟩ | refine ⟨in64 (by omega) (by omega), ?_⟩ | refine Br.dec (fun _ => ?_) (fun hh => absurd (by omega) hh) | refine Br.dec (fun hh => absurd hh (by omega)) (fun _ => ?_) | refine Br.eq (fun _ => ?_) (fun hh => absurd (by omega) hh) | refine Br.eq (fun hh => absurd hh (by omega)) (fun _ => ?_) | refine Br.ne (fun _ => ?_) (fun hh => absurd (by omega) hh) | refine Br.ne (fun hh => absurd hh (by omega)) (fun _ => ?_)); conv => whnf)
          refine Br.dec (fun h => ?_) (fun h => ?_)
          · have hq' : q < A[k].2.length := by omega
            have hxr := hrng _ (List.getElem_mem hq')
            have x1 := has_true (xs := B[i].2) (n := A[k].2[q]) (b := true) (by omega) (by rw [← hi2]; exact (hin _ (List.getElem_mem hq')).1)
            have x2 := has_true (xs := C[j].2) (n := A[k].2[q] + 1) (b := true) (by omega) (by rw [← hj2]; exact (hin _ (List.getElem_mem hq')).2)
            (try conv => whnf); repeat ((first | refine (x1).go rfl ?_ | refine (x2).go rfl ?_ | refine And.intro (show cellsAll _ _ from by repeat (first | exact trivial | refine ⟨⟨rfl, rfl⟩, ?_⟩)) ?_ | refine ⟨_, getZ (by omega), ?_⟩ | refine ⟨_, getI (by omega) (by omega), ?_⟩ | refine ⟨by omega, rfl, ?_⟩ | refine ⟨by (simp; omega), rfl, ?_⟩ | refine ⟨rfl, _, rfl, ⟨rfl, rfl, by decide⟩, ?_⟩ | refine ⟨rfl, _, rfl, ?_⟩ | refine ⟨rfl, ?_⟩ | refine ⟨in64 (by omega) (by omega), ?_⟩ | refine Br.dec (fun _ => ?_) (fun hh => absurd (by omega) hh) | refine Br.dec (fun hh => absurd hh (by omega)) (fun _ => ?_) | refine Br.eq (fun _ => ?_) (fun hh => absurd (by omega) hh) | refine Br.eq (fun hh => absurd hh (by omega)) (fun _ => ?_) | refine Br.ne (fun _ => ?_) (fun hh => absurd (by omega) hh) | refine Br.ne (fun hh => absurd hh (by omega)) (fun _ => ?_)); conv => whnf)
            exact ⟨⟨q + 1, hq', by omega, rfl, by simp [subT, subV, tm, tmGo, posts]⟩⟩
          · (try conv => whnf); repeat ((first | refine And.intro (show cellsAll _ _ from by repeat (first | exact trivial | refine ⟨⟨rfl, rfl⟩, ?_⟩)) ?_ | refine ⟨_, getZ (by omega), ?_⟩ | refine ⟨_, getI (by omega) (by omega), ?_⟩ | refine ⟨by omega, rfl, ?_⟩ | refine ⟨by (simp; omega), rfl, ?_⟩ | refine ⟨rfl, _, rfl, ⟨rfl, rfl, by decide⟩, ?_⟩ | refine ⟨rfl, _, rfl, ?_⟩ | refine ⟨rfl, ?_⟩ | refine ⟨in64 (by omega) (by omega), ?_⟩ | refine Br.dec (fun _ => ?_) (fun hh => absurd (by omega) hh) | refine Br.dec (fun hh => absurd hh (by omega)) (fun _ => ?_) | refine Br.eq (fun _ => ?_) (fun hh => absurd (by omega) hh) | refine Br.eq (fun hh => absurd hh (by omega)) (fun _ => ?_) | refine Br.ne (fun _ => ?_) (fun hh => absurd (by omega) hh) | refine Br.ne (fun hh => absurd hh (by omega)) (fun _ => ?_)); conv => whnf)
            exact ⟨⟨k + 1, hk', by omega, rfl, by simp [subT, subV, tm, tmGo, posts]⟩⟩
      · (try conv => whnf); repeat ((first | refine (g2).go rfl ?_ | refine And.intro (show cellsAll _ _ from by repeat (first | exact trivial | refine ⟨⟨rfl, rfl⟩, ?_⟩)) ?_ | refine ⟨_, getZ (by omega), ?_⟩ | refine ⟨_, getI (by omega) (by omega), ?_⟩ | refine ⟨by omega, rfl, ?_⟩ | refine ⟨by (simp; omega), rfl, ?_⟩ | refine ⟨rfl, _, rfl, ⟨rfl, rfl, by decide⟩, ?_⟩ | refine ⟨rfl, _, rfl, ?_⟩ | refine ⟨rfl, ?_⟩ | refine ⟨in64 (by omega) (by omega), ?_⟩ | refine Br.dec (fun _ => ?_) (fun hh => absurd (by omega) hh) | refine Br.dec (fun hh => absurd hh (by omega)) (fun _ => ?_) | refine Br.eq (fun _ => ?_) (fun hh => absurd (by omega) hh) | refine Br.eq (fun hh => absurd hh (by omega)) (fun _ => ?_) | refine Br.ne (fun _ => ?_) (fun hh => absurd (by omega) hh) | refine Br.ne (fun hh => absurd hh (by omega)) (fun _ => ?_)); conv => whnf)
        exact ⟨Ends.keep ⟨rfl, rfl⟩⟩
end Go.Aw
