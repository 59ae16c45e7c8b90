/- Contracts of functions of the given program, by the abstract walk, for law PhraseAlive: what each one hands back; no condition but those that each theorem states. -/
import Derived.Test.YtbodcpinpomobaaC4
namespace Go.Aw
open Go.Proofs
set_option maxRecDepth 100000

theorem live_all {l : List Po} (h : mayP l = true) : aliveL l (List.replicate 64 true) = l := by
  rw [aliveL, if_pos h, List.filter_eq_self]
  intro p hp
  have hb := mayP_doc h p hp
  have h1 : p.1.toNat < 64 := by omega
  rw [liveQ, decide_eq_true (by simp; omega), Bool.true_and, List.getElem?_replicate, if_pos h1]; rfl

theorem c_law17_PhraseAlive : ∀ ys, TVs [.sl 2 (.fc (.i .i64) (.fc (.sl 1 (.i .i64)) .fn)), .sl 1 .b, .i .i64] ys → CG Try.prog 7 ys (.b true) := by
  intro ys hy
  obtain ⟨y0, ys, rfl, h0, hy⟩ := tvs_cons hy
  obtain ⟨y1, ys, rfl, h1, hy⟩ := tvs_cons hy
  obtain ⟨y2, ys, rfl, h2, hy⟩ := tvs_cons hy
  cases tvs_nil hy
  obtain ⟨l, rfl, hl0⟩ := tv_posts h0
  obtain ⟨lives, rfl, hv0⟩ := tv_bools h1
  obtain ⟨doc, rfl, hdoc⟩ := tv_int h2
  unfold maxLen at hl0 hv0
  refine ⟨k_law17_PhraseAlive.calls ?_⟩
  have hmb : (lives.map T.b).length = lives.length := by simp
  have f1 := c_Few l (by omega)
  conv => whnf
  cases hv1 : fewP l <;> rw [hv1] at f1
  · repeat ((first | refine (c_law17_awake).go rfl ?_ | refine (f1).go rfl ?_ | refine And.intro (show cellsAll _ _ from by repeat (first | exact trivial | refine ⟨⟨rfl, rfl⟩, ?_⟩)) ?_); conv => whnf)
    exact ⟨Ends.keep ⟨rfl, rfl⟩⟩
  · obtain ⟨p1, p2⟩ := fewP_ok hv1
    have hp : ∀ p ∈ l, p.2.length < 1000000000 := fun p hp => by have := p2 p hp; omega
    repeat ((first | refine (c_law17_awake).go rfl ?_ | refine (f1).go rfl ?_ | refine And.intro (show cellsAll _ _ from by repeat (first | exact trivial | refine ⟨⟨rfl, rfl⟩, ?_⟩)) ?_); conv => whnf)
    refine Br.dec (fun h => ?_) (fun h => ?_)
    · conv => whnf
      exact ⟨Ends.keep ⟨rfl, rfl⟩⟩
    · conv => whnf
      have g1 := c_post_May l (by omega) hp
      cases hmay : mayP l <;> rw [hmay] at g1
      · repeat ((first | refine (g1).go rfl ?_ | refine And.intro (show cellsAll _ _ from by repeat (first | exact trivial | refine ⟨⟨rfl, rfl⟩, ?_⟩)) ?_); conv => whnf)
        exact ⟨Ends.keep ⟨rfl, rfl⟩⟩
      · have hal : aliveL l lives = l.filter (liveQ lives) := by rw [aliveL, if_pos hmay]
        have a1 := c_phrase_Alive l lives (by omega) (by omega) hp
        have a2 := c_live_New 64 (by omega) (by omega)
        have a3 := c_phrase_Alive l (List.replicate 64 true) (by omega) (by simp) hp
        rw [live_all hmay] at a3
        have a4 := same_true (a := l) (b := l) (by omega) hp rfl
        have hsub : (l.filter (liveQ lives)).Sublist l := List.filter_sublist
        rw [hal] at a1
        generalize hm : l.filter (liveQ lives) = m at a1 hsub
        have hmm := mayP_sub hmay hsub
        have hml := hsub.length_le
        have hmp : ∀ p ∈ m, p.2.length < 1000000000 := fun p h => hp p (hsub.subset h)
        have b1 := c_post_Find l doc (by omega) hp
        have b2 := c_post_Find m doc (by omega) hmp
        have g2 := c_post_May m (by omega) hmp
        rw [hmm] at g2
        rcases find_cases doc hmm with ⟨k, hk, e2, hkd⟩ | ⟨e2, hno⟩
        · have hkl : m[k] ∈ l := hsub.subset (List.getElem_mem _)
          have hq : liveQ lives m[k] = true := by
            have : m[k] ∈ l.filter (liveQ lives) := by rw [hm]; exact List.getElem_mem _
            exact (List.mem_filter.1 this).2
          rcases find_cases doc hmay with ⟨i, hi, e1, hid⟩ | ⟨e1, hno⟩
          · rw [e1] at b1; rw [e2] at b2
            have hb := mayP_doc hmay _ (List.getElem_mem hi)
            repeat ((first | refine (g1).go rfl ?_ | refine (a1).go rfl ?_ | refine (a2).go rfl ?_ | refine (a3).go rfl ?_ | refine (a4).go rfl ?_ | refine (b1).go rfl ?_ | refine (b2).go rfl ?_ | refine And.intro (show cellsAll _ _ from by repeat (first | exact trivial | refine ⟨⟨rfl, rfl⟩, ?_⟩)) ?_); conv => whnf)
            have hqd : doc < lives.length ∧ lives[doc.toNat]?.getD false = true := by
              rw [liveQ, Bool.and_eq_true, decide_eq_true_eq, hkd] at hq; exact hq
            refine Br.dec (fun h3 => absurd h3 (by simp; omega)) (fun h3 => ?_)
            conv => whnf
            refine Br.dec (fun h4 => absurd h4 (by omega)) (fun h4 => ?_)
            conv => whnf
            refine Br.dec (fun h5 => absurd h5 (by simp; omega)) (fun h5 => ?_)
            conv => whnf
            refine ⟨by simp; omega, rfl, ?_⟩
            conv => whnf
            refine ⟨_, getI (by omega) (by omega), ?_⟩
            conv => whnf
            have hld : lives[doc.toNat]'(by omega) = true := by
              have := hqd.2
              rwa [List.getElem?_eq_getElem (by omega)] at this
            rw [hld]
            conv => whnf
            refine Br.dec (fun h6 => absurd h6 (by simp; omega)) (fun h6 => ?_)
            conv => whnf
            have hmk : m[k] = l[i] := by
              obtain ⟨j, hj, e⟩ := List.getElem_of_mem hkl
              have := doc_inj hmay hi hj (by rw [e, hid, hkd])
              subst this; exact e.symm
            refine ⟨in64 (by omega) (by omega), ?_⟩
            conv => whnf
            refine ⟨rfl, ⟨by omega, by omega, by simp; omega⟩, ?_⟩
            refine ⟨in64 (by omega) (by omega), ?_⟩
            conv => whnf
            refine ⟨rfl, ⟨by omega, by omega, by simp; omega⟩, ?_⟩
            conv => whnf
            have s1 := same_true (a := [m[k]]) (b := [l[i]]) (by simp) (fun p hp' => hmp p (by simp at hp'; subst hp'; exact List.getElem_mem _)) (by rw [hmk])
            have eM : (((m.map tpost).drop (k : Int).toNat).take (((k : Int) + 1).toNat - (k : Int).toNat)) = [tpost m[k]] := by
              rw [show (k : Int).toNat = k from by omega, show ((k : Int) + 1).toNat - k = 1 from by omega, List.drop_eq_getElem_cons (by simpa using hk)]; simp
            have eL : (((l.map tpost).drop (i : Int).toNat).take (((i : Int) + 1).toNat - (i : Int).toNat)) = [tpost l[i]] := by
              rw [show (i : Int).toNat = i from by omega, show ((i : Int) + 1).toNat - i = 1 from by omega, List.drop_eq_getElem_cons (by simpa using hi)]; simp
            rw [eM, eL]
            repeat ((first | refine (s1).go rfl ?_ | refine (g2).go rfl ?_ | refine And.intro (show cellsAll _ _ from by repeat (first | exact trivial | refine ⟨⟨rfl, rfl⟩, ?_⟩)) ?_); conv => whnf)
            exact ⟨Ends.keep ⟨rfl, rfl⟩⟩
          · exact absurd hkd (hno _ hkl)
        · have hle : (((m.map tpost).length : Nat) : Int) ≤ ((l.map tpost).length : Nat) := by simp; omega
          rcases find_cases doc hmay with ⟨i, hi, e1, hid⟩ | ⟨e1, hnl⟩
          · rw [e1] at b1; rw [e2] at b2
            have hb := mayP_doc hmay _ (List.getElem_mem hi)
            have hq : liveQ lives l[i] = false := by
              cases hq : liveQ lives l[i] with
              | false => rfl
              | true => exact absurd hid (hno _ (by rw [← hm]; exact List.mem_filter.2 ⟨List.getElem_mem _, hq⟩))
            repeat ((first | refine (g1).go rfl ?_ | refine (a1).go rfl ?_ | refine (a2).go rfl ?_ | refine (a3).go rfl ?_ | refine (a4).go rfl ?_ | refine (b1).go rfl ?_ | refine (b2).go rfl ?_ | refine And.intro (show cellsAll _ _ from by repeat (first | exact trivial | refine ⟨⟨rfl, rfl⟩, ?_⟩)) ?_); conv => whnf)
            refine Br.dec (fun h3 => absurd h3 (by simp; omega)) (fun h3 => ?_)
            conv => whnf
            refine Br.dec (fun h4 => absurd h4 (by omega)) (fun h4 => ?_)
            conv => whnf
            refine Br.dec (fun h5 => ?_) (fun h5 => ?_)
            · conv => whnf
              rw [decide_eq_true hle]
              exact ⟨Ends.keep ⟨rfl, rfl⟩⟩
            · conv => whnf
              have h5' : doc < lives.length := by simp at h5; omega
              refine ⟨by simp; omega, rfl, ?_⟩
              conv => whnf
              refine ⟨_, getI (by omega) (by omega), ?_⟩
              conv => whnf
              have hld : lives[doc.toNat]'(by omega) = false := by
                rw [liveQ, hid, decide_eq_true h5', Bool.true_and, List.getElem?_eq_getElem (by omega)] at hq
                exact hq
              rw [hld]
              conv => whnf
              rw [decide_eq_true hle]
              exact ⟨Ends.keep ⟨rfl, rfl⟩⟩
          · rw [e1] at b1; rw [e2] at b2
            repeat ((first | refine (g1).go rfl ?_ | refine (a1).go rfl ?_ | refine (a2).go rfl ?_ | refine (a3).go rfl ?_ | refine (a4).go rfl ?_ | refine (b1).go rfl ?_ | refine (b2).go rfl ?_ | refine And.intro (show cellsAll _ _ from by repeat (first | exact trivial | refine ⟨⟨rfl, rfl⟩, ?_⟩)) ?_); conv => whnf)
            rw [decide_eq_true hle]
            exact ⟨Ends.keep ⟨rfl, rfl⟩⟩
end Go.Aw
