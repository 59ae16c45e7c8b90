/- Contracts of functions of the given program, by the abstract walk, for law PhraseWordsUpto: what each one hands back; no condition but those that each theorem states. -/
import Derived.Test.YthpnnkoaomekfaaC3
import Derived.Test.YthpnnkoaomekfaaL1
namespace Go.Aw
open Go.Proofs
set_option maxRecDepth 100000

def tbools (bs : List Bool) : T := .sl 1 (bs.map T.b)
def liveQ (lives : List Bool) (p : Po) : Bool := decide (p.1 < lives.length) && lives[p.1.toNat]?.getD false
def aliveL (l : List Po) (lives : List Bool) : List Po := if mayP l = true then l.filter (liveQ lives) else []

theorem c_slices_Clone_Lint_int (xs : List Int) (hl : xs.length < 1000000000) : CG Try.prog 93 [tints xs] (tints xs) := by
  refine ⟨k_slices_Clone_Lint_int.calls ?_⟩
  conv => whnf
  intro r hr
  conv => whnf
  refine Br.intro (fun h => ?_) (fun h => ?_)
  · conv => whnf
    have : xs = [] := by simpa using hr h
    subst this
    exact ⟨Ends.ground (H := []) (L := []) 0 rfl ⟨rfl, rfl⟩⟩
  · conv => whnf
    refine ⟨rfl, ?_⟩
    conv => whnf
    refine ⟨by simp; omega, ⟨rfl, rfl, rfl⟩, [], ⟨[], rfl⟩, rfl, ?_⟩
    conv => whnf
    refine ⟨Ends.ground (H := []) (L := [_]) (t := tints xs) 1 ?_ ⟨rfl, rfl⟩⟩
    have e : ((xs.map T.i).map V.g) = xs.map fun x => V.g (.i x) := by rw [List.map_map]; rfl
    have := gr_own (n := 0) (d := 0) (b := 0) (g := 1) (sz := 1) (len := 0 + ((xs.map T.i).map V.g).length) (h := [.arr 1 1 ([] ++ (xs.map T.i).map V.g)]) (l := xs) (f := fun x => V.g (.i x)) (e := T.i) (by rw [e]; rfl) (Nat.le_refl _) (by simp) (fun x _ => gr_g)
    exact this

theorem c_phrase_Alive (l : List Po) (lives : List Bool) (hl : l.length < 1000000000) (hv : lives.length < 1000000000) (hp : ∀ p ∈ l, p.2.length < 1000000000) : CG Try.prog 96 [tposts l, tbools lives] (tposts (aliveL l lives)) := by
  refine ⟨k_phrase_Alive.calls ?_⟩
  have hm : (l.map tpost).length = l.length := by simp
  have hmb : (lives.map T.b).length = lives.length := by simp
  conv => whnf
  refine (c_post_May l hl hp).go rfl ?_
  conv => whnf
  refine Br.not (fun h2 => ?_) (fun h2 => ?_)
  · conv => whnf
    refine ⟨Ends.ground (H := []) (L := []) 0 rfl ⟨?_, rfl⟩⟩
    rw [aliveL, h2]; rfl
  · conv => whnf
    have hal : aliveL l lives = l.filter (liveQ lives) := by rw [aliveL, if_pos h2]
    refine SW.loopR (α := Nat) (fun k => tm 40 [(1, .g (tbools lives)), (5, .own 0 ((l.take k).filter (liveQ lives)).length 0 ((l.take k).filter (liveQ lives)).length), (11, posts l), (12, .g (.i l.length)), (13, .g (.i k))])
      (fun k => [.arr ((l.take k).filter (liveQ lives)).length 2 (((l.take k).filter (liveQ lives)).map fun p => V.g (tpost p))]) (fun k => k ≤ l.length) (fun k => l.length - k) 0 ?_ ?_ ?_
    · exact Nat.zero_le _
    · exact (Refi.valloc 5 2 rfl).trans (Refi.sub rfl (by simp [subT, subV, tm, tmGo, posts, tposts, tbools, setT]))
    · intro k hk
      dsimp only at hk ⊢
      conv => whnf
      refine Br.dec (fun h => ?_) (fun h => ?_)
      · conv => whnf
        refine ⟨by simp; omega, rfl, ?_⟩
        conv => whnf
        refine ⟨_, getZ (by omega), ?_⟩
        conv => whnf
        have hk' : k < l.length := by omega
        have htk : l.take (k + 1) = l.take k ++ [l[k]] := List.take_succ_eq_append_getElem hk'
        have hd := mayP_doc h2 _ (List.getElem_mem hk')
        have hpk := hp _ (List.getElem_mem hk')
        have hfl : ((l.take k).filter (liveQ lives)).length ≤ l.length := Nat.le_trans (List.length_filter_le _ _) (by simp; omega)
        refine ⟨rfl, ?_⟩
        conv => whnf
        refine ⟨rfl, _, rfl, ⟨rfl, rfl, by decide⟩, ?_⟩
        conv => whnf
        refine ⟨rfl, _, rfl, ?_⟩
        conv => whnf
        refine Br.dec (fun h3 => ?_) (fun h3 => ?_)
        · conv => whnf
          refine ⟨rfl, _, rfl, ?_⟩
          conv => whnf
          have h3' : l[k].1.toNat < lives.length := by omega
          refine ⟨by simp; omega, rfl, ?_⟩
          conv => whnf
          refine ⟨_, getI (by omega) (by omega), ?_⟩
          conv => whnf
          have e3 : liveQ lives l[k] = lives[l[k].1.toNat] := by
            rw [liveQ, decide_eq_true (by omega), Bool.true_and, List.getElem?_eq_getElem h3']; rfl
          refine Br.intro (fun h4 => ?_) (fun h4 => ?_)
          · conv => whnf
            refine ⟨rfl, _, rfl, ?_⟩
            conv => whnf
            refine ⟨rfl, _, rfl, ?_⟩
            conv => whnf
            refine ⟨_, (c_slices_Clone_Lint_int l[k].2 (by omega)).go rfl ⟨rfl, rfl⟩, ?_⟩
            conv => whnf
            refine ⟨by repeat (first | exact trivial | refine ⟨⟨rfl, rfl⟩, ?_⟩), ?_⟩
            conv => whnf
            refine ⟨rfl, ?_⟩
            conv => whnf
            refine ⟨by simp; omega, ⟨rfl, rfl, rfl⟩, _, ⟨[], (List.append_nil _).symm⟩, by simp, ?_⟩
            conv => whnf
            refine ⟨in64 (by omega) (by omega), ?_⟩
            conv => whnf
            have e : (l.take (k + 1)).filter (liveQ lives) = (l.take k).filter (liveQ lives) ++ [l[k]] := by rw [htk, List.filter_append]; simp [e3, h4]
            refine ⟨⟨k + 1, hk', by omega, Refi.back (L := [.arr 0 2 [.g (tpost l[k])]]) ?_ (Nat.zero_le _) (lt_all1 Blk.lt_gs) ?_⟩⟩
            · rw [e, List.length_append, List.map_append]; rfl
            · rw [e]; simp [subT, subV, tm, tmGo, posts, tbools, cutV, ltB, ltS]
          · conv => whnf
            refine ⟨in64 (by omega) (by omega), ?_⟩
            conv => whnf
            have e : (l.take (k + 1)).filter (liveQ lives) = (l.take k).filter (liveQ lives) := by rw [htk, List.filter_append]; simp [e3, h4]
            refine ⟨⟨k + 1, hk', by omega, Refi.back (L := [.arr 0 2 [.g (tpost l[k])]]) ?_ (Nat.zero_le _) (lt_all1 Blk.lt_gs) ?_⟩⟩
            · rw [e]; rfl
            · rw [e]; simp [subT, subV, tm, tmGo, posts, tbools, cutV, ltB, ltS]
        · conv => whnf
          refine ⟨in64 (by omega) (by omega), ?_⟩
          conv => whnf
          have e3 : liveQ lives l[k] = false := by rw [liveQ, decide_eq_false (by omega), Bool.false_and]
          have e : (l.take (k + 1)).filter (liveQ lives) = (l.take k).filter (liveQ lives) := by rw [htk, List.filter_append]; simp [e3]
          refine ⟨⟨k + 1, hk', by omega, Refi.back (L := [.arr 0 2 [.g (tpost l[k])]]) ?_ (Nat.zero_le _) (lt_all1 Blk.lt_gs) ?_⟩⟩
          · rw [e]; rfl
          · rw [e]; simp [subT, subV, tm, tmGo, posts, tbools, cutV, ltB, ltS]
      · conv => whnf
        have : k = l.length := by omega
        subst this
        refine ⟨Ends.ground (H := []) (L := [_]) (t := tposts (aliveL l lives)) 1 ?_ ⟨rfl, rfl⟩⟩
        rw [List.take_length, hal]
        exact gr_own rfl (Nat.le_refl _) rfl fun x _ => gr_g
end Go.Aw
namespace Go.Aw
open Go.Proofs
set_option maxRecDepth 100000

/-- does a word stand in a document at a place? -/
def standsL (l : List Po) (doc at' : Int) : Bool := l.any fun p => decide (p.1 = doc) && decide (at' ∈ p.2)
def refA (l : List (List Po)) (d p : Nat) : Bool := l.zipIdx.all fun q => standsL q.1 d ((p : Int) + q.2)
def refAt (l : List (List Po)) (d n : Nat) : List Int := ((List.range n).filter (refA l d)).map fun p : Nat => (p : Int)
def refF (l : List (List Po)) (d : Nat) : Option Po := if refAt l d 120 = [] then none else some ((d : Int), refAt l d 120)
def refNear (l : List (List Po)) : List Po := if l.all mayP = true ∧ l ≠ [] then (List.range 64).filterMap (refF l) else []
theorem refAt_len {l : List (List Po)} {d n : Nat} : (refAt l d n).length ≤ n := by
  simp only [refAt, List.length_map]
  exact Nat.le_trans (List.length_filter_le _ _) (by simp)
theorem refO_len {l : List (List Po)} {d : Nat} : ((List.range d).filterMap (refF l)).length ≤ d := Nat.le_trans (List.length_filterMap_le _ _) (by simp)

end Go.Aw
namespace Go.Aw
open Go.Proofs
set_option maxRecDepth 100000

theorem c_bits_Mul (x y : Nat) (hx : x < 18446744073709551616) (hy : y < 18446744073709551616) :
    CV Try.prog 166 [.sc (.int .u64 x), .sc (.int .u64 y)] (.tu [.g (.sc (.int .u64 ((x * y / 18446744073709551616 : Nat) : Int))), .g (.sc (.int .u64 ((x * y % 18446744073709551616 : Nat) : Int)))]) := by
  refine ⟨⟨⟨Try.f166, Try.func166, by kernel_rfl, rfl⟩, fun γ I w vs r hl hv => ?_⟩, V.lt.gs (ts := [_, _])⟩
  match vs, hl with
  | [a, b], _ =>
    have ha := hv 0 _ rfl
    have hb := hv 1 _ rfl
    simp only [List.getD_cons_zero, List.getD_cons_succ] at ha hb
    cases ha with | g ha =>
    cases hb with | g hb =>
    cases ha; cases hb
    refine (Try.bits_Mul x y hx hy w).mono ?_
    rintro e w' ⟨rfl, rfl⟩
    refine ⟨_, _, [], γ, I, rfl, ⟨rfl, rfl⟩, r, ?_, Ext.refl ..⟩
    refine .tu (vs := [_, _]) rfl (fun i t ht => ?_)
    match i, ht with
    | 0, ht => cases ht; exact .g (.sc rfl)
    | 1, ht => cases ht; exact .g (.sc rfl)

theorem c_slices_Repeat (n : Nat) (hn : n ≤ 64) (h0 : 0 < n) : CG Try.prog 133 [tbools [true], .i n] (tbools (List.replicate n true)) := by
  refine ⟨k_slices_Repeat_Lbool_bool.calls ?_⟩
  obtain ⟨i, hi⟩ : ∃ i : Int, i = n := ⟨_, rfl⟩
  rw [← hi]
  have hw : IntKind.u64.wrap i = n := by rw [wrap_in (by simp [inR, IntKind.min, IntKind.max, IntKind.signed, IntKind.bits]; omega)]; exact hi
  have hw2 : IntKind.i64.wrap (n : Int) = n := wrap_in (in64 (by omega) (by omega))
  have hmul := c_bits_Mul 1 n (by omega) (by omega)
  have e1 : 1 * n / 18446744073709551616 = 0 := by omega
  have e2 : 1 * n % 18446744073709551616 = n := by omega
  rw [e1, e2] at hmul
  conv => whnf
  refine Br.dec (fun h => absurd h (by omega)) (fun h => ?_)
  conv => whnf
  rw [hw]
  refine hmul.go rfl ?_
  conv => whnf
  refine Br.dec (fun h2 => absurd h2 (by omega)) (fun h2 => ?_)
  conv => whnf
  rw [hw2]
  refine ⟨⟨by omega, by omega⟩, rfl, ?_⟩
  conv => whnf
  refine ⟨rfl, ?_⟩
  conv => whnf
  refine ⟨⟨rfl, rfl⟩, ?_⟩
  conv => whnf
  refine SW.loopR (α := Nat) (fun m => tm 48 [(7, .own 0 0 0 n), (8, .g (.i m))]) (fun m => [.arr 0 1 (List.replicate m (V.g (.b true)) ++ List.replicate (n - m) (V.g (.b false)))]) (fun m => 1 ≤ m ∧ m ≤ n) (fun m => n - m) 1 ?_ ?_ ?_
  · exact ⟨Nat.le_refl _, h0⟩
  · refine Refi.sub ?_ ?_
    · have : min 1 n = 1 := by omega
      simp [this]
    · have : min 1 n = 1 := by omega
      simp [subT, subV, tm, tmGo, this]
  · rintro m ⟨hm1, hm2⟩
    dsimp only at hm1 hm2 ⊢
    conv => whnf
    refine Br.dec (fun h => ?_) (fun h => ?_)
    · conv => whnf
      refine ⟨rfl, ?_⟩
      conv => whnf
      refine ⟨⟨by omega, by omega, by omega⟩, ?_⟩
      conv => whnf
      refine ⟨rfl, ?_⟩
      conv => whnf
      refine ⟨⟨by omega, by omega, by omega⟩, ?_⟩
      conv => whnf
      refine ⟨⟨rfl, by simp, rfl⟩, ?_⟩
      conv => whnf
      refine ⟨⟨rfl, rfl⟩, ?_⟩
      conv => whnf
      have hy : (((List.replicate m (V.g (.b true)) ++ List.replicate (n - m) (V.g (.b false))).drop (0 + Int.toNat 0)).take ((m : Int).toNat - Int.toNat 0)) = List.replicate m (V.g (.b true)) := by simp
      rw [hy]
      have hmn : min (List.replicate m (V.g (T.b true))).length ((n : Int).toNat - (m : Int).toNat) = min m (n - m) := by simp
      rw [hmn]
      refine ⟨in64 (by omega) (by omega), ?_⟩
      conv => whnf
      refine ⟨⟨m + min m (n - m), ⟨by omega, by omega⟩, by omega, Refi.sub ?_ ?_⟩⟩
      · have hk : min m (n - m) ≤ m ∧ min m (n - m) ≤ n - m := by omega
        generalize min m (n - m) = k at hk
        rw [show 0 + (m : Int).toNat = m from by simp, List.take_append_of_le_length (by simp), List.take_replicate, Nat.min_self, List.take_replicate, Nat.min_eq_left hk.1, List.drop_append, List.drop_replicate, List.drop_replicate, List.length_replicate,
          show m - (m + k) = 0 from by omega, List.replicate_zero, List.nil_append, List.replicate_append_replicate, show n - m - (m + k - m) = n - (m + k) from by omega]
      · simp [subT, subV, tm, tmGo]
    · conv => whnf
      have : m = n := by omega
      subst this
      refine ⟨Ends.ground (H := []) (L := [_]) (t := tbools (List.replicate m true)) 1 ?_ ⟨rfl, rfl⟩⟩
      have e : (List.replicate m (V.g (.b true)) ++ List.replicate (m - m) (V.g (.b false))) = (List.replicate m true).map fun b => V.g (.b b) := by simp
      rw [e]
      exact gr_own (e := T.b) rfl (Nat.le_refl _) (by simp) fun x _ => gr_g

theorem c_live_New (n : Nat) (hn : n ≤ 64) (h0 : 0 < n) : CG Try.prog 97 [.i n] (tbools (List.replicate n true)) := by
  refine ⟨k_live_New.calls ?_⟩
  have hr := c_slices_Repeat n hn h0
  obtain ⟨i, hi⟩ : ∃ i : Int, i = n := ⟨_, rfl⟩
  rw [← hi] at hr ⊢
  conv => whnf
  refine Br.dec (fun h => absurd h (by omega)) (fun h => ?_)
  conv => whnf
  refine Br.dec (fun h2 => absurd h2 (by omega)) (fun h2 => ?_)
  conv => whnf
  refine ⟨by repeat (first | exact trivial | refine ⟨⟨rfl, rfl⟩, ?_⟩), ?_⟩
  conv => whnf
  refine hr.go rfl ?_
  conv => whnf
  exact ⟨Ends.keep ⟨rfl, rfl⟩⟩
end Go.Aw
namespace Go.Aw
open Go.Proofs
set_option maxRecDepth 100000

theorem same_true {a b : List Po} (hl : a.length < 1000000000) (hp : ∀ p ∈ a, p.2.length < 1000000000) (e : a = b) : CG Try.prog 72 [tposts a, tposts b] (.b true) := by
  have := c_ref06_Same a b hl hp
  rwa [decide_eq_true e] at this

theorem c_law17_awake : CG Try.prog 47 [] (.b true) := by
  refine ⟨k_law17_awake.calls ?_⟩
  have e1 : nearL [[(3, [0, 4])], [(3, [1, 9])]] = [(3, [0])] := by decide
  have e3 : (if mayP [(3, [0, 4])] = true then docsL [(3, [0, 4])] else []) = [3] := by decide
  have e5 : (if mayP [(3, [0, 4])] = true then [((3 : Int), ([0, 4] : List Int))].map fun p => (p.2.length : Int) else []) = [2] := by decide
  have e9 : aliveL [(3, [0, 4])] (List.replicate 4 true) = [(3, [0, 4])] := by decide
  have e10 : aliveL [(3, [0, 4])] (List.replicate 3 true) = [] := by decide
  have c1 := c_phrase_Near [[(3, [0, 4])], [(3, [1, 9])]] (by decide) (by decide) (by decide)
  have c2 := same_true (a := [(3, [0])]) (by decide) (by decide) rfl
  have c3 := c_phrase_Docs [(3, [0, 4])] (by decide) (by decide)
  have c4 := ints_same [3] [3] (by decide) rfl
  have c5 := c_phrase_Free [(3, [0, 4])] (by decide) (by decide)
  have c6 := ints_same [2] [2] (by decide) rfl
  have c7 := c_live_New 4 (by decide) (by decide)
  have c8 := c_live_New 3 (by decide) (by decide)
  have c9 := c_phrase_Alive [(3, [0, 4])] (List.replicate 4 true) (by decide) (by decide) (by decide)
  have c10 := c_phrase_Alive [(3, [0, 4])] (List.replicate 3 true) (by decide) (by decide) (by decide)
  rw [e1] at c1; rw [e3] at c3; rw [e5] at c5; rw [e9] at c9; rw [e10] at c10
  conv => whnf
  repeat ((first | refine (c1).go rfl ?_ | refine (c2).go rfl ?_ | refine (c3).go rfl ?_ | refine (c4).go rfl ?_ | refine (c5).go rfl ?_ | refine (c6).go rfl ?_ | refine (c7).go rfl ?_ | refine (c8).go rfl ?_ | refine (c9).go rfl ?_ | refine (c10).go rfl ?_ | refine And.intro (show cellsAll _ _ from by repeat (first | exact trivial | refine ⟨⟨rfl, rfl⟩, ?_⟩)) ?_); conv => whnf)
  exact ⟨Ends.keep ⟨rfl, rfl⟩⟩

end Go.Aw
namespace Go.Aw
open Go.Proofs
set_option maxRecDepth 100000

theorem ats_spec {one : List Po} {d : Int} (h : mayP one = true) (hd : foundN (docsL one) d = true) : ∃ p ∈ one, p.1 = d ∧ atsOf one d = p.2 ∧ ∀ q ∈ one, q.1 = d → q = p := by
  unfold foundN at hd
  cases hq : (docsL one)[fromN (docsL one) 0 d]? with
  | none => rw [hq] at hd; cases hd
  | some y =>
    rw [hq] at hd
    have hlt : fromN (docsL one) 0 d < one.length := by have := lt_of_get hq; rwa [docs_len] at this
    have hy : one[fromN (docsL one) 0 d].1 = d := by
      have e : (docsL one)[fromN (docsL one) 0 d]? = some one[fromN (docsL one) 0 d].1 := by
        show (one.map (·.1))[fromN (docsL one) 0 d]? = _
        rw [List.getElem?_map, List.getElem?_eq_getElem hlt]; rfl
      rw [hq] at e
      cases e
      simpa using hd
    refine ⟨one[fromN (docsL one) 0 d], List.getElem_mem _, hy, by simp [atsOf, hlt], fun q hq1 hq2 => ?_⟩
    obtain ⟨j, hj, rfl⟩ := List.getElem_of_mem hq1
    have hr := (rise_ge (risE_ge (mayP_docs h).2).1).2
    have hget : ∀ (k : Nat) (h : k < one.length), (docsL one)[k]'(by rw [docs_len]; exact h) = one[k].1 := fun k h => by simp [docsL]
    have : j = fromN (docsL one) 0 d := by
      rcases Nat.lt_trichotomy j (fromN (docsL one) 0 d) with h1 | h1 | h1
      · have := hr j _ h1 (by rw [docs_len]; exact hlt)
        rw [hget j hj, hget _ hlt] at this; omega
      · exact h1
      · have := hr _ j h1 (by rw [docs_len]; exact hj)
        rw [hget j hj, hget _ hlt] at this; omega
    subst this; rfl

theorem stands_iff {one : List Po} {d x : Int} (h : mayP one = true) (hd : foundN (docsL one) d = true) : standsL one d x = true ↔ x ∈ atsOf one d := by
  obtain ⟨p, hp, h1, h2, h3⟩ := ats_spec h hd
  rw [h2, standsL, List.any_eq_true]
  constructor
  · rintro ⟨q, hq, h4⟩
    simp only [Bool.and_eq_true, decide_eq_true_eq] at h4
    rw [← h3 q hq h4.1]; exact h4.2
  · intro h4
    exact ⟨p, hp, by simp only [Bool.and_eq_true, decide_eq_true_eq]; exact ⟨h1, h4⟩⟩
theorem stands_doc {one : List Po} {d x : Int} (h : standsL one d x = true) : d ∈ docsL one := by
  rw [standsL, List.any_eq_true] at h
  obtain ⟨q, hq, h4⟩ := h
  simp only [Bool.and_eq_true, decide_eq_true_eq] at h4
  exact h4.1 ▸ List.mem_map_of_mem hq
theorem refA_iff {l : List (List Po)} {d p : Nat} : refA l d p = true ↔ ∀ (k : Nat) (h : k < l.length), standsL l[k] d ((p : Int) + k) = true := by
  rw [refA, List.all_eq_true]
  constructor
  · intro h k hk
    exact h (l[k], k) (by rw [List.mem_zipIdx_iff_getElem?]; simp [hk])
  · rintro h ⟨one, k⟩ hx
    rw [List.mem_zipIdx_iff_getElem?] at hx
    have hk := lt_of_get hx
    have := h k hk
    rw [List.getElem?_eq_getElem hk] at hx
    have e : l[k] = one := by simpa using hx
    rw [e] at this
    exact this
theorem refAt_rises {l : List (List Po)} {d n : Nat} : Rises (refAt l d n) := by
  unfold refAt
  refine List.Pairwise.map _ (fun a b h => ?_) (List.Pairwise.filter _ List.pairwise_lt_range)
  omega
theorem mem_refAt {l : List (List Po)} {d n : Nat} {x : Int} : x ∈ refAt l d n ↔ ∃ p : Nat, p < n ∧ refA l d p = true ∧ (p : Int) = x := by
  simp [refAt, and_assoc]
theorem mem_stF {a : Int} {xs : List Int} {x : Int} : x ∈ stF a xs ↔ a ≤ x + a ∧ x + a ∈ xs := by
  simp only [stF, List.mem_map, List.mem_filter, decide_eq_true_eq]
  constructor
  · rintro ⟨y, ⟨h1, h2⟩, rfl⟩
    have : y - a + a = y := by omega
    rw [this]; exact ⟨h2, h1⟩
  · rintro ⟨h1, h2⟩
    exact ⟨x + a, ⟨h2, h1⟩, by omega⟩
theorem stF_may {a : Int} {xs : List Int} (h0 : 0 ≤ a) (h : risE 120 (-1) xs = true) : mayL (stF a xs) = true := by
  have h1 := risE_ge h
  rw [mayL_iff]
  refine ⟨?_, fun x hx => ?_, ?_⟩
  · have hr := (rise_iff.1 h1.1).1
    exact List.Pairwise.map _ (fun x y h => by omega) (List.Pairwise.filter _ hr)
  · have := (mem_stF.1 hx).1; omega
  · have h2 := stF_len (a := a) (xs := xs)
    have h3 := risE_len (by omega) h
    omega

theorem mem_within {l : List (List Po)} {d x : Int} : (∀ w ∈ withinL l d, x ∈ w) ↔ ∀ (k : Nat) (h : k < l.length), x ∈ stF k (atsOf l[k] d) := by
  constructor
  · intro h k hk
    rw [← withinL_get hk]
    exact h _ (List.getElem_mem _)
  · intro h w hw
    obtain ⟨k, hk, rfl⟩ := List.getElem_of_mem hw
    rw [withinL_len] at hk
    rw [withinL_get hk]
    exact h k hk
theorem within_may {l : List (List Po)} {d : Int} (hall : l.all mayP = true) : (withinL l d).all mayL = true := by
  rw [List.all_eq_true] at hall ⊢
  intro w hw
  obtain ⟨k, hk, rfl⟩ := List.getElem_of_mem hw
  rw [withinL_len] at hk
  rw [withinL_get hk]
  refine stF_may (by omega) ?_
  unfold atsOf
  split
  · rename_i p hp; exact (mayP_ok (hall _ (List.getElem_mem hk)) p (List.mem_of_getElem? hp)).2.2
  · rfl

theorem near_at {l : List (List Po)} {d : Nat} (hall : l.all mayP = true) (hn : l ≠ []) (hd : ∀ one ∈ l, foundN (docsL one) d = true) : refAt l d 120 = andL (withinL l d) := by
  have hall' := List.all_eq_true.1 hall
  have hw := within_may (d := d) hall
  have hwn : withinL l d ≠ [] := fun e => hn (List.eq_nil_of_length_eq_zero (by rw [← withinL_len (doc := (d : Int)), e]; rfl))
  refine rises_ext refAt_rises (mayL_iff.1 (andL_may hw)).1 fun x => ?_
  rw [mem_refAt, andL_mem hwn hw, mem_within]
  constructor
  · rintro ⟨p, _, h2, rfl⟩ k hk
    have := refA_iff.1 h2 k hk
    rw [stands_iff (hall' _ (List.getElem_mem hk)) (hd _ (List.getElem_mem hk))] at this
    exact mem_stF.2 ⟨by omega, this⟩
  · intro h
    have h0 : 0 < l.length := List.length_pos_iff.2 hn
    have hm0 := hall' _ (List.getElem_mem h0)
    have h1 := (mem_stF.1 (h 0 h0)).2
    have hx : 0 ≤ x ∧ x < 120 := by
      obtain ⟨p, hp, _, h3, _⟩ := ats_spec hm0 (hd _ (List.getElem_mem h0))
      rw [h3] at h1
      have := (risE_ge (mayP_ok hm0 p hp).2.2).2 _ h1
      omega
    refine ⟨x.toNat, by omega, refA_iff.2 fun k hk => ?_, by omega⟩
    rw [stands_iff (hall' _ (List.getElem_mem hk)) (hd _ (List.getElem_mem hk))]
    have := (mem_stF.1 (h k hk)).2
    rw [show ((x.toNat : Nat) : Int) + k = x + k from by omega]
    exact this

theorem filterMap_congr' {α β : Type} {f g : α → Option β} : ∀ {l : List α}, (∀ x ∈ l, f x = g x) → l.filterMap f = l.filterMap g
  | [], _ => rfl
  | x :: l, h => by
    have ih := filterMap_congr' (f := f) (g := g) (l := l) fun y hy => h y (List.mem_cons_of_mem _ hy)
    rw [List.filterMap_cons, List.filterMap_cons, h x List.mem_cons_self, ih]

theorem near_ref (l : List (List Po)) : nearL l = refNear l := by
  by_cases hall : l.all mayP = true
  · by_cases hn : l = []
    · subst hn; rw [refNear, if_neg (fun h => h.2 rfl)]; rfl
    · rw [nearL, if_pos hall, refNear, if_pos ⟨hall, hn⟩]
      have hall' := List.all_eq_true.1 hall
      have had := all_docs hall
      have hdn : l.map docsL ≠ [] := by simpa using hn
      have h0 : 0 < l.length := List.length_pos_iff.2 hn
      have hfound : ∀ {d : Int}, d ∈ andL (l.map docsL) → ∀ one ∈ l, foundN (docsL one) d = true := fun hd one ho =>
        (found_mem (risE_mono (mayP_docs (hall' one ho)).2)).2 ((andL_mem hdn had _).1 hd _ (List.mem_map_of_mem ho))
      have e : andL (l.map docsL) = ((List.range 64).filter fun d : Nat => decide ((d : Int) ∈ andL (l.map docsL))).map fun d : Nat => (d : Int) := by
        refine rises_ext (mayL_iff.1 (andL_may had)).1 (List.Pairwise.map _ (fun a b h => by omega) (List.Pairwise.filter _ List.pairwise_lt_range)) fun x => ?_
        simp only [List.mem_map, List.mem_filter, List.mem_range, decide_eq_true_eq]
        constructor
        · intro hx
          have := (andL_mem hdn had x).1 hx (docsL l[0]) (List.mem_map_of_mem (List.getElem_mem h0))
          obtain ⟨p, hp, rfl⟩ := List.mem_map.1 this
          have := mayP_doc (hall' _ (List.getElem_mem h0)) p hp
          exact ⟨p.1.toNat, ⟨by omega, by rw [show ((p.1.toNat : Nat) : Int) = p.1 from by omega]; exact hx⟩, by omega⟩
        · rintro ⟨d, ⟨_, h⟩, rfl⟩; exact h
      rw [e, List.filterMap_map, List.filterMap_filter]
      refine filterMap_congr' fun d _ => ?_
      by_cases hd : (d : Int) ∈ andL (l.map docsL)
      · rw [decide_eq_true hd, if_pos rfl]
        show nearF l d = refF l d
        rw [nearF, refF, near_at hall hn (hfound hd)]
      · rw [decide_eq_false hd, if_neg (by simp), refF, if_pos]
        cases hz : refAt l d 120 with
        | nil => rfl
        | cons x r =>
          exfalso
          obtain ⟨p, _, hp, _⟩ := mem_refAt.1 (by rw [hz]; exact List.mem_cons_self : x ∈ refAt l d 120)
          refine hd ((andL_mem hdn had _).2 fun w hw => ?_)
          obtain ⟨one, ho, rfl⟩ := List.mem_map.1 hw
          obtain ⟨k, hk, rfl⟩ := List.getElem_of_mem ho
          exact stands_doc (refA_iff.1 hp k hk)
  · rw [nearL, if_neg hall, refNear, if_neg (fun h => hall h.1)]

theorem near_len {l : List (List Po)} : (refNear l).length ≤ 64 := by
  unfold refNear; split
  · exact refO_len
  · simp
theorem near_ats {l : List (List Po)} {p : Po} (h : p ∈ refNear l) : p.2.length ≤ 120 := by
  unfold refNear at h; split at h
  · obtain ⟨d, _, hd⟩ := List.mem_filterMap.1 h
    unfold refF at hd
    split at hd
    · cases hd
    · cases hd; exact refAt_len
  · simp at h

end Go.Aw
namespace Go.Aw
open Go.Proofs
set_option maxRecDepth 100000

theorem risE_iff {e l : Int} {xs : List Int} : risE e l xs = true ↔ Rises xs ∧ ∀ x ∈ xs, l < x ∧ x < e := by
  constructor
  · intro h
    have h1 := risE_ge h
    exact ⟨(rise_iff.1 h1.1).1, h1.2⟩
  · rintro ⟨h1, h2⟩
    induction xs generalizing l with
    | nil => rfl
    | cons x r ih =>
      have hr := List.pairwise_cons.1 h1
      have hx := h2 x (by simp)
      rw [risE, decide_eq_true hx.1, decide_eq_true hx.2, ih hr.2 (fun y hy => ⟨hr.1 y hy, (h2 y (by simp [hy])).2⟩)]; rfl
theorem mayP_iff {l : List Po} : mayP l = true ↔ (∀ p ∈ l, okP p = true) ∧ l.length ≤ 64 ∧ Rises (docsL l) ∧ ∀ x ∈ docsL l, -1 < x ∧ x < 64 := by
  rw [mayP_eq, Bool.and_eq_true, Bool.and_eq_true, List.all_eq_true, decide_eq_true_eq, risE_iff, and_assoc]
theorem find_cases {l : List Po} (doc : Int) (hm : mayP l = true) : (∃ (i : Nat) (hi : i < l.length), findP l doc = i ∧ l[i].1 = doc) ∨ (findP l doc = -1 ∧ ∀ p ∈ l, p.1 ≠ doc) := by
  have hmono := risE_mono (mayP_docs hm).2
  by_cases hx : doc ∈ docsL l
  · left
    have hf := (found_mem hmono).2 hx
    obtain ⟨p, hp, rfl⟩ := List.mem_map.1 hx
    have hb := mayP_doc hm p hp
    have hf0 := hf
    unfold foundN at hf
    cases hq : (docsL l)[fromN (docsL l) 0 p.1]? with
    | none => rw [hq] at hf; cases hf
    | some y =>
      rw [hq] at hf
      have hlt : fromN (docsL l) 0 p.1 < l.length := by have := lt_of_get hq; rwa [docs_len] at this
      refine ⟨_, hlt, by rw [findP, if_pos ⟨hm, hb.1, hb.2, hf0⟩], ?_⟩
      have e : (docsL l)[fromN (docsL l) 0 p.1]? = some l[fromN (docsL l) 0 p.1].1 := by
        show (l.map (·.1))[fromN (docsL l) 0 p.1]? = _
        rw [List.getElem?_map, List.getElem?_eq_getElem hlt]; rfl
      rw [hq] at e
      cases e
      simpa using hf
  · right
    refine ⟨?_, fun p hp e => hx (e ▸ List.mem_map_of_mem hp)⟩
    rw [findP, if_neg]
    rintro ⟨_, _, _, h⟩
    exact hx ((found_mem hmono).1 h)
theorem doc_inj {l : List Po} (hm : mayP l = true) {i j : Nat} (hi : i < l.length) (hj : j < l.length) (e : l[i].1 = l[j].1) : i = j := by
  have hr := (rise_ge (risE_ge (mayP_docs hm).2).1).2
  have hget : ∀ (k : Nat) (h : k < l.length), (docsL l)[k]'(by rw [docs_len]; exact h) = l[k].1 := fun k h => by simp [docsL]
  rcases Nat.lt_trichotomy i j with h1 | h1 | h1
  · have := hr i j h1 (by rw [docs_len]; exact hj)
    rw [hget i hi, hget j hj] at this; omega
  · exact h1
  · have := hr j i h1 (by rw [docs_len]; exact hi)
    rw [hget i hi, hget j hj] at this; omega
end Go.Aw
