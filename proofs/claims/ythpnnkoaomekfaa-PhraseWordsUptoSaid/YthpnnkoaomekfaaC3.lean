/- Contracts of functions of the given program, by the abstract walk, for law PhraseWordsUpto: what each one hands back; no condition but those that each theorem states. -/
import Derived.Test.YthpnnkoaomekfaaC0
import Derived.Test.YthpnnkoaomekfaaI1
namespace Go.Aw
open Go.Proofs
set_option maxRecDepth 100000

/- where words stand one behind the other, in a document -/
def atsOf (one : List Po) (doc : Int) : List Int := match one[fromN (docsL one) 0 doc]? with
  | some p => p.2
  | none => []
def withinL (l : List (List Po)) (doc : Int) : List (List Int) := l.zipIdx.map fun p => stF p.2 (atsOf p.1 doc)
theorem withinL_len {l : List (List Po)} {doc : Int} : (withinL l doc).length = l.length := by simp [withinL]
theorem withinL_get {l : List (List Po)} {doc : Int} {k : Nat} (h : k < l.length) : (withinL l doc)[k]'(by rw [withinL_len]; exact h) = stF k (atsOf l[k] doc) := by simp [withinL]
theorem stF_len {a : Int} {xs : List Int} : (stF a xs).length ≤ xs.length := by simp [stF]; exact List.length_filter_le _ _

def boxC (pre : List SV) : V := match pre with
  | [] => .nil 1
  | _ :: r => .own 2 r.length 0 (r.length + 1)
def blkC (pre : List SV) : List Blk := match pre with
  | [] => []
  | x :: r => [.arr r.length 1 ((x :: r).map fun x => V.g (.sc x.1))]
theorem boxC_gr (A : Blk) (zl : List Int) : gr 2 ([A, .arr 0 1 [boxC (zl.map sv)]] ++ blkC (zl.map sv)) 1 (boxC (zl.map sv)) = some (tints zl) := by
  cases zl with
  | nil => rfl
  | cons x r =>
    show gr 2 _ 1 (.own 2 (r.map sv).length 0 ((r.map sv).length + 1)) = _
    have := gr_own (n := 2) (d := 0) (b := 2) (g := (r.map sv).length) (sz := 1) (len := (r.map sv).length + 1) (h := [A, .arr 0 1 [boxC ((x :: r).map sv)]] ++ blkC ((x :: r).map sv)) (l := (x :: r).map sv) (f := fun x => V.g (.sc x.1)) (e := fun x => .sc x.1) rfl (Nat.le_refl _) (by simp) (fun x _ => gr_g)
    rw [this, tints, List.map_map]; rfl

theorem c_phrase_within (l : List (List Po)) (doc : Int) (hl : l.length < 1000000) (hmay : ∀ one ∈ l, mayP one = true) (hf : ∀ one ∈ l, foundN (docsL one) doc = true) (h2 : 0 ≤ doc) (h3 : doc < 64) :
    CG Try.prog 100 [.sl 1 (l.map tposts), .i doc] (tints (andL (withinL l doc))) := by
  refine ⟨k_phrase_within.calls ?_⟩
  have hm : (l.map tposts).length = l.length := by simp
  conv => whnf
  refine SW.loopR (α := Nat) (fun k => tm 37 [(0, .g (.sl 1 (l.map tposts))), (1, .g (.i doc)), (5, .own 0 k 0 k), (10, .g (.sl 1 (l.map tposts))), (11, .g (.i l.length)), (12, .g (.i k))]) (fun k => [.arr k 1 (((withinL l doc).take k).map fun p => V.g (tints p))]) (fun k => k ≤ l.length) (fun k => l.length - k) 0 ?_ ?_ ?_
  · exact Nat.zero_le _
  · exact (Refi.valloc 5 1 rfl).trans (Refi.sub rfl (by simp [subT, subV, tm, tmGo, setT]))
  · intro k hk
    dsimp only at hk ⊢
    conv => whnf
    refine Br.dec (fun h => ?_) (fun h => ?_)
    · conv => whnf
      refine ⟨by simp; omega, rfl, ?_⟩
      conv => whnf
      refine ⟨_, getZ (by omega), ?_⟩
      conv => whnf
      have hk' : k < l.length := by omega
      have hmk := hmay _ (List.getElem_mem hk')
      have hfk := hf _ (List.getElem_mem hk')
      have hok := mayP_ok hmk
      have hlk := (mayP_docs hmk).1
      obtain ⟨p, hp, hpa⟩ : ∃ p, l[k][fromN (docsL l[k]) 0 doc]? = some p ∧ atsOf l[k] doc = p.2 := by
        unfold foundN at hfk
        cases hq : (docsL l[k])[fromN (docsL l[k]) 0 doc]? with
        | none => rw [hq] at hfk; cases hfk
        | some y =>
          have hlt : fromN (docsL l[k]) 0 doc < l[k].length := by have := lt_of_get hq; rwa [docs_len] at this
          exact ⟨l[k][fromN (docsL l[k]) 0 doc], by simp [hlt], by simp [atsOf, hlt]⟩
      have hpo := hok p (List.mem_of_getElem? hp)
      have hplt := lt_of_get hp
      refine ⟨rfl, ?_⟩
      conv => whnf
      refine (c_post_Find l[k] doc (by omega) (fun q hq => by have := hok q hq; omega)).go rfl ?_
      conv => whnf
      have hfind : findP l[k] doc = (fromN (docsL l[k]) 0 doc : Nat) := by rw [findP, if_pos ⟨hmk, h2, h3, hfk⟩]
      rw [hfind]
      generalize fromN (docsL l[k]) 0 doc = i at hp hplt
      refine ⟨by simp; omega, rfl, ?_⟩
      conv => whnf
      refine ⟨tpost p, by simp [hp], ?_⟩
      conv => whnf
      refine (c_phrase_starts p k).go rfl ?_
      conv => whnf
      have hats := risE_ge hpo.2.2
      refine SW.rfD ((stF k p.2).map sv) rfl (g_starts p.2 k (.i p.1) (by omega) (by omega) (fun x hx => by have := hats.2 x hx; omega) (by omega) rfl) (by simp)
        (fun pre => [.arr k 1 (((withinL l doc).take k).map fun p => V.g (tints p)), .arr 0 1 [boxC pre]] ++ blkC pre) ?hm rfl ?hr 1 [_, _]
        [.arr k 1 (((withinL l doc).take k).map fun p => V.g (tints p)), .arr 0 1 [.g (tints (stF k p.2))]] (blkC ((stF k p.2).map sv)) rfl (Nat.zero_le _) ⟨.inl ⟨rfl, Blk.lt_gs⟩, .inr ⟨0, 1, [_], [tints (stF k p.2)], rfl, rfl, ?hgr⟩, trivial⟩ ?hq
      case hm =>
        intro pre
        refine noMp_app (noMp_cons (noMp_cons noMp_nil)) ?_
        cases pre with
        | nil => exact noMp_nil
        | cons x r => exact noMp_cons noMp_nil
      case hgr =>
        show optL [gr 2 _ 1 (boxC ((stF k p.2).map sv))] = _
        rw [boxC_gr]; rfl
      case hr =>
        intro pre y hlt
        have hst : ((stF k p.2).map sv).length ≤ 120 := by have := stF_len (a := k) (xs := p.2); simp; omega
        cases pre with
        | nil =>
          conv => whnf
          refine ⟨rfl, _, rfl, ?_⟩
          conv => whnf
          refine ⟨by repeat (first | exact trivial | refine ⟨⟨rfl, rfl⟩, ?_⟩), ?_⟩
          conv => whnf
          refine ⟨rfl, ?_⟩
          conv => whnf
          refine ⟨by simp, ?_⟩
          conv => whnf
          refine ⟨rfl, _, rfl, ⟨rfl, rfl, by decide⟩, ?_⟩
          conv => whnf
          exact ReH.refl _
        | cons x r =>
          have hrl : r.length < 120 := by simp only [List.length_cons] at hlt; omega
          conv => whnf
          refine ⟨rfl, _, rfl, ?_⟩
          conv => whnf
          refine ⟨by repeat (first | exact trivial | refine ⟨⟨rfl, rfl⟩, ?_⟩), ?_⟩
          conv => whnf
          refine ⟨rfl, ?_⟩
          conv => whnf
          refine ⟨by simp; omega, ⟨rfl, rfl, rfl⟩, _, ⟨[], (List.append_nil _).symm⟩, by simp, ?_⟩
          conv => whnf
          refine ⟨rfl, _, rfl, ⟨rfl, rfl, by decide⟩, ?_⟩
          conv => whnf
          have e : ∀ h1 h2 : List Blk, h1 = h2 → ReH 2 h1 h2 := fun h1 h2 e => e ▸ ReH.refl _
          refine e _ _ ?_
          simp [blkC, boxC]
          rfl
      case hq =>
        intro t' ht
        simp [cutV, ltB, ltS] at ht
        subst ht
        conv => whnf
        refine ⟨rfl, _, rfl, ?_⟩
        conv => whnf
        refine ⟨by repeat (first | exact trivial | refine ⟨⟨rfl, rfl⟩, ?_⟩), ?_⟩
        conv => whnf
        refine ⟨rfl, ?_⟩
        conv => whnf
        have hwk : withinL l doc = (withinL l doc) := rfl
        have htk : (withinL l doc).take (k + 1) = (withinL l doc).take k ++ [stF k p.2] := by
          rw [List.take_succ_eq_append_getElem (by rw [withinL_len]; exact hk'), withinL_get hk', hpa]
        refine ⟨by simp; omega, ⟨rfl, rfl, rfl⟩, _, ⟨[], (List.append_nil _).symm⟩, by simp [withinL_len]; omega, ?_⟩
        conv => whnf
        refine ⟨in64 (by omega) (by omega), ?_⟩
        conv => whnf
        refine ⟨⟨k + 1, hk', by omega, Refi.back (L := [.arr 0 1 [.g (tints (stF k p.2))]]) ?_ (Nat.zero_le _) (lt_all1 Blk.lt_gs) ?_⟩⟩
        · rw [htk, List.map_append]; rfl
        · simp [subT, subV, tm, tmGo, cutV, ltB, ltS]
    · conv => whnf
      have : k = l.length := by omega
      subst this
      have hw : (withinL l doc).take l.length = withinL l doc := List.take_of_length_le (by rw [withinL_len]; exact Nat.le_refl _)
      rw [hw]
      have hls : ∀ x ∈ withinL l doc, x.length < 1000000000 := fun x hx => by
        obtain ⟨i, hi, rfl⟩ := List.getElem_of_mem hx
        rw [withinL_len] at hi
        rw [withinL_get hi]
        have h5 := stF_len (a := i) (xs := atsOf l[i] doc)
        have h6 : (atsOf l[i] doc).length ≤ 120 := by
          unfold atsOf
          split
          · rename_i p hp; exact (mayP_ok (hmay _ (List.getElem_mem hi)) p (List.mem_of_getElem? hp)).2.1
          · simp
        omega
      refine (c_lists_And (withinL l doc) (by rw [withinL_len]; omega) hls).give 0 1 (noMp_cons noMp_nil) ?_ ?_
      · have hg : gr 0 [Blk.arr l.length 1 ((withinL l doc).map fun p => V.g (tints p))] 1 (.own 0 l.length 0 l.length) = some (intss (withinL l doc)) :=
          gr_own (l := withinL l doc) (e := tints) rfl (Nat.le_refl _) withinL_len.symm fun x _ => gr_g
        show optL [gr 0 [Blk.arr l.length 1 ((withinL l doc).map fun p => V.g (tints p))] 1 (.own 0 l.length 0 l.length)] = some [intss (withinL l doc)]
        rw [hg]; rfl
      · conv => whnf
        exact ⟨Ends.ground (H := []) (L := [_]) 0 rfl ⟨rfl, rfl⟩⟩
end Go.Aw
namespace Go.Aw
open Go.Proofs
set_option maxRecDepth 100000

theorem found_mem {xs : List Int} {x : Int} (hs : Mono xs) : foundN xs x = true ↔ x ∈ xs := by
  have h := fromN_is xs x _ rfl (Nat.zero_le _)
  unfold foundN
  constructor
  · intro h1
    split at h1
    · rename_i y hy
      rw [beq_iff_eq] at h1
      subst h1
      exact List.mem_of_getElem? hy
    · cases h1
  · intro hx
    obtain ⟨i, hi, rfl⟩ := List.getElem_of_mem hx
    have hle : fromN xs 0 xs[i] ≤ i := by
      rcases Nat.lt_or_ge i (fromN xs 0 xs[i]) with hlt | hge
      · have := h.lo i hi (Nat.zero_le _) hlt; omega
      · exact hge
    have hlt : fromN xs 0 xs[i] < xs.length := by omega
    have h2 := h.hi hlt
    rw [List.getElem?_eq_getElem hlt]
    simp only [beq_iff_eq]
    rcases Nat.lt_or_ge (fromN xs 0 xs[i]) i with h3 | h3
    · have := hs _ i h3 hi; omega
    · have : fromN xs 0 xs[i] = i := by omega
      simp only [this]

theorem docs_mayL {l : List Po} (h : mayP l = true) : mayL (docsL l) = true := by
  rw [mayL, (risE_ge (mayP_docs h).2).1, docs_len]
  have := (mayP_docs h).1
  simp; omega
theorem all_docs {l : List (List Po)} (h : l.all mayP = true) : (l.map docsL).all mayL = true := by
  rw [List.all_eq_true] at h ⊢
  intro x hx
  obtain ⟨y, hy, rfl⟩ := List.mem_map.1 hx
  exact docs_mayL (h y hy)

def nearF (l : List (List Po)) (doc : Int) : Option Po := if andL (withinL l doc) = [] then none else some (doc, andL (withinL l doc))
/-- where words stand one behind the other -/
def nearL (l : List (List Po)) : List Po := if l.all mayP = true then (andL (l.map docsL)).filterMap (nearF l) else []
theorem filterMap_take {α β : Type} {f : α → Option β} {l : List α} {k : Nat} (h : k < l.length) : (l.take (k + 1)).filterMap f = (l.take k).filterMap f ++ (match f l[k] with | some y => [y] | none => []) := by
  rw [List.take_succ_eq_append_getElem h, List.filterMap_append]
  congr 1
  cases hf : f l[k] <;> simp [hf]
theorem filterMap_le {α β : Type} {f : α → Option β} {l : List α} {k : Nat} : ((l.take k).filterMap f).length ≤ l.length :=
  Nat.le_trans (List.length_filterMap_le _ _) (by simp; omega)

theorem c_phrase_Near (l : List (List Po)) (hl : l.length < 1000000) (hs : ∀ one ∈ l, one.length < 1000000000) (hp : ∀ one ∈ l, ∀ p ∈ one, p.2.length < 1000000000) :
    CG Try.prog 48 [.sl 1 (l.map tposts)] (tposts (nearL l)) := by
  refine ⟨k_phrase_Near.calls ?_⟩
  have hm : (l.map tposts).length = l.length := by simp
  conv => whnf
  refine SW.loopR (α := Nat) (fun k => tm 46 [(0, .g (.sl 1 (l.map tposts))), (3, .own 0 k 0 k), (10, .g (.sl 1 (l.map tposts))), (11, .g (.i l.length)), (12, .g (.i k))]) (fun k => [.arr k 1 ((l.take k).map fun p => V.g (tints (docsL p)))]) (fun k => k ≤ l.length ∧ (l.take k).all mayP = true) (fun k => l.length - k) 0 ?_ ?_ ?_
  · exact ⟨Nat.zero_le _, rfl⟩
  · exact (Refi.valloc 3 1 rfl).trans (Refi.sub rfl (by simp [subT, subV, tm, tmGo, setT]))
  · rintro k ⟨hk, hall⟩
    dsimp only at hk hall ⊢
    conv => whnf
    refine Br.dec (fun h => ?_) (fun h => ?_)
    · conv => whnf
      refine ⟨by simp; omega, rfl, ?_⟩
      conv => whnf
      refine ⟨_, getZ (by omega), ?_⟩
      conv => whnf
      have hk' : k < l.length := by omega
      have htk : l.take (k + 1) = l.take k ++ [l[k]] := List.take_succ_eq_append_getElem hk'
      have hsk := hs _ (List.getElem_mem hk')
      refine (c_post_May l[k] hsk (hp _ (List.getElem_mem hk'))).go rfl ?_
      conv => whnf
      refine Br.not (fun h1 => ?_) (fun h1 => ?_)
      · conv => whnf
        refine ⟨Ends.ground (H := []) (L := [_]) 0 rfl ⟨?_, rfl⟩⟩
        have : l.all mayP = false := by rw [List.all_eq_false]; exact ⟨l[k], List.getElem_mem _, by simp [h1]⟩
        rw [nearL, this]; rfl
      · conv => whnf
        refine (c_phrase_docs l[k] hsk).go rfl ?_
        conv => whnf
        refine ⟨by repeat (first | exact trivial | refine ⟨⟨rfl, rfl⟩, ?_⟩), ?_⟩
        conv => whnf
        refine ⟨rfl, ?_⟩
        conv => whnf
        refine ⟨by simp; omega, ⟨rfl, rfl, rfl⟩, _, ⟨[], (List.append_nil _).symm⟩, by simp; omega, ?_⟩
        conv => whnf
        refine ⟨in64 (by omega) (by omega), ?_⟩
        conv => whnf
        refine ⟨⟨k + 1, ⟨hk', by rw [htk, List.all_append, hall]; simp [h1]⟩, by omega, Refi.sub ?_ ?_⟩⟩
        · rw [htk, List.map_append]; rfl
        · simp [subT, subV, tm, tmGo]
    · conv => whnf
      have : k = l.length := by omega
      subst this
      rw [List.take_length] at hall
      have hdl : ∀ x ∈ l.map docsL, x.length < 1000000000 := fun x hx => by
        obtain ⟨y, hy, rfl⟩ := List.mem_map.1 hx
        rw [docs_len]; exact hs y hy
      refine (c_lists_And (l.map docsL) (by simp; omega) hdl).give 0 1 (noMp_cons noMp_nil) ?_ ?_
      · have hg : gr 0 [Blk.arr l.length 1 ((l.take l.length).map fun p => V.g (tints (docsL p)))] 1 (.own 0 l.length 0 l.length) = some (intss (l.map docsL)) := by
          rw [List.take_length, intss, List.map_map]
          exact gr_own (l := l) (e := fun p => tints (docsL p)) rfl (Nat.le_refl _) rfl fun x _ => gr_g
        show optL [gr 0 [Blk.arr l.length 1 ((l.take l.length).map fun p => V.g (tints (docsL p)))] 1 (.own 0 l.length 0 l.length)] = some [intss (l.map docsL)]
        rw [hg]; rfl
      · conv => whnf
        have hds : nearL l = (andL (l.map docsL)).filterMap (nearF l) := by rw [nearL, if_pos hall]
        have hin : ∀ doc ∈ andL (l.map docsL), (∀ one ∈ l, foundN (docsL one) doc = true) ∧ 0 ≤ doc ∧ doc < 64 := fun doc hdoc => by
          rw [List.all_eq_true] at hall
          have hne : l ≠ [] := fun e => by subst e; simp [andL] at hdoc
          have hmem := (andL_mem (by simpa using hne) (all_docs (List.all_eq_true.2 hall)) doc).1 hdoc
          refine ⟨fun one ho => (found_mem (risE_mono (mayP_docs (hall one ho)).2)).2 (hmem _ (List.mem_map_of_mem ho)), ?_⟩
          cases l with
          | nil => exact absurd rfl hne
          | cons one r =>
            have := hmem (docsL one) (by simp)
            obtain ⟨p, hp1, rfl⟩ := List.mem_map.1 this
            exact mayP_doc (hall one (by simp)) p hp1
        have hdn : (andL (l.map docsL)).length < 1000000000 := by
          cases hl' : l.map docsL with
          | nil => simp [andL]
          | cons x r => have := andL_len (l := x) (r := r); have := hdl x (by rw [hl']; simp); omega
        generalize hda : andL (l.map docsL) = ds at hin hdn hds
        refine SW.loopR (α := Nat) (fun k => tm 46 [(0, .g (.sl 1 (l.map tposts))), (6, .own 0 ((ds.take k).filterMap (nearF l)).length 0 ((ds.take k).filterMap (nearF l)).length), (26, ints ds), (27, .g (.i ds.length)), (28, .g (.i k))]) (fun k => [.arr ((ds.take k).filterMap (nearF l)).length 2 (((ds.take k).filterMap (nearF l)).map fun p => V.g (tpost p))]) (fun k => k ≤ ds.length) (fun k => ds.length - k) 0 ?_ ?_ ?_
        · exact Nat.zero_le _
        · exact (Refi.back (H' := []) (L := [.arr (l.length + 1) 1 []]) rfl (Nat.le_refl _) (by simp) (subT_refl _)).trans ((Refi.valloc 6 2 rfl).trans (Refi.sub rfl (by simp [subT, subV, tm, tmGo, setT, cutV, ltB, ltS, ints])))
        · intro k hk
          dsimp only at hk ⊢
          conv => whnf
          refine Br.dec (fun h => ?_) (fun h => ?_)
          · conv => whnf
            refine ⟨by simp; omega, rfl, ?_⟩
            conv => whnf
            refine ⟨_, getZ (by omega), ?_⟩
            conv => whnf
            have hk' : k < ds.length := by simp only [List.length_map] at *; omega
            obtain ⟨g1, g2, g3⟩ := hin _ (List.getElem_mem hk')
            refine (c_phrase_within l ds[k] hl (List.all_eq_true.1 hall) g1 g2 g3).go rfl ?_
            conv => whnf
            have hft := filterMap_take (f := nearF l) hk'
            have hfl : ((ds.take k).filterMap (nearF l)).length ≤ ds.length := filterMap_le
            refine Br.eq (fun h2 => ?_) (fun h2 => ?_)
            · conv => whnf
              refine ⟨in64 (by omega) (by omega), ?_⟩
              conv => whnf
              have e : nearF l ds[k] = none := by
                rw [nearF, if_pos]
                apply List.eq_nil_of_length_eq_zero
                simp at h2
                exact h2 ▸ rfl
              rw [e, List.append_nil] at hft
              refine ⟨⟨k + 1, hk', by omega, Refi.sub ?_ ?_⟩⟩
              · rw [hft]
              · rw [hft]; simp [subT, subV, tm, tmGo, ints]
            · conv => whnf
              refine ⟨by repeat (first | exact trivial | refine ⟨⟨rfl, rfl⟩, ?_⟩), ?_⟩
              conv => whnf
              refine ⟨rfl, ?_⟩
              conv => whnf
              refine ⟨by simp; omega, ⟨rfl, rfl, rfl⟩, _, ⟨[], (List.append_nil _).symm⟩, by simp, ?_⟩
              conv => whnf
              refine ⟨in64 (by omega) (by omega), ?_⟩
              conv => whnf
              have e : nearF l ds[k] = some (ds[k], andL (withinL l ds[k])) := by
                rw [nearF, if_neg]
                intro h3
                rw [h3] at h2
                exact h2 rfl
              rw [e] at hft
              refine ⟨⟨k + 1, hk', by omega, Refi.sub ?_ ?_⟩⟩
              · rw [hft, List.length_append, List.map_append]; rfl
              · rw [hft]; simp [subT, subV, tm, tmGo, ints]
          · conv => whnf
            have : k = ds.length := by simp only [List.length_map] at *; omega
            subst this
            refine ⟨Ends.ground (H := []) (L := [_]) (t := tposts (nearL l)) 1 ?_ ⟨rfl, rfl⟩⟩
            rw [List.take_length, ← hds]
            exact gr_own (l := nearL l) (e := tpost) rfl (Nat.le_refl _) rfl fun x _ => gr_g
end Go.Aw
namespace Go.Aw
open Go.Proofs
set_option maxRecDepth 100000

theorem risE_len : ∀ {e l : Int} {xs : List Int}, l < e → risE e l xs = true → (xs.length : Int) ≤ e - 1 - l
  | e, l, [], h, _ => by simp; omega
  | e, l, x :: xs, h, hr => by
    simp only [risE, Bool.and_eq_true, decide_eq_true_eq] at hr
    have := risE_len (e := e) (l := x) (xs := xs) hr.1.2 hr.2
    simp; omega
end Go.Aw
