/- Contracts of functions of the given program, by the abstract walk, for law PolicyKeepsUpto: what each one hands back; no condition but those that each theorem states. -/
import Derived.Test.YthpnnkoaomekfaaC9
import Derived.Test.YthpnnkoaomekfaaW3
namespace Go.Aw
open Go.Proofs
set_option maxRecDepth 100000
set_option maxHeartbeats 4000000

theorem allS_perm {a b : List Sz} (h : a.Perm b) : allS a = allS b := by
  induction h with
  | nil => rfl
  | cons x _ ih => simp only [allS, ih]
  | swap x y l => simp only [allS]; omega
  | trans _ _ ih1 ih2 => rw [ih1, ih2]
theorem allS_sub {a b : List Sz} (h : a.Sublist b) (hs : ∀ s ∈ b, sane s) : allS a ≤ allS b := by
  induction h with
  | slnil => exact Int.le_refl _
  | cons x _ ih =>
    have h1 := ih fun s hm => hs s (by simp [hm])
    have h2 := sane_live (hs x (by simp))
    simp only [allS]; omega
  | cons_cons x _ ih =>
    have h1 := ih fun s hm => hs s (by simp [hm])
    simp only [allS]; omega
theorem gens_nodup {l : List Sz} (h : (gensS l).Nodup) : l.Nodup := (List.pairwise_map.1 h).imp fun h e => h (congrArg Sz.gen e)
theorem gens_inj {l : List Sz} (hn : (gensS l).Nodup) {y z : Sz} (hy : y ∈ l) (hz : z ∈ l) (e : y.gen = z.gen) : y = z := by
  have h1 := size_mem hn hy
  have h2 := size_mem hn hz
  rw [e, h2] at h1
  exact (Option.some.inj h1).symm
theorem pick_perm {l S : List Sz} (hn : (gensS l).Nodup) (hS : (gensS S).Nodup) (hsub : ∀ y ∈ S, y ∈ l) : (pick l (gensS S)).Perm S := by
  refine (List.perm_ext_iff_of_nodup ((gens_nodup hn).sublist List.filter_sublist) (gens_nodup hS)).2 fun y => ?_
  show y ∈ l.filter (inP (gensS S)) ↔ y ∈ S
  rw [List.mem_filter, inP, decide_eq_true_eq]
  constructor
  · rintro ⟨h1, h2⟩
    obtain ⟨z, hz, e⟩ := List.mem_map.1 h2
    rw [gens_inj hn h1 (hsub z hz) e.symm]; exact hz
  · exact fun h => ⟨hsub y h, List.mem_map.2 ⟨y, h, rfl⟩⟩
/-- proposals of unlike ones that are there, of not too much, are done -/
theorem fold_some {was : List Int} : ∀ {p : List (List Int)} {l : List Sz} {g : Int}, (gensS l).Nodup → (∀ s ∈ l, sane s) → (∀ s ∈ l, s.gen ≤ g) → p.flatten.Nodup →
    (∀ x ∈ p, (∀ y ∈ x, y ∈ was) ∧ ∃ S, x = gensS S ∧ S ≠ [] ∧ (∀ y ∈ S, y ∈ l) ∧ allS S ≤ 64) → g + p.length ≤ 34359738367 → ∃ o, foldA was p l g = some o
  | [], l, g, _, _, _, _, _, _ => ⟨l, rfl⟩
  | x :: r, l, g, hn, hs, hg, hnd, hp, hb => by
    rw [List.flatten_cons, List.nodup_append] at hnd
    obtain ⟨n1, n2, n3⟩ := hnd
    rw [List.length_cons] at hb
    obtain ⟨hw, S, hS, hS0, hSl, hSa⟩ := hp x (by simp)
    have hpm := pick_perm hn (hS ▸ n1) hSl
    rw [← hS] at hpm
    have hS1 : S.length ≠ 0 := fun e => hS0 (List.length_eq_zero_iff.1 e)
    have hxl : x.length = S.length := by rw [hS]; simp [gensS]
    obtain ⟨now, hnow⟩ : ∃ now, oneS l x (g + 1) = some now := by
      refine ⟨_, if_neg ?_⟩
      rw [hpm.length_eq, allS_perm hpm]
      rintro (h | h | h | h) <;> omega
    have h1 := one_ok hn hs (fun s hm => by have := hg s hm; omega) hnow
    obtain ⟨h2, _⟩ := one_sane hs hnow
    obtain ⟨o, ho⟩ := fold_some (was := was) (p := r) (g := g + 1) h1.nd h2 (fun s hm => by
      rcases h1.mem s hm with ⟨h3, _⟩ | ⟨h3, _⟩
      · have := hg s h3; omega
      · omega) n2 (fun z hz => by
        obtain ⟨q1, T, q2, q3, q4, q5⟩ := hp z (by simp [hz])
        refine ⟨q1, T, q2, q3, fun y hy => h1.stay y (q4 y hy) fun hyx => ?_, q5⟩
        exact n3 y.gen hyx y.gen (List.mem_flatten.2 ⟨z, hz, q2 ▸ List.mem_map.2 ⟨y, hy, rfl⟩⟩) rfl) (by omega)
    refine ⟨o, ?_⟩
    rw [foldA, hnow]
    dsimp only
    rw [if_neg, ho]
    rw [Bool.not_eq_true, List.any_eq_false]
    intro y hy
    rw [decide_eq_true (hw y hy)]; simp
theorem idle_all {l : List Sz} (h : ∀ s ∈ l, s.busy = false) : idleS l = l := List.filter_eq_self.2 fun s hs => by rw [h s hs]; rfl
theorem flat_singles (L : List Sz) : (L.map fun x => [x.gen]).flatten = gensS L := by
  induction L with
  | nil => rfl
  | cons a L ih => rw [List.map_cons, List.flatten_cons, ih]; rfl
/-- PolicyForce -/
theorem force_after {l : List Sz} {n : Int} (hm : mayS l = true) (h1 : 1 ≤ n) (hb : ∀ s ∈ l, s.busy = false) (hg : ∀ s ∈ l, s.gen ≤ 1073741824) (ha : allS l ≤ 64) :
    (∀ s ∈ afterS l (forceS l n), s.dead = 0) ∧ ((afterS l (forceS l n)).length : Int) ≤ n ∧ allS (afterS l (forceS l n)) = allS l := by
  have hn := mayS_nodup hm
  have hs := mayS_sane hm
  have hgood := good_force (l := l) (n := n)
  have hsm := force_small (l := l) (n := n)
  have hf : forceS l n = aloneS l (forceP l n) deadS := by rw [forceS, if_pos ⟨hm, h1⟩]
  have hid := idle_all hb
  have htop : topS l ≤ 1073741824 := (foldl_max_le (by omega) fun x hx => by
    obtain ⟨s, hs, rfl⟩ := List.mem_map.1 hx; exact hg s hs).1
  obtain ⟨o, ho⟩ := fold_some (was := gensS l) (p := forceS l n) hn hs le_topS hgood.nd (fun x hx => by
    have key : ∀ S : List Sz, S.Sublist l → S ≠ [] → x = gensS S → (∀ y ∈ x, y ∈ gensS l) ∧ ∃ S, x = gensS S ∧ S ≠ [] ∧ (∀ y ∈ S, y ∈ l) ∧ allS S ≤ 64 := fun S h2 h3 h4 =>
      ⟨fun y hy => (gens_sub h2).subset (h4 ▸ hy), S, h4, h3, fun y hy => h2.subset hy, by have := allS_sub h2 hs; omega⟩
    rw [hf, aloneS, List.mem_append] at hx
    rcases hx with hx | hx
    · rw [forceP] at hx
      split at hx
      · simp only [List.mem_singleton] at hx
        refine key _ ((List.take_sublist _ _).trans List.filter_sublist) (fun e => ?_) hx
        have := congrArg List.length e
        rw [List.length_take, List.length_nil, show (l.filter fun s => !s.busy).length = (idleS l).length from rfl] at this
        omega
      · simp at hx
    · obtain ⟨y, hy, rfl⟩ := List.mem_map.1 hx
      have hsub : (aloneA l (forceP l n) deadS).Sublist l := (List.filter_sublist).trans List.filter_sublist
      exact key [y] (List.singleton_sublist.2 (hsub.subset hy)) (by simp) rfl) (by omega)
  have hok := fold_ok hn hs le_topS (fun x hx => by
    obtain ⟨s, hs, rfl⟩ := List.mem_map.1 hx; exact le_topS s hs) ho
  have haf : afterS l (forceS l n) = o := by rw [afterS, if_pos ⟨hm, hgood.nd⟩, ho]; rfl
  rw [haf]
  refine ⟨fun y hy => ?_, ?_, hok.all⟩
  · rcases hok.mem y hy with ⟨h2, h3⟩ | ⟨_, _, h3, _⟩
    · have hsy := hs y h2
      unfold sane at hsy
      by_cases hd : y.dead = 0
      · exact hd
      · exfalso
        apply h3
        rw [hf, aloneS, List.flatten_append, List.mem_append]
        by_cases hp : y.gen ∈ (forceP l n).flatten
        · exact .inl hp
        · refine .inr ?_
          rw [flat_singles]
          refine List.mem_map.2 ⟨y, ?_, rfl⟩
          rw [aloneA, hid, List.mem_filter]
          refine ⟨h2, ?_⟩
          rw [decide_eq_false hp, deadS, decide_eq_true (by omega)]; rfl
    · exact h3
  · have h2 := hok.len
    rw [hf, aloneS, List.flatten_append, List.length_append, List.length_append, flat_singles, List.length_map] at h2
    have h4 : (gensS (aloneA l (forceP l n) deadS)).length = (aloneA l (forceP l n) deadS).length := gens_len
    have h3 : (forceP l n).flatten.length + n.toNat ≥ l.length + (forceP l n).length := by
      rw [forceP, hid]
      split
      · simp [gensS]; omega
      · simp; omega
    omega

theorem c_ref12_Live (l : List Sz) (hl : l.length < 1000000000) (hsn : ∀ s ∈ l, sane s) : CG Try.prog 27 [tsizes l] (.i (allS l)) := by
  refine ⟨k_ref12_Live.calls ?_⟩
  have hm : (l.map tsize).length = l.length := by simp
  (try conv => whnf); repeat ((first | refine And.intro (show cellsAll _ _ from by repeat (first | exact trivial | refine ⟨⟨rfl, rfl⟩, ?_⟩)) ?_ | refine ⟨_, getZ (by omega), ?_⟩ | refine ⟨_, getI (by omega) (by omega), ?_⟩ | refine ⟨by omega, rfl, ?_⟩ | refine ⟨by (simp; omega), rfl, ?_⟩ | refine ⟨rfl, _, rfl, ⟨rfl, rfl, by decide⟩, ?_⟩ | refine ⟨rfl, _, rfl, ?_⟩ | refine ⟨rfl, _, getO (by omega), ?_⟩ | refine ⟨rfl, ⟨by omega, by omega, by omega⟩, ?_⟩ | refine ⟨⟨rfl, rfl⟩, ?_⟩ | refine ⟨⟨rfl, rfl, rfl⟩, ?_⟩ | refine ⟨⟨rfl, rfl, by decide⟩, ?_⟩ | refine ⟨rfl, ?_⟩ | refine ⟨⟨by omega, by omega⟩, ⟨rfl, rfl⟩, ?_⟩ | refine ⟨in64 (by omega) (by omega), ?_⟩ | refine Br.dec (fun _ => ?_) (fun hh => absurd (by omega) hh) | refine Br.dec (fun hh => absurd hh (by omega)) (fun _ => ?_) | refine Br.eq (fun _ => ?_) (fun hh => absurd (by omega) hh) | refine Br.eq (fun hh => absurd hh (by omega)) (fun _ => ?_) | refine Br.ne (fun _ => ?_) (fun hh => absurd (by omega) hh) | refine Br.ne (fun hh => absurd hh (by omega)) (fun _ => ?_) | refine ⟨_, rfl, ?_⟩ | rw [← List.map_drop, ← List.map_take]); conv => whnf)
  refine SW.loopR (α := Nat) (fun k => tm 25 [(0, sizes l), (3, .g (.i (allS (l.take k)))), (4, .g (.i k))]) (fun _ => []) (fun k => k ≤ l.length) (fun k => l.length - k) 0 ?_ ?_ ?_
  · exact Nat.zero_le _
  · exact Refi.sub rfl (by simp [subT, subV, tm, tmGo, sizes, tsizes, allS])
  · intro k hk
    dsimp only at hk ⊢
    conv => whnf
    refine Br.dec (fun h => ?_) (fun h => ?_)
    · have hk' : k < l.length := by omega
      have htk : l.take (k + 1) = l.take k ++ [l[k]] := List.take_succ_eq_append_getElem hk'
      have hs := hsn _ (List.getElem_mem hk')
      unfold sane at hs
      have hb := allS_le (l := l.take k) (fun s hs => hsn s (List.mem_of_mem_take hs))
      have hlt : (l.take k).length = k := by simp; omega
      (try conv => whnf); repeat ((first | refine And.intro (show cellsAll _ _ from by repeat (first | exact trivial | refine ⟨⟨rfl, rfl⟩, ?_⟩)) ?_ | refine ⟨_, getZ (by omega), ?_⟩ | refine ⟨_, getI (by omega) (by omega), ?_⟩ | refine ⟨by omega, rfl, ?_⟩ | refine ⟨by (simp; omega), rfl, ?_⟩ | refine ⟨rfl, _, rfl, ⟨rfl, rfl, by decide⟩, ?_⟩ | refine ⟨rfl, _, rfl, ?_⟩ | refine ⟨rfl, _, getO (by omega), ?_⟩ | refine ⟨rfl, ⟨by omega, by omega, by omega⟩, ?_⟩ | refine ⟨⟨rfl, rfl⟩, ?_⟩ | refine ⟨⟨rfl, rfl, rfl⟩, ?_⟩ | refine ⟨⟨rfl, rfl, by decide⟩, ?_⟩ | refine ⟨rfl, ?_⟩ | refine ⟨⟨by omega, by omega⟩, ⟨rfl, rfl⟩, ?_⟩ | refine ⟨in64 (by omega) (by omega), ?_⟩ | refine Br.dec (fun _ => ?_) (fun hh => absurd (by omega) hh) | refine Br.dec (fun hh => absurd hh (by omega)) (fun _ => ?_) | refine Br.eq (fun _ => ?_) (fun hh => absurd (by omega) hh) | refine Br.eq (fun hh => absurd hh (by omega)) (fun _ => ?_) | refine Br.ne (fun _ => ?_) (fun hh => absurd (by omega) hh) | refine Br.ne (fun hh => absurd hh (by omega)) (fun _ => ?_) | refine ⟨_, rfl, ?_⟩ | rw [← List.map_drop, ← List.map_take]); conv => whnf)
      refine ⟨⟨k + 1, hk', by omega, Refi.sub rfl ?_⟩⟩
      rw [htk, allS_app]; simp [allS, Sz.live, subT, subV, tm, tmGo, sizes]; omega
    · (try conv => whnf); repeat ((first | refine And.intro (show cellsAll _ _ from by repeat (first | exact trivial | refine ⟨⟨rfl, rfl⟩, ?_⟩)) ?_ | refine ⟨_, getZ (by omega), ?_⟩ | refine ⟨_, getI (by omega) (by omega), ?_⟩ | refine ⟨by omega, rfl, ?_⟩ | refine ⟨by (simp; omega), rfl, ?_⟩ | refine ⟨rfl, _, rfl, ⟨rfl, rfl, by decide⟩, ?_⟩ | refine ⟨rfl, _, rfl, ?_⟩ | refine ⟨rfl, _, getO (by omega), ?_⟩ | refine ⟨rfl, ⟨by omega, by omega, by omega⟩, ?_⟩ | refine ⟨⟨rfl, rfl⟩, ?_⟩ | refine ⟨⟨rfl, rfl, rfl⟩, ?_⟩ | refine ⟨⟨rfl, rfl, by decide⟩, ?_⟩ | refine ⟨rfl, ?_⟩ | refine ⟨⟨by omega, by omega⟩, ⟨rfl, rfl⟩, ?_⟩ | refine ⟨in64 (by omega) (by omega), ?_⟩ | refine Br.dec (fun _ => ?_) (fun hh => absurd (by omega) hh) | refine Br.dec (fun hh => absurd hh (by omega)) (fun _ => ?_) | refine Br.eq (fun _ => ?_) (fun hh => absurd (by omega) hh) | refine Br.eq (fun hh => absurd hh (by omega)) (fun _ => ?_) | refine Br.ne (fun _ => ?_) (fun hh => absurd (by omega) hh) | refine Br.ne (fun hh => absurd hh (by omega)) (fun _ => ?_) | refine ⟨_, rfl, ?_⟩ | rw [← List.map_drop, ← List.map_take]); conv => whnf)
      have : k = l.length := by omega
      subst this
      rw [List.take_length]
      exact ⟨Ends.keep ⟨rfl, rfl⟩⟩
end Go.Aw
namespace Go.Aw
open Go.Proofs
set_option maxRecDepth 100000
set_option maxHeartbeats 4000000

end Go.Aw
namespace Go.Aw
open Go.Proofs
set_option maxRecDepth 100000
set_option maxHeartbeats 4000000

/- POLICIES END -/
theorem fold_top {was : List Int} : ∀ {p : List (List Int)} {l o : List Sz} {g : Int}, (gensS l).Nodup → (∀ s ∈ l, sane s) → (∀ s ∈ l, s.gen ≤ g) → foldA was p l g = some o → ∀ y ∈ o, y.gen ≤ g + p.length
  | [], l, o, g, _, _, hg, h => by rw [foldA] at h; cases h; intro y hy; have := hg y hy; simp; omega
  | x :: r, l, o, g, hn, hs, hg, h => by
    rw [foldA] at h
    split at h
    · cases h
    · rename_i now hnow
      split at h
      · cases h
      · have h1 := one_ok hn hs (fun s hm => by have := hg s hm; omega) hnow
        intro y hy
        have := fold_top h1.nd (one_sane hs hnow).1 (fun s hm => by
          rcases h1.mem s hm with ⟨h3, _⟩ | ⟨h3, _⟩
          · have := hg s h3; omega
          · omega) h y hy
        rw [List.length_cons]; omega
def idleHalf (l : List Sz) : Bool := l.any fun s => !s.busy && halfS s
def nu (l : List Sz) : Nat := if idleHalf l = true then l.length else l.length - 1
/-- a round: it is done; what comes of it -/
theorem round_ok {kind : Nat} {l : List Sz} {c : Int × Int} (hm : mayS l = true) (ht : mayT c = true) (hb : topS l + 2000 ≤ 34359738367) (hp : byS kind l c ≠ []) :
    ∃ o, afterS l (byS kind l c) = o ∧ mayS o = true ∧ allS o = allS l ∧ o.length ≤ l.length ∧ topS o ≤ topS l + 2000 ∧ 1 + nu o ≤ nu l := by
  have hn := mayS_nodup hm
  have hs := mayS_sane hm
  have hgood := good_by (kind := kind) (l := l) (c := c)
  have hfit := fit_by (kind := kind) (l := l) (c := c)
  have hsm := by_small (kind := kind) (l := l) (c := c)
  have hc : 2 ≤ c.1 ∧ c.1 ≤ 8 ∧ 1 ≤ c.2 ∧ c.2 ≤ 64 := by simpa [mayT] using ht
  have htop := topS_le hm
  obtain ⟨o, ho⟩ := fold_some (was := gensS l) (p := byS kind l c) hn hs le_topS hgood.nd (fun x hx => by
    obtain ⟨S, hS⟩ := hfit x hx
    refine ⟨fun y hy => ?_, S, hS.eq, fun e => by have := hS.one; rw [e] at this; simp at this, hS.sub, ?_⟩
    · rw [hS.eq] at hy
      obtain ⟨z, hz, rfl⟩ := List.mem_map.1 hy
      exact List.mem_map.2 ⟨z, hS.sub z hz, rfl⟩
    · by_cases h1 : 1 < S.length
      · have := (hS.fit h1).2; omega
      · have h2 := hS.one
        have h3 := allS_le (l := S) fun s h => hs s (hS.sub s h)
        have : S.length = 1 := by omega
        rw [this] at h3; omega) (by omega)
  have hok := fold_ok hn hs le_topS (fun x hx => by
    obtain ⟨s, hs, rfl⟩ := List.mem_map.1 hx; exact le_topS s hs) ho
  have haf : afterS l (byS kind l c) = o := by rw [afterS, if_pos ⟨hm, hgood.nd⟩, ho]; rfl
  have hfs := fold_sane hs ho
  have hft := fold_top hn hs le_topS ho
  have hmo : mayS o = true := by
    by_cases h0 : o = []
    · subst h0; rfl
    · rw [← haf]; exact after_may (by rw [haf]; exact h0)
  have hlen := hok.len
  have hne : ∀ x ∈ byS kind l c, 1 ≤ x.length := fun x hx => by
    have := hgood.ne x hx
    cases x with
    | nil => exact absurd rfl this
    | cons a b => simp
  have hno : idleHalf o = false := by
    rw [idleHalf, List.any_eq_false]
    intro y hy hh
    rw [Bool.and_eq_true, Bool.not_eq_true'] at hh
    rcases hok.mem y hy with ⟨h2, h3⟩ | ⟨_, _, h3, _, h4, _⟩
    · apply h3
      rw [byS, if_pos ⟨hm, ht⟩, aloneS, List.flatten_append, List.mem_append]
      by_cases hpp : y.gen ∈ (kindS kind l c).flatten
      · exact .inl hpp
      · refine .inr ?_
        rw [flat_singles]
        refine List.mem_map.2 ⟨y, ?_, rfl⟩
        rw [aloneA, List.mem_filter]
        refine ⟨List.mem_filter.2 ⟨h2, by rw [hh.1]; rfl⟩, ?_⟩
        rw [decide_eq_false hpp, hh.2]; rfl
    · have := hh.2
      rw [halfS, decide_eq_true_eq] at this
      omega
  have hflat : ∀ (q : List (List Int)) (m : Nat), (∀ x ∈ q, m ≤ x.length) → m * q.length ≤ q.flatten.length := by
    intro q m
    induction q with
    | nil => simp
    | cons a q ih =>
      intro h
      have h1 := ih fun x hx => h x (by simp [hx])
      have h2 := h a (by simp)
      rw [List.flatten_cons, List.length_append, List.length_cons, Nat.mul_succ]; omega
  have hp1 : 0 < (byS kind l c).length := List.length_pos_iff.2 hp
  have hf1 := hflat _ 1 hne
  have hll : 0 < l.length := by
    obtain ⟨x, hx⟩ := List.exists_mem_of_length_pos hp1
    obtain ⟨S, hS⟩ := hfit x hx
    obtain ⟨y, hy⟩ := List.exists_mem_of_length_pos hS.one
    exact List.length_pos_of_mem (hS.sub y hy)
  refine ⟨o, haf, hmo, hok.all, hfs.2, ?_, ?_⟩
  · refine (foldl_max_le (by omega) fun x hx => ?_).1
    obtain ⟨s, hs, rfl⟩ := List.mem_map.1 hx
    have := hft s hs; omega
  · rw [nu, hno, if_neg (by simp), nu]
    by_cases hi : idleHalf l = true
    · rw [if_pos hi]
      have := hfs.2; omega
    · rw [if_neg hi]
      have h2 : ∀ x ∈ byS kind l c, 2 ≤ x.length := fun x hx => by
        rcases Nat.lt_or_ge x.length 2 with h | h
        · exfalso
          rw [byS, if_pos ⟨hm, ht⟩, aloneS, List.mem_append] at hx
          rcases hx with hx | hx
          · unfold kindS at hx
            split at hx
            · obtain ⟨n, _, hx⟩ := List.mem_flatMap.1 hx
              have := (chunks_mem hx).1; omega
            · have := (runs_mem hx).1; omega
          · obtain ⟨y, hy, rfl⟩ := List.mem_map.1 hx
            apply hi
            obtain ⟨h3, h4⟩ := List.mem_filter.1 hy
            obtain ⟨h5, h6⟩ := List.mem_filter.1 h3
            rw [Bool.and_eq_true] at h4
            exact List.any_eq_true.2 ⟨y, h5, by rw [h6, h4.2]; rfl⟩
        · exact h
      have hf2 := hflat _ 2 h2
      have hsub2 := hfs.2
      have : 2 ≤ l.length := by
        obtain ⟨x, hx⟩ := List.exists_mem_of_length_pos hp1
        obtain ⟨S, hS⟩ := hfit x hx
        have hx2 := h2 x hx
        have hxn : x.Nodup := hgood.nd.sublist (List.sublist_flatten_of_mem hx)
        have hxS := hS.eq
        subst hxS
        match S, hx2, hxn, hS.sub with
        | [], h, _, _ => simp [gensS] at h
        | [y], h, _, _ => simp [gensS] at h
        | y :: z :: S, _, hnd, hsub =>
          match l, hsub y (by simp), hsub z (by simp) with
          | [a], h3, h4 =>
            simp at h3 h4
            subst h3; subst h4
            simp [gensS] at hnd
          | a :: b :: r, _, _ => simp
      omega
theorem until_ok {kind : Nat} {c : Int × Int} (ht : mayT c = true) : ∀ {f : Nat} {l : List Sz}, mayS l = true → topS l + 2000 * f ≤ 34359738367 → nu l < f →
    ∃ x n, untilF kind c f l = some (x, n) ∧ n ≤ nu l ∧ byS kind x c = [] ∧ x.length ≤ l.length ∧ mayS x = true ∧ allS x = allS l
  | 0, l, _, _, h => by omega
  | f + 1, l, hm, hb, hv => by
    rw [untilF]
    by_cases h0 : byS kind l c = []
    · rw [if_pos h0]
      exact ⟨l, 0, rfl, Nat.zero_le _, h0, Nat.le_refl _, hm, rfl⟩
    · rw [if_neg h0]
      obtain ⟨o, h1, h2, h3, h4, h5, h6⟩ := round_ok hm ht (by omega) h0
      rw [h1, if_neg]
      · obtain ⟨x, n, q1, q2, q3, q4, q5, q6⟩ := until_ok (kind := kind) ht h2 (by omega) (by omega) (f := f)
        rw [q1]
        exact ⟨x, n + 1, rfl, by omega, q3, by omega, q5, by omega⟩
      · rintro ⟨e, hl⟩
        subst e
        rw [← h3] at hl; simp [allS] at hl
end Go.Aw
namespace Go.Aw
open Go.Proofs
set_option maxRecDepth 100000
set_option maxHeartbeats 4000000

theorem tv_bool {t : T} (h : TV .b t) : ∃ b : Bool, t = .b b := by
  obtain ⟨cs, ⟨b, rfl⟩, rfl⟩ := h
  exact ⟨b, rfl⟩

end Go.Aw
namespace Go.Aw
open Go.Proofs
set_option maxRecDepth 100000
set_option maxHeartbeats 4000000

theorem c_law12_few (p : List (List Int)) (hp : p.length < 9223372036854775808) (hl : ∀ x ∈ p, x.length < 9223372036854775808) : ∃ b, CG Try.prog 29 [intss p] (.b b) ∧ (b = true → p.length ≤ 30 ∧ ∀ x ∈ p, x.length ≤ 30) := by
  have hm : (p.map tints).length = p.length := by simp
  by_cases hgood : p.length ≤ 30 ∧ ∀ x ∈ p, x.length ≤ 30
  · refine ⟨true, ⟨k_law12_few.calls ?_⟩, fun _ => hgood⟩
    obtain ⟨h1, h2⟩ := hgood
    (try conv => whnf); repeat ((first | refine And.intro (show cellsAll _ _ from by repeat (first | exact trivial | refine ⟨⟨rfl, rfl⟩, ?_⟩)) ?_ | refine ⟨_, getZ (by omega), ?_⟩ | refine ⟨_, getI (by omega) (by omega), ?_⟩ | refine ⟨by omega, rfl, ?_⟩ | refine ⟨by (simp; omega), rfl, ?_⟩ | refine ⟨rfl, _, rfl, ⟨rfl, rfl, by decide⟩, ?_⟩ | refine ⟨rfl, _, rfl, ?_⟩ | refine ⟨rfl, _, getO (by omega), ?_⟩ | refine ⟨rfl, ⟨by omega, by omega, by omega⟩, ?_⟩ | refine ⟨⟨rfl, rfl⟩, ?_⟩ | refine ⟨⟨rfl, rfl, rfl⟩, ?_⟩ | refine ⟨⟨rfl, rfl, by decide⟩, ?_⟩ | refine ⟨rfl, ?_⟩ | refine ⟨⟨by omega, by omega⟩, ⟨rfl, rfl⟩, ?_⟩ | refine ⟨in64 (by omega) (by omega), ?_⟩ | refine Br.dec (fun _ => ?_) (fun hh => absurd (by omega) hh) | refine Br.dec (fun hh => absurd hh (by omega)) (fun _ => ?_) | refine Br.eq (fun _ => ?_) (fun hh => absurd (by omega) hh) | refine Br.eq (fun hh => absurd hh (by omega)) (fun _ => ?_) | refine Br.ne (fun _ => ?_) (fun hh => absurd (by omega) hh) | refine Br.ne (fun hh => absurd hh (by omega)) (fun _ => ?_) | refine ⟨_, rfl, ?_⟩ | rw [← List.map_drop, ← List.map_take]); conv => whnf)
    refine SW.loopR (α := Nat) (fun i => tm 19 [(0, .g (intss p)), (3, .g (.i i))]) (fun _ => []) (fun i => i ≤ p.length) (fun i => p.length - i) 0 ?_ ?_ ?_
    · exact Nat.zero_le _
    · exact Refi.sub rfl (by simp [subT, subV, tm, tmGo, intss])
    · intro i hi
      dsimp only at hi ⊢
      conv => whnf
      refine Br.dec (fun h => ?_) (fun h => ?_)
      · have hi' : i < p.length := by omega
        have hx := h2 _ (List.getElem_mem hi')
        have hmx : (p[i].map T.i).length = p[i].length := by simp
        (try conv => whnf); repeat ((first | refine And.intro (show cellsAll _ _ from by repeat (first | exact trivial | refine ⟨⟨rfl, rfl⟩, ?_⟩)) ?_ | refine ⟨_, getZ (by omega), ?_⟩ | refine ⟨_, getI (by omega) (by omega), ?_⟩ | refine ⟨by omega, rfl, ?_⟩ | refine ⟨by (simp; omega), rfl, ?_⟩ | refine ⟨rfl, _, rfl, ⟨rfl, rfl, by decide⟩, ?_⟩ | refine ⟨rfl, _, rfl, ?_⟩ | refine ⟨rfl, _, getO (by omega), ?_⟩ | refine ⟨rfl, ⟨by omega, by omega, by omega⟩, ?_⟩ | refine ⟨⟨rfl, rfl⟩, ?_⟩ | refine ⟨⟨rfl, rfl, rfl⟩, ?_⟩ | refine ⟨⟨rfl, rfl, by decide⟩, ?_⟩ | refine ⟨rfl, ?_⟩ | refine ⟨⟨by omega, by omega⟩, ⟨rfl, rfl⟩, ?_⟩ | refine ⟨in64 (by omega) (by omega), ?_⟩ | refine Br.dec (fun _ => ?_) (fun hh => absurd (by omega) hh) | refine Br.dec (fun hh => absurd hh (by omega)) (fun _ => ?_) | refine Br.eq (fun _ => ?_) (fun hh => absurd (by omega) hh) | refine Br.eq (fun hh => absurd hh (by omega)) (fun _ => ?_) | refine Br.ne (fun _ => ?_) (fun hh => absurd (by omega) hh) | refine Br.ne (fun hh => absurd hh (by omega)) (fun _ => ?_) | refine ⟨_, rfl, ?_⟩ | rw [← List.map_drop, ← List.map_take]); conv => whnf)
        exact ⟨⟨i + 1, hi', by omega, Refi.sub rfl (by simp [subT, subV, tm, tmGo, intss])⟩⟩
      · (try conv => whnf); repeat ((first | refine And.intro (show cellsAll _ _ from by repeat (first | exact trivial | refine ⟨⟨rfl, rfl⟩, ?_⟩)) ?_ | refine ⟨_, getZ (by omega), ?_⟩ | refine ⟨_, getI (by omega) (by omega), ?_⟩ | refine ⟨by omega, rfl, ?_⟩ | refine ⟨by (simp; omega), rfl, ?_⟩ | refine ⟨rfl, _, rfl, ⟨rfl, rfl, by decide⟩, ?_⟩ | refine ⟨rfl, _, rfl, ?_⟩ | refine ⟨rfl, _, getO (by omega), ?_⟩ | refine ⟨rfl, ⟨by omega, by omega, by omega⟩, ?_⟩ | refine ⟨⟨rfl, rfl⟩, ?_⟩ | refine ⟨⟨rfl, rfl, rfl⟩, ?_⟩ | refine ⟨⟨rfl, rfl, by decide⟩, ?_⟩ | refine ⟨rfl, ?_⟩ | refine ⟨⟨by omega, by omega⟩, ⟨rfl, rfl⟩, ?_⟩ | refine ⟨in64 (by omega) (by omega), ?_⟩ | refine Br.dec (fun _ => ?_) (fun hh => absurd (by omega) hh) | refine Br.dec (fun hh => absurd hh (by omega)) (fun _ => ?_) | refine Br.eq (fun _ => ?_) (fun hh => absurd (by omega) hh) | refine Br.eq (fun hh => absurd hh (by omega)) (fun _ => ?_) | refine Br.ne (fun _ => ?_) (fun hh => absurd (by omega) hh) | refine Br.ne (fun hh => absurd hh (by omega)) (fun _ => ?_) | refine ⟨_, rfl, ?_⟩ | rw [← List.map_drop, ← List.map_take]); conv => whnf)
        exact ⟨Ends.keep ⟨rfl, rfl⟩⟩
  · refine ⟨false, ⟨k_law12_few.calls ?_⟩, fun e => by cases e⟩
    by_cases h1 : p.length ≤ 30
    · (try conv => whnf); repeat ((first | refine And.intro (show cellsAll _ _ from by repeat (first | exact trivial | refine ⟨⟨rfl, rfl⟩, ?_⟩)) ?_ | refine ⟨_, getZ (by omega), ?_⟩ | refine ⟨_, getI (by omega) (by omega), ?_⟩ | refine ⟨by omega, rfl, ?_⟩ | refine ⟨by (simp; omega), rfl, ?_⟩ | refine ⟨rfl, _, rfl, ⟨rfl, rfl, by decide⟩, ?_⟩ | refine ⟨rfl, _, rfl, ?_⟩ | refine ⟨rfl, _, getO (by omega), ?_⟩ | refine ⟨rfl, ⟨by omega, by omega, by omega⟩, ?_⟩ | refine ⟨⟨rfl, rfl⟩, ?_⟩ | refine ⟨⟨rfl, rfl, rfl⟩, ?_⟩ | refine ⟨⟨rfl, rfl, by decide⟩, ?_⟩ | refine ⟨rfl, ?_⟩ | refine ⟨⟨by omega, by omega⟩, ⟨rfl, rfl⟩, ?_⟩ | refine ⟨in64 (by omega) (by omega), ?_⟩ | refine Br.dec (fun _ => ?_) (fun hh => absurd (by omega) hh) | refine Br.dec (fun hh => absurd hh (by omega)) (fun _ => ?_) | refine Br.eq (fun _ => ?_) (fun hh => absurd (by omega) hh) | refine Br.eq (fun hh => absurd hh (by omega)) (fun _ => ?_) | refine Br.ne (fun _ => ?_) (fun hh => absurd (by omega) hh) | refine Br.ne (fun hh => absurd hh (by omega)) (fun _ => ?_) | refine ⟨_, rfl, ?_⟩ | rw [← List.map_drop, ← List.map_take]); conv => whnf)
      refine SW.loopR (α := Nat) (fun i => tm 19 [(0, .g (intss p)), (3, .g (.i i))]) (fun _ => []) (fun i => i ≤ p.length ∧ ∀ x ∈ p.take i, x.length ≤ 30) (fun i => p.length - i) 0 ?_ ?_ ?_
      · simp
      · exact Refi.sub rfl (by simp [subT, subV, tm, tmGo, intss])
      · rintro i ⟨hi, hq⟩
        dsimp only at hi hq ⊢
        conv => whnf
        refine Br.dec (fun h => ?_) (fun h => ?_)
        · have hi' : i < p.length := by omega
          have hx := hl _ (List.getElem_mem hi')
          have hmx : (p[i].map T.i).length = p[i].length := by simp
          (try conv => whnf); repeat ((first | refine And.intro (show cellsAll _ _ from by repeat (first | exact trivial | refine ⟨⟨rfl, rfl⟩, ?_⟩)) ?_ | refine ⟨_, getZ (by omega), ?_⟩ | refine ⟨_, getI (by omega) (by omega), ?_⟩ | refine ⟨by omega, rfl, ?_⟩ | refine ⟨by (simp; omega), rfl, ?_⟩ | refine ⟨rfl, _, rfl, ⟨rfl, rfl, by decide⟩, ?_⟩ | refine ⟨rfl, _, rfl, ?_⟩ | refine ⟨rfl, _, getO (by omega), ?_⟩ | refine ⟨rfl, ⟨by omega, by omega, by omega⟩, ?_⟩ | refine ⟨⟨rfl, rfl⟩, ?_⟩ | refine ⟨⟨rfl, rfl, rfl⟩, ?_⟩ | refine ⟨⟨rfl, rfl, by decide⟩, ?_⟩ | refine ⟨rfl, ?_⟩ | refine ⟨⟨by omega, by omega⟩, ⟨rfl, rfl⟩, ?_⟩ | refine ⟨in64 (by omega) (by omega), ?_⟩ | refine Br.dec (fun _ => ?_) (fun hh => absurd (by omega) hh) | refine Br.dec (fun hh => absurd hh (by omega)) (fun _ => ?_) | refine Br.eq (fun _ => ?_) (fun hh => absurd (by omega) hh) | refine Br.eq (fun hh => absurd hh (by omega)) (fun _ => ?_) | refine Br.ne (fun _ => ?_) (fun hh => absurd (by omega) hh) | refine Br.ne (fun hh => absurd hh (by omega)) (fun _ => ?_) | refine ⟨_, rfl, ?_⟩ | rw [← List.map_drop, ← List.map_take]); conv => whnf)
          refine Br.dec (fun h2 => ?_) (fun h2 => ?_)
          · (try conv => whnf); repeat ((first | refine And.intro (show cellsAll _ _ from by repeat (first | exact trivial | refine ⟨⟨rfl, rfl⟩, ?_⟩)) ?_ | refine ⟨_, getZ (by omega), ?_⟩ | refine ⟨_, getI (by omega) (by omega), ?_⟩ | refine ⟨by omega, rfl, ?_⟩ | refine ⟨by (simp; omega), rfl, ?_⟩ | refine ⟨rfl, _, rfl, ⟨rfl, rfl, by decide⟩, ?_⟩ | refine ⟨rfl, _, rfl, ?_⟩ | refine ⟨rfl, _, getO (by omega), ?_⟩ | refine ⟨rfl, ⟨by omega, by omega, by omega⟩, ?_⟩ | refine ⟨⟨rfl, rfl⟩, ?_⟩ | refine ⟨⟨rfl, rfl, rfl⟩, ?_⟩ | refine ⟨⟨rfl, rfl, by decide⟩, ?_⟩ | refine ⟨rfl, ?_⟩ | refine ⟨⟨by omega, by omega⟩, ⟨rfl, rfl⟩, ?_⟩ | refine ⟨in64 (by omega) (by omega), ?_⟩ | refine Br.dec (fun _ => ?_) (fun hh => absurd (by omega) hh) | refine Br.dec (fun hh => absurd hh (by omega)) (fun _ => ?_) | refine Br.eq (fun _ => ?_) (fun hh => absurd (by omega) hh) | refine Br.eq (fun hh => absurd hh (by omega)) (fun _ => ?_) | refine Br.ne (fun _ => ?_) (fun hh => absurd (by omega) hh) | refine Br.ne (fun hh => absurd hh (by omega)) (fun _ => ?_) | refine ⟨_, rfl, ?_⟩ | rw [← List.map_drop, ← List.map_take]); conv => whnf)
            exact ⟨Ends.keep ⟨rfl, rfl⟩⟩
          · (try conv => whnf); repeat ((first | refine And.intro (show cellsAll _ _ from by repeat (first | exact trivial | refine ⟨⟨rfl, rfl⟩, ?_⟩)) ?_ | refine ⟨_, getZ (by omega), ?_⟩ | refine ⟨_, getI (by omega) (by omega), ?_⟩ | refine ⟨by omega, rfl, ?_⟩ | refine ⟨by (simp; omega), rfl, ?_⟩ | refine ⟨rfl, _, rfl, ⟨rfl, rfl, by decide⟩, ?_⟩ | refine ⟨rfl, _, rfl, ?_⟩ | refine ⟨rfl, _, getO (by omega), ?_⟩ | refine ⟨rfl, ⟨by omega, by omega, by omega⟩, ?_⟩ | refine ⟨⟨rfl, rfl⟩, ?_⟩ | refine ⟨⟨rfl, rfl, rfl⟩, ?_⟩ | refine ⟨⟨rfl, rfl, by decide⟩, ?_⟩ | refine ⟨rfl, ?_⟩ | refine ⟨⟨by omega, by omega⟩, ⟨rfl, rfl⟩, ?_⟩ | refine ⟨in64 (by omega) (by omega), ?_⟩ | refine Br.dec (fun _ => ?_) (fun hh => absurd (by omega) hh) | refine Br.dec (fun hh => absurd hh (by omega)) (fun _ => ?_) | refine Br.eq (fun _ => ?_) (fun hh => absurd (by omega) hh) | refine Br.eq (fun hh => absurd hh (by omega)) (fun _ => ?_) | refine Br.ne (fun _ => ?_) (fun hh => absurd (by omega) hh) | refine Br.ne (fun hh => absurd hh (by omega)) (fun _ => ?_) | refine ⟨_, rfl, ?_⟩ | rw [← List.map_drop, ← List.map_take]); conv => whnf)
            refine ⟨⟨i + 1, ⟨hi', fun x hx => ?_⟩, by omega, Refi.sub rfl (by simp [subT, subV, tm, tmGo, intss])⟩⟩
            rw [List.take_succ_eq_append_getElem hi', List.mem_append, List.mem_singleton] at hx
            rcases hx with hx | rfl
            · exact hq x hx
            · omega
        · have : i = p.length := by omega
          subst this
          rw [List.take_length] at hq
          exact absurd ⟨h1, hq⟩ hgood
    · (try conv => whnf); repeat ((first | refine And.intro (show cellsAll _ _ from by repeat (first | exact trivial | refine ⟨⟨rfl, rfl⟩, ?_⟩)) ?_ | refine ⟨_, getZ (by omega), ?_⟩ | refine ⟨_, getI (by omega) (by omega), ?_⟩ | refine ⟨by omega, rfl, ?_⟩ | refine ⟨by (simp; omega), rfl, ?_⟩ | refine ⟨rfl, _, rfl, ⟨rfl, rfl, by decide⟩, ?_⟩ | refine ⟨rfl, _, rfl, ?_⟩ | refine ⟨rfl, _, getO (by omega), ?_⟩ | refine ⟨rfl, ⟨by omega, by omega, by omega⟩, ?_⟩ | refine ⟨⟨rfl, rfl⟩, ?_⟩ | refine ⟨⟨rfl, rfl, rfl⟩, ?_⟩ | refine ⟨⟨rfl, rfl, by decide⟩, ?_⟩ | refine ⟨rfl, ?_⟩ | refine ⟨⟨by omega, by omega⟩, ⟨rfl, rfl⟩, ?_⟩ | refine ⟨in64 (by omega) (by omega), ?_⟩ | refine Br.dec (fun _ => ?_) (fun hh => absurd (by omega) hh) | refine Br.dec (fun hh => absurd hh (by omega)) (fun _ => ?_) | refine Br.eq (fun _ => ?_) (fun hh => absurd (by omega) hh) | refine Br.eq (fun hh => absurd hh (by omega)) (fun _ => ?_) | refine Br.ne (fun _ => ?_) (fun hh => absurd (by omega) hh) | refine Br.ne (fun hh => absurd hh (by omega)) (fun _ => ?_) | refine ⟨_, rfl, ?_⟩ | rw [← List.map_drop, ← List.map_take]); conv => whnf)
      exact ⟨Ends.keep ⟨rfl, rfl⟩⟩

/-- PolicyKeeps, of proposals that together are not too many -/
theorem c_keeps (l : List Sz) (p : List (List Int)) (hl : l.length < 1000000000) (hp : p.length < 1000000000) (hpf : p.flatten.length < 1000000000) : CG Try.prog 8 [tsizes l, intss p] (.b true) := by
  refine ⟨k_law12_PolicyKeeps.calls ?_⟩
  have hm : (l.map tsize).length = l.length := by simp
  have hpx : ∀ x ∈ p, x.length < 9223372036854775808 := fun x hx => by
    have : x.length ≤ p.flatten.length := (List.sublist_flatten_of_mem hx).length_le
    omega
  obtain ⟨b, hb, hfew⟩ := c_law12_few p (by omega) hpx
  have ga := c_policy_After l p hl hp hpf
  obtain ⟨X, hX⟩ : ∃ X, afterS l p = X := ⟨_, rfl⟩
  have hXl := after_sane (l := l) (p := p)
  rw [hX] at ga hXl
  have hmX : (X.map tsize).length = X.length := by simp
  cases b with
  | false =>
    (try conv => whnf); repeat ((first | refine (c_law12_awake).go rfl ?_ | refine ⟨_, (c_law12_awake).go rfl ⟨rfl, rfl⟩, ?_⟩ | refine (hb).go rfl ?_ | refine ⟨_, (hb).go rfl ⟨rfl, rfl⟩, ?_⟩ | refine (ga).go rfl ?_ | refine ⟨_, (ga).go rfl ⟨rfl, rfl⟩, ?_⟩ | refine And.intro (show cellsAll _ _ from by repeat (first | exact trivial | refine ⟨⟨rfl, rfl⟩, ?_⟩)) ?_ | refine ⟨_, getZ (by omega), ?_⟩ | refine ⟨_, getI (by omega) (by omega), ?_⟩ | refine ⟨by omega, rfl, ?_⟩ | refine ⟨by (simp; omega), rfl, ?_⟩ | refine ⟨rfl, _, rfl, ⟨rfl, rfl, by decide⟩, ?_⟩ | refine ⟨rfl, _, rfl, ?_⟩ | refine ⟨rfl, _, getO (by omega), ?_⟩ | refine ⟨rfl, ⟨by omega, by omega, by omega⟩, ?_⟩ | refine ⟨⟨rfl, rfl⟩, ?_⟩ | refine ⟨⟨rfl, rfl, rfl⟩, ?_⟩ | refine ⟨⟨rfl, rfl, by decide⟩, ?_⟩ | refine ⟨rfl, ?_⟩ | refine ⟨⟨by omega, by omega⟩, ⟨rfl, rfl⟩, ?_⟩ | refine ⟨in64 (by omega) (by omega), ?_⟩ | refine Br.dec (fun _ => ?_) (fun hh => absurd (by omega) hh) | refine Br.dec (fun hh => absurd hh (by omega)) (fun _ => ?_) | refine Br.eq (fun _ => ?_) (fun hh => absurd (by omega) hh) | refine Br.eq (fun hh => absurd hh (by omega)) (fun _ => ?_) | refine Br.ne (fun _ => ?_) (fun hh => absurd (by omega) hh) | refine Br.ne (fun hh => absurd hh (by omega)) (fun _ => ?_) | refine ⟨_, rfl, ?_⟩ | rw [← List.map_drop, ← List.map_take]); conv => whnf)
    exact ⟨Ends.ground (H := []) (L := []) 0 rfl ⟨rfl, rfl⟩⟩
  | true =>
    by_cases h30 : l.length ≤ 30
    · by_cases hX0 : X = []
      · subst hX0
        (try conv => whnf); repeat ((first | refine (c_law12_awake).go rfl ?_ | refine ⟨_, (c_law12_awake).go rfl ⟨rfl, rfl⟩, ?_⟩ | refine (hb).go rfl ?_ | refine ⟨_, (hb).go rfl ⟨rfl, rfl⟩, ?_⟩ | refine (ga).go rfl ?_ | refine ⟨_, (ga).go rfl ⟨rfl, rfl⟩, ?_⟩ | refine And.intro (show cellsAll _ _ from by repeat (first | exact trivial | refine ⟨⟨rfl, rfl⟩, ?_⟩)) ?_ | refine ⟨_, getZ (by omega), ?_⟩ | refine ⟨_, getI (by omega) (by omega), ?_⟩ | refine ⟨by omega, rfl, ?_⟩ | refine ⟨by (simp; omega), rfl, ?_⟩ | refine ⟨rfl, _, rfl, ⟨rfl, rfl, by decide⟩, ?_⟩ | refine ⟨rfl, _, rfl, ?_⟩ | refine ⟨rfl, _, getO (by omega), ?_⟩ | refine ⟨rfl, ⟨by omega, by omega, by omega⟩, ?_⟩ | refine ⟨⟨rfl, rfl⟩, ?_⟩ | refine ⟨⟨rfl, rfl, rfl⟩, ?_⟩ | refine ⟨⟨rfl, rfl, by decide⟩, ?_⟩ | refine ⟨rfl, ?_⟩ | refine ⟨⟨by omega, by omega⟩, ⟨rfl, rfl⟩, ?_⟩ | refine ⟨in64 (by omega) (by omega), ?_⟩ | refine Br.dec (fun _ => ?_) (fun hh => absurd (by omega) hh) | refine Br.dec (fun hh => absurd hh (by omega)) (fun _ => ?_) | refine Br.eq (fun _ => ?_) (fun hh => absurd (by omega) hh) | refine Br.eq (fun hh => absurd hh (by omega)) (fun _ => ?_) | refine Br.ne (fun _ => ?_) (fun hh => absurd (by omega) hh) | refine Br.ne (fun hh => absurd hh (by omega)) (fun _ => ?_) | refine ⟨_, rfl, ?_⟩ | rw [← List.map_drop, ← List.map_take]); conv => whnf)
        exact ⟨Ends.ground (H := []) (L := []) 0 rfl ⟨rfl, rfl⟩⟩
      · have hXn : X.length ≠ 0 := fun e => hX0 (List.length_eq_zero_iff.1 e)
        have hne : afterS l p ≠ [] := by rw [hX]; exact hX0
        have hk := after_keeps hne
        obtain ⟨hmay, hnd, hok⟩ := after_ok hne
        have hmX2 := after_may hne
        have hlen := after_len (l := l) (p := p)
        rw [hX] at hk hok hmX2 hlen
        have gx := c_policy_May X (by omega)
        rw [hmX2] at gx
        have gv := c_ref12_Live X (by omega) hXl.1
        rw [hok.all] at gv
        have gl := c_ref12_Live l (by omega) (mayS_sane hmay)
        (try conv => whnf); repeat ((first | refine (c_law12_awake).go rfl ?_ | refine ⟨_, (c_law12_awake).go rfl ⟨rfl, rfl⟩, ?_⟩ | refine (hb).go rfl ?_ | refine ⟨_, (hb).go rfl ⟨rfl, rfl⟩, ?_⟩ | refine (ga).go rfl ?_ | refine ⟨_, (ga).go rfl ⟨rfl, rfl⟩, ?_⟩ | refine And.intro (show cellsAll _ _ from by repeat (first | exact trivial | refine ⟨⟨rfl, rfl⟩, ?_⟩)) ?_ | refine ⟨_, getZ (by omega), ?_⟩ | refine ⟨_, getI (by omega) (by omega), ?_⟩ | refine ⟨by omega, rfl, ?_⟩ | refine ⟨by (simp; omega), rfl, ?_⟩ | refine ⟨rfl, _, rfl, ⟨rfl, rfl, by decide⟩, ?_⟩ | refine ⟨rfl, _, rfl, ?_⟩ | refine ⟨rfl, _, getO (by omega), ?_⟩ | refine ⟨rfl, ⟨by omega, by omega, by omega⟩, ?_⟩ | refine ⟨⟨rfl, rfl⟩, ?_⟩ | refine ⟨⟨rfl, rfl, rfl⟩, ?_⟩ | refine ⟨⟨rfl, rfl, by decide⟩, ?_⟩ | refine ⟨rfl, ?_⟩ | refine ⟨⟨by omega, by omega⟩, ⟨rfl, rfl⟩, ?_⟩ | refine ⟨in64 (by omega) (by omega), ?_⟩ | refine Br.dec (fun _ => ?_) (fun hh => absurd (by omega) hh) | refine Br.dec (fun hh => absurd hh (by omega)) (fun _ => ?_) | refine Br.eq (fun _ => ?_) (fun hh => absurd (by omega) hh) | refine Br.eq (fun hh => absurd hh (by omega)) (fun _ => ?_) | refine Br.ne (fun _ => ?_) (fun hh => absurd (by omega) hh) | refine Br.ne (fun hh => absurd hh (by omega)) (fun _ => ?_) | refine ⟨_, rfl, ?_⟩ | rw [← List.map_drop, ← List.map_take]); conv => whnf)
        refine SW.loopR (α := Nat) (fun i => tm 88 [(0, sizes l), (1, .g (intss p)), (7, sizes X), (8, .g (.i i))]) (fun _ => []) (fun i => i ≤ l.length) (fun i => l.length - i) 0 ?_ ?_ ?_
        · exact Nat.zero_le _
        · exact Refi.sub rfl (by simp [subT, subV, tm, tmGo, sizes, tsizes, intss])
        · intro i hi
          dsimp only at hi ⊢
          conv => whnf
          refine Br.dec (fun h => ?_) (fun h => ?_)
          · have hi' : i < l.length := by omega
            have h1 := hk _ (List.getElem_mem hi')
            have g1 := c_ref12_Has p l[i].gen (by omega) hpx
            have g2 := c_law12_size X l[i].gen (by omega)
            by_cases hin : l[i].gen ∈ p.flatten
            · rw [if_pos hin] at h1
              rw [decide_eq_true hin] at g1
              rw [h1] at g2
              (try conv => whnf); repeat ((first | refine (g1).go rfl ?_ | refine ⟨_, (g1).go rfl ⟨rfl, rfl⟩, ?_⟩ | refine And.intro (show cellsAll _ _ from by repeat (first | exact trivial | refine ⟨⟨rfl, rfl⟩, ?_⟩)) ?_ | refine ⟨_, getZ (by omega), ?_⟩ | refine ⟨_, getI (by omega) (by omega), ?_⟩ | refine ⟨by omega, rfl, ?_⟩ | refine ⟨by (simp; omega), rfl, ?_⟩ | refine ⟨rfl, _, rfl, ⟨rfl, rfl, by decide⟩, ?_⟩ | refine ⟨rfl, _, rfl, ?_⟩ | refine ⟨rfl, _, getO (by omega), ?_⟩ | refine ⟨rfl, ⟨by omega, by omega, by omega⟩, ?_⟩ | refine ⟨⟨rfl, rfl⟩, ?_⟩ | refine ⟨⟨rfl, rfl, rfl⟩, ?_⟩ | refine ⟨⟨rfl, rfl, by decide⟩, ?_⟩ | refine ⟨rfl, ?_⟩ | refine ⟨⟨by omega, by omega⟩, ⟨rfl, rfl⟩, ?_⟩ | refine ⟨in64 (by omega) (by omega), ?_⟩ | refine Br.dec (fun _ => ?_) (fun hh => absurd (by omega) hh) | refine Br.dec (fun hh => absurd hh (by omega)) (fun _ => ?_) | refine Br.eq (fun _ => ?_) (fun hh => absurd (by omega) hh) | refine Br.eq (fun hh => absurd hh (by omega)) (fun _ => ?_) | refine Br.ne (fun _ => ?_) (fun hh => absurd (by omega) hh) | refine Br.ne (fun hh => absurd hh (by omega)) (fun _ => ?_) | refine ⟨_, rfl, ?_⟩ | rw [← List.map_drop, ← List.map_take]); conv => whnf)
              refine ACalls.fl g2 [] rfl rfl rfl flatH.nil (by rintro r h ⟨_, rfl⟩; exact flatH.nil) ?_
              rintro r h ⟨rfl, rfl⟩
              (try conv => whnf); repeat ((first | refine And.intro (show cellsAll _ _ from by repeat (first | exact trivial | refine ⟨⟨rfl, rfl⟩, ?_⟩)) ?_ | refine ⟨_, getZ (by omega), ?_⟩ | refine ⟨_, getI (by omega) (by omega), ?_⟩ | refine ⟨by omega, rfl, ?_⟩ | refine ⟨by (simp; omega), rfl, ?_⟩ | refine ⟨rfl, _, rfl, ⟨rfl, rfl, by decide⟩, ?_⟩ | refine ⟨rfl, _, rfl, ?_⟩ | refine ⟨rfl, _, getO (by omega), ?_⟩ | refine ⟨rfl, ⟨by omega, by omega, by omega⟩, ?_⟩ | refine ⟨⟨rfl, rfl⟩, ?_⟩ | refine ⟨⟨rfl, rfl, rfl⟩, ?_⟩ | refine ⟨⟨rfl, rfl, by decide⟩, ?_⟩ | refine ⟨rfl, ?_⟩ | refine ⟨⟨by omega, by omega⟩, ⟨rfl, rfl⟩, ?_⟩ | refine ⟨in64 (by omega) (by omega), ?_⟩ | refine Br.dec (fun _ => ?_) (fun hh => absurd (by omega) hh) | refine Br.dec (fun hh => absurd hh (by omega)) (fun _ => ?_) | refine Br.eq (fun _ => ?_) (fun hh => absurd (by omega) hh) | refine Br.eq (fun hh => absurd hh (by omega)) (fun _ => ?_) | refine Br.ne (fun _ => ?_) (fun hh => absurd (by omega) hh) | refine Br.ne (fun hh => absurd hh (by omega)) (fun _ => ?_) | refine ⟨_, rfl, ?_⟩ | rw [← List.map_drop, ← List.map_take]); conv => whnf)
              exact ⟨⟨i + 1, hi', by omega, Refi.back (L := [_]) rfl (Nat.zero_le _) (fun _ h => by cases h) (by simp [subT, subV, tm, tmGo, sizes, intss, cutV, ltB, ltS])⟩⟩
            · rw [if_neg hin] at h1
              rw [decide_eq_false hin] at g1
              rw [h1, Option.getD_some] at g2
              (try conv => whnf); repeat ((first | refine (g1).go rfl ?_ | refine ⟨_, (g1).go rfl ⟨rfl, rfl⟩, ?_⟩ | refine And.intro (show cellsAll _ _ from by repeat (first | exact trivial | refine ⟨⟨rfl, rfl⟩, ?_⟩)) ?_ | refine ⟨_, getZ (by omega), ?_⟩ | refine ⟨_, getI (by omega) (by omega), ?_⟩ | refine ⟨by omega, rfl, ?_⟩ | refine ⟨by (simp; omega), rfl, ?_⟩ | refine ⟨rfl, _, rfl, ⟨rfl, rfl, by decide⟩, ?_⟩ | refine ⟨rfl, _, rfl, ?_⟩ | refine ⟨rfl, _, getO (by omega), ?_⟩ | refine ⟨rfl, ⟨by omega, by omega, by omega⟩, ?_⟩ | refine ⟨⟨rfl, rfl⟩, ?_⟩ | refine ⟨⟨rfl, rfl, rfl⟩, ?_⟩ | refine ⟨⟨rfl, rfl, by decide⟩, ?_⟩ | refine ⟨rfl, ?_⟩ | refine ⟨⟨by omega, by omega⟩, ⟨rfl, rfl⟩, ?_⟩ | refine ⟨in64 (by omega) (by omega), ?_⟩ | refine Br.dec (fun _ => ?_) (fun hh => absurd (by omega) hh) | refine Br.dec (fun hh => absurd hh (by omega)) (fun _ => ?_) | refine Br.eq (fun _ => ?_) (fun hh => absurd (by omega) hh) | refine Br.eq (fun hh => absurd hh (by omega)) (fun _ => ?_) | refine Br.ne (fun _ => ?_) (fun hh => absurd (by omega) hh) | refine Br.ne (fun hh => absurd hh (by omega)) (fun _ => ?_) | refine ⟨_, rfl, ?_⟩ | rw [← List.map_drop, ← List.map_take]); conv => whnf)
              refine ACalls.fl g2 [] rfl rfl rfl flatH.nil (by rintro r h ⟨_, rfl⟩; exact flatH.nil) ?_
              rintro r h ⟨rfl, rfl⟩
              (try conv => whnf); repeat ((first | refine And.intro (show cellsAll _ _ from by repeat (first | exact trivial | refine ⟨⟨rfl, rfl⟩, ?_⟩)) ?_ | refine ⟨_, getZ (by omega), ?_⟩ | refine ⟨_, getI (by omega) (by omega), ?_⟩ | refine ⟨by omega, rfl, ?_⟩ | refine ⟨by (simp; omega), rfl, ?_⟩ | refine ⟨rfl, _, rfl, ⟨rfl, rfl, by decide⟩, ?_⟩ | refine ⟨rfl, _, rfl, ?_⟩ | refine ⟨rfl, _, getO (by omega), ?_⟩ | refine ⟨rfl, ⟨by omega, by omega, by omega⟩, ?_⟩ | refine ⟨⟨rfl, rfl⟩, ?_⟩ | refine ⟨⟨rfl, rfl, rfl⟩, ?_⟩ | refine ⟨⟨rfl, rfl, by decide⟩, ?_⟩ | refine ⟨rfl, ?_⟩ | refine ⟨⟨by omega, by omega⟩, ⟨rfl, rfl⟩, ?_⟩ | refine ⟨in64 (by omega) (by omega), ?_⟩ | refine Br.dec (fun _ => ?_) (fun hh => absurd (by omega) hh) | refine Br.dec (fun hh => absurd hh (by omega)) (fun _ => ?_) | refine Br.eq (fun _ => ?_) (fun hh => absurd (by omega) hh) | refine Br.eq (fun hh => absurd hh (by omega)) (fun _ => ?_) | refine Br.ne (fun _ => ?_) (fun hh => absurd (by omega) hh) | refine Br.ne (fun hh => absurd hh (by omega)) (fun _ => ?_) | refine ⟨_, rfl, ?_⟩ | rw [← List.map_drop, ← List.map_take]); conv => whnf)
              rw [show ∀ a : Sz, (a.gen == a.gen && (a.docs == a.docs && (a.dead == a.dead && (a.busy == a.busy && true)))) = true from fun a => by simp]
              (try conv => whnf); repeat ((first | refine And.intro (show cellsAll _ _ from by repeat (first | exact trivial | refine ⟨⟨rfl, rfl⟩, ?_⟩)) ?_ | refine ⟨_, getZ (by omega), ?_⟩ | refine ⟨_, getI (by omega) (by omega), ?_⟩ | refine ⟨by omega, rfl, ?_⟩ | refine ⟨by (simp; omega), rfl, ?_⟩ | refine ⟨rfl, _, rfl, ⟨rfl, rfl, by decide⟩, ?_⟩ | refine ⟨rfl, _, rfl, ?_⟩ | refine ⟨rfl, _, getO (by omega), ?_⟩ | refine ⟨rfl, ⟨by omega, by omega, by omega⟩, ?_⟩ | refine ⟨⟨rfl, rfl⟩, ?_⟩ | refine ⟨⟨rfl, rfl, rfl⟩, ?_⟩ | refine ⟨⟨rfl, rfl, by decide⟩, ?_⟩ | refine ⟨rfl, ?_⟩ | refine ⟨⟨by omega, by omega⟩, ⟨rfl, rfl⟩, ?_⟩ | refine ⟨in64 (by omega) (by omega), ?_⟩ | refine Br.dec (fun _ => ?_) (fun hh => absurd (by omega) hh) | refine Br.dec (fun hh => absurd hh (by omega)) (fun _ => ?_) | refine Br.eq (fun _ => ?_) (fun hh => absurd (by omega) hh) | refine Br.eq (fun hh => absurd hh (by omega)) (fun _ => ?_) | refine Br.ne (fun _ => ?_) (fun hh => absurd (by omega) hh) | refine Br.ne (fun hh => absurd hh (by omega)) (fun _ => ?_) | refine ⟨_, rfl, ?_⟩ | rw [← List.map_drop, ← List.map_take]); conv => whnf)
              exact ⟨⟨i + 1, hi', by omega, Refi.back (L := [_]) rfl (Nat.zero_le _) (fun _ h => by cases h) (by simp [subT, subV, tm, tmGo, sizes, intss, cutV, ltB, ltS])⟩⟩
          · (try conv => whnf); repeat ((first | refine (gx).go rfl ?_ | refine ⟨_, (gx).go rfl ⟨rfl, rfl⟩, ?_⟩ | refine (gv).go rfl ?_ | refine ⟨_, (gv).go rfl ⟨rfl, rfl⟩, ?_⟩ | refine (gl).go rfl ?_ | refine ⟨_, (gl).go rfl ⟨rfl, rfl⟩, ?_⟩ | refine And.intro (show cellsAll _ _ from by repeat (first | exact trivial | refine ⟨⟨rfl, rfl⟩, ?_⟩)) ?_ | refine ⟨_, getZ (by omega), ?_⟩ | refine ⟨_, getI (by omega) (by omega), ?_⟩ | refine ⟨by omega, rfl, ?_⟩ | refine ⟨by (simp; omega), rfl, ?_⟩ | refine ⟨rfl, _, rfl, ⟨rfl, rfl, by decide⟩, ?_⟩ | refine ⟨rfl, _, rfl, ?_⟩ | refine ⟨rfl, _, getO (by omega), ?_⟩ | refine ⟨rfl, ⟨by omega, by omega, by omega⟩, ?_⟩ | refine ⟨⟨rfl, rfl⟩, ?_⟩ | refine ⟨⟨rfl, rfl, rfl⟩, ?_⟩ | refine ⟨⟨rfl, rfl, by decide⟩, ?_⟩ | refine ⟨rfl, ?_⟩ | refine ⟨⟨by omega, by omega⟩, ⟨rfl, rfl⟩, ?_⟩ | refine ⟨in64 (by omega) (by omega), ?_⟩ | refine Br.dec (fun _ => ?_) (fun hh => absurd (by omega) hh) | refine Br.dec (fun hh => absurd hh (by omega)) (fun _ => ?_) | refine Br.eq (fun _ => ?_) (fun hh => absurd (by omega) hh) | refine Br.eq (fun hh => absurd hh (by omega)) (fun _ => ?_) | refine Br.ne (fun _ => ?_) (fun hh => absurd (by omega) hh) | refine Br.ne (fun hh => absurd hh (by omega)) (fun _ => ?_) | refine ⟨_, rfl, ?_⟩ | rw [← List.map_drop, ← List.map_take]); conv => whnf)
            exact ⟨Ends.ground (H := []) (L := []) 0 rfl ⟨by simpa using hlen, rfl⟩⟩
    · (try conv => whnf); repeat ((first | refine (c_law12_awake).go rfl ?_ | refine ⟨_, (c_law12_awake).go rfl ⟨rfl, rfl⟩, ?_⟩ | refine (hb).go rfl ?_ | refine ⟨_, (hb).go rfl ⟨rfl, rfl⟩, ?_⟩ | refine (ga).go rfl ?_ | refine ⟨_, (ga).go rfl ⟨rfl, rfl⟩, ?_⟩ | refine And.intro (show cellsAll _ _ from by repeat (first | exact trivial | refine ⟨⟨rfl, rfl⟩, ?_⟩)) ?_ | refine ⟨_, getZ (by omega), ?_⟩ | refine ⟨_, getI (by omega) (by omega), ?_⟩ | refine ⟨by omega, rfl, ?_⟩ | refine ⟨by (simp; omega), rfl, ?_⟩ | refine ⟨rfl, _, rfl, ⟨rfl, rfl, by decide⟩, ?_⟩ | refine ⟨rfl, _, rfl, ?_⟩ | refine ⟨rfl, _, getO (by omega), ?_⟩ | refine ⟨rfl, ⟨by omega, by omega, by omega⟩, ?_⟩ | refine ⟨⟨rfl, rfl⟩, ?_⟩ | refine ⟨⟨rfl, rfl, rfl⟩, ?_⟩ | refine ⟨⟨rfl, rfl, by decide⟩, ?_⟩ | refine ⟨rfl, ?_⟩ | refine ⟨⟨by omega, by omega⟩, ⟨rfl, rfl⟩, ?_⟩ | refine ⟨in64 (by omega) (by omega), ?_⟩ | refine Br.dec (fun _ => ?_) (fun hh => absurd (by omega) hh) | refine Br.dec (fun hh => absurd hh (by omega)) (fun _ => ?_) | refine Br.eq (fun _ => ?_) (fun hh => absurd (by omega) hh) | refine Br.eq (fun hh => absurd hh (by omega)) (fun _ => ?_) | refine Br.ne (fun _ => ?_) (fun hh => absurd (by omega) hh) | refine Br.ne (fun hh => absurd hh (by omega)) (fun _ => ?_) | refine ⟨_, rfl, ?_⟩ | rw [← List.map_drop, ← List.map_take]); conv => whnf)
      exact ⟨Ends.ground (H := []) (L := []) 0 rfl ⟨rfl, rfl⟩⟩
end Go.Aw
namespace Go.Aw
open Go.Proofs
set_option maxRecDepth 100000
set_option maxHeartbeats 4000000

theorem bTs_ints : ∀ (xs : List Int), bTs (xs.map T.i) = xs.length
  | [] => rfl
  | x :: xs => by simp [bTs, bT, bTs_ints xs]; omega
theorem bTs_intss : ∀ (xs : List (List Int)), xs.length + xs.flatten.length ≤ bTs (xs.map tints)
  | [] => by simp [bTs]
  | x :: xs => by
    have := bTs_intss xs
    simp only [List.length_cons, List.flatten_cons, List.length_append, List.map_cons, bTs, bT, tints, bTs_ints] at this ⊢; omega
theorem bTs_sizes : ∀ (xs : List Sz), xs.length ≤ bTs (xs.map tsize)
  | [] => by simp [bTs]
  | x :: xs => by
    have := bTs_sizes xs
    simp [bTs, bT, tsize]; omega

theorem c_law12_PolicyKeeps_upto : ∀ ys, TVs [.sl 4 (.fc (.i .i64) (.fc (.i .i64) (.fc (.i .i64) (.fc .b .fn)))), .sl 1 (.sl 1 (.i .i64))] ys → bTs ys ≤ 1048576 → CG Try.prog 8 ys (.b true) := by
  intro ys hy hb
  obtain ⟨y0, ys, rfl, h0, hy⟩ := tvs_cons hy
  obtain ⟨y1, ys, rfl, h1, hy⟩ := tvs_cons hy
  cases tvs_nil hy
  obtain ⟨l, rfl, _⟩ := tv_sizes h0
  obtain ⟨p, rfl, _, _⟩ := tv_intss h1
  have a1 := bTs_sizes l
  have a2 := bTs_intss p
  simp only [bTs, tsizes, intss, bT] at hb
  exact c_keeps l p (by omega) (by omega) (by omega)
end Go.Aw
