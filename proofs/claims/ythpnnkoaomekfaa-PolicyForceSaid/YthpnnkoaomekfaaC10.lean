/- Contracts of functions of the given program, by the abstract walk, for law PolicyForce: what each one hands back; no condition but those that each theorem states. -/
import Derived.Test.YthpnnkoaomekfaaC9
namespace Go.Aw
open Go.Proofs
set_option maxRecDepth 100000
set_option maxHeartbeats 4000000

theorem allS_perm {a b : List Sz} (h : a.Perm b) : allS a = allS b := by
  induction h with
  | nil => rfl
  | cons x _ ih => simp only [allS, ih]
  | swap x y l => simp only [allS]; omega
  | trans _ _ ih1 ih2 => rw [ih1, ih2]
theorem allS_sub {a b : List Sz} (h : a.Sublist b) (hs : ∀ s ∈ b, sane s) : allS a ≤ allS b := by
  induction h with
  | slnil => exact Int.le_refl _
  | cons x _ ih =>
    have h1 := ih fun s hm => hs s (by simp [hm])
    have h2 := sane_live (hs x (by simp))
    simp only [allS]; omega
  | cons_cons x _ ih =>
    have h1 := ih fun s hm => hs s (by simp [hm])
    simp only [allS]; omega
theorem gens_nodup {l : List Sz} (h : (gensS l).Nodup) : l.Nodup := (List.pairwise_map.1 h).imp fun h e => h (congrArg Sz.gen e)
theorem gens_inj {l : List Sz} (hn : (gensS l).Nodup) {y z : Sz} (hy : y ∈ l) (hz : z ∈ l) (e : y.gen = z.gen) : y = z := by
  have h1 := size_mem hn hy
  have h2 := size_mem hn hz
  rw [e, h2] at h1
  exact (Option.some.inj h1).symm
theorem pick_perm {l S : List Sz} (hn : (gensS l).Nodup) (hS : (gensS S).Nodup) (hsub : ∀ y ∈ S, y ∈ l) : (pick l (gensS S)).Perm S := by
  refine (List.perm_ext_iff_of_nodup ((gens_nodup hn).sublist List.filter_sublist) (gens_nodup hS)).2 fun y => ?_
  show y ∈ l.filter (inP (gensS S)) ↔ y ∈ S
  rw [List.mem_filter, inP, decide_eq_true_eq]
  constructor
  · rintro ⟨h1, h2⟩
    obtain ⟨z, hz, e⟩ := List.mem_map.1 h2
    rw [gens_inj hn h1 (hsub z hz) e.symm]; exact hz
  · exact fun h => ⟨hsub y h, List.mem_map.2 ⟨y, h, rfl⟩⟩
/-- proposals of unlike ones that are there, of not too much, are done -/
theorem fold_some {was : List Int} : ∀ {p : List (List Int)} {l : List Sz} {g : Int}, (gensS l).Nodup → (∀ s ∈ l, sane s) → (∀ s ∈ l, s.gen ≤ g) → p.flatten.Nodup →
    (∀ x ∈ p, (∀ y ∈ x, y ∈ was) ∧ ∃ S, x = gensS S ∧ S ≠ [] ∧ (∀ y ∈ S, y ∈ l) ∧ allS S ≤ 64) → g + p.length ≤ 34359738367 → ∃ o, foldA was p l g = some o
  | [], l, g, _, _, _, _, _, _ => ⟨l, rfl⟩
  | x :: r, l, g, hn, hs, hg, hnd, hp, hb => by
    rw [List.flatten_cons, List.nodup_append] at hnd
    obtain ⟨n1, n2, n3⟩ := hnd
    rw [List.length_cons] at hb
    obtain ⟨hw, S, hS, hS0, hSl, hSa⟩ := hp x (by simp)
    have hpm := pick_perm hn (hS ▸ n1) hSl
    rw [← hS] at hpm
    have hS1 : S.length ≠ 0 := fun e => hS0 (List.length_eq_zero_iff.1 e)
    have hxl : x.length = S.length := by rw [hS]; simp [gensS]
    obtain ⟨now, hnow⟩ : ∃ now, oneS l x (g + 1) = some now := by
      refine ⟨_, if_neg ?_⟩
      rw [hpm.length_eq, allS_perm hpm]
      rintro (h | h | h | h) <;> omega
    have h1 := one_ok hn hs (fun s hm => by have := hg s hm; omega) hnow
    obtain ⟨h2, _⟩ := one_sane hs hnow
    obtain ⟨o, ho⟩ := fold_some (was := was) (p := r) (g := g + 1) h1.nd h2 (fun s hm => by
      rcases h1.mem s hm with ⟨h3, _⟩ | ⟨h3, _⟩
      · have := hg s h3; omega
      · omega) n2 (fun z hz => by
        obtain ⟨q1, T, q2, q3, q4, q5⟩ := hp z (by simp [hz])
        refine ⟨q1, T, q2, q3, fun y hy => h1.stay y (q4 y hy) fun hyx => ?_, q5⟩
        exact n3 y.gen hyx y.gen (List.mem_flatten.2 ⟨z, hz, q2 ▸ List.mem_map.2 ⟨y, hy, rfl⟩⟩) rfl) (by omega)
    refine ⟨o, ?_⟩
    rw [foldA, hnow]
    dsimp only
    rw [if_neg, ho]
    rw [Bool.not_eq_true, List.any_eq_false]
    intro y hy
    rw [decide_eq_true (hw y hy)]; simp
theorem idle_all {l : List Sz} (h : ∀ s ∈ l, s.busy = false) : idleS l = l := List.filter_eq_self.2 fun s hs => by rw [h s hs]; rfl
theorem flat_singles (L : List Sz) : (L.map fun x => [x.gen]).flatten = gensS L := by
  induction L with
  | nil => rfl
  | cons a L ih => rw [List.map_cons, List.flatten_cons, ih]; rfl
/-- PolicyForce -/
theorem force_after {l : List Sz} {n : Int} (hm : mayS l = true) (h1 : 1 ≤ n) (hb : ∀ s ∈ l, s.busy = false) (hg : ∀ s ∈ l, s.gen ≤ 1073741824) (ha : allS l ≤ 64) :
    (∀ s ∈ afterS l (forceS l n), s.dead = 0) ∧ ((afterS l (forceS l n)).length : Int) ≤ n ∧ allS (afterS l (forceS l n)) = allS l := by
  have hn := mayS_nodup hm
  have hs := mayS_sane hm
  have hgood := good_force (l := l) (n := n)
  have hsm := force_small (l := l) (n := n)
  have hf : forceS l n = aloneS l (forceP l n) deadS := by rw [forceS, if_pos ⟨hm, h1⟩]
  have hid := idle_all hb
  have htop : topS l ≤ 1073741824 := (foldl_max_le (by omega) fun x hx => by
    obtain ⟨s, hs, rfl⟩ := List.mem_map.1 hx; exact hg s hs).1
  obtain ⟨o, ho⟩ := fold_some (was := gensS l) (p := forceS l n) hn hs le_topS hgood.nd (fun x hx => by
    have key : ∀ S : List Sz, S.Sublist l → S ≠ [] → x = gensS S → (∀ y ∈ x, y ∈ gensS l) ∧ ∃ S, x = gensS S ∧ S ≠ [] ∧ (∀ y ∈ S, y ∈ l) ∧ allS S ≤ 64 := fun S h2 h3 h4 =>
      ⟨fun y hy => (gens_sub h2).subset (h4 ▸ hy), S, h4, h3, fun y hy => h2.subset hy, by have := allS_sub h2 hs; omega⟩
    rw [hf, aloneS, List.mem_append] at hx
    rcases hx with hx | hx
    · rw [forceP] at hx
      split at hx
      · simp only [List.mem_singleton] at hx
        refine key _ ((List.take_sublist _ _).trans List.filter_sublist) (fun e => ?_) hx
        have := congrArg List.length e
        rw [List.length_take, List.length_nil, show (l.filter fun s => !s.busy).length = (idleS l).length from rfl] at this
        omega
      · simp at hx
    · obtain ⟨y, hy, rfl⟩ := List.mem_map.1 hx
      have hsub : (aloneA l (forceP l n) deadS).Sublist l := (List.filter_sublist).trans List.filter_sublist
      exact key [y] (List.singleton_sublist.2 (hsub.subset hy)) (by simp) rfl) (by omega)
  have hok := fold_ok hn hs le_topS (fun x hx => by
    obtain ⟨s, hs, rfl⟩ := List.mem_map.1 hx; exact le_topS s hs) ho
  have haf : afterS l (forceS l n) = o := by rw [afterS, if_pos ⟨hm, hgood.nd⟩, ho]; rfl
  rw [haf]
  refine ⟨fun y hy => ?_, ?_, hok.all⟩
  · rcases hok.mem y hy with ⟨h2, h3⟩ | ⟨_, _, h3, _⟩
    · have hsy := hs y h2
      unfold sane at hsy
      by_cases hd : y.dead = 0
      · exact hd
      · exfalso
        apply h3
        rw [hf, aloneS, List.flatten_append, List.mem_append]
        by_cases hp : y.gen ∈ (forceP l n).flatten
        · exact .inl hp
        · refine .inr ?_
          rw [flat_singles]
          refine List.mem_map.2 ⟨y, ?_, rfl⟩
          rw [aloneA, hid, List.mem_filter]
          refine ⟨h2, ?_⟩
          rw [decide_eq_false hp, deadS, decide_eq_true (by omega)]; rfl
    · exact h3
  · have h2 := hok.len
    rw [hf, aloneS, List.flatten_append, List.length_append, List.length_append, flat_singles, List.length_map] at h2
    have h4 : (gensS (aloneA l (forceP l n) deadS)).length = (aloneA l (forceP l n) deadS).length := gens_len
    have h3 : (forceP l n).flatten.length + n.toNat ≥ l.length + (forceP l n).length := by
      rw [forceP, hid]
      split
      · simp [gensS]; omega
      · simp; omega
    omega

theorem c_ref12_Live (l : List Sz) (hl : l.length < 1000000000) (hsn : ∀ s ∈ l, sane s) : CG Try.prog 27 [tsizes l] (.i (allS l)) := by
  refine ⟨k_ref12_Live.calls ?_⟩
  have hm : (l.map tsize).length = l.length := by simp
  (try conv => whnf); repeat ((first | refine And.intro (show cellsAll _ _ from by repeat (first | exact trivial | refine ⟨⟨rfl, rfl⟩, ?_⟩)) ?_ | refine ⟨_, getZ (by omega), ?_⟩ | refine ⟨_, getI (by omega) (by omega), ?_⟩ | refine ⟨by omega, rfl, ?_⟩ | refine ⟨by (simp; omega), rfl, ?_⟩ | refine ⟨rfl, _, rfl, ⟨rfl, rfl, by decide⟩, ?_⟩ | refine ⟨rfl, _, rfl, ?_⟩ | refine ⟨rfl, _, getO (by omega), ?_⟩ | refine ⟨rfl, ⟨by omega, by omega, by omega⟩, ?_⟩ | refine ⟨⟨rfl, rfl⟩, ?_⟩ | refine ⟨⟨rfl, rfl, rfl⟩, ?_⟩ | refine ⟨⟨rfl, rfl, by decide⟩, ?_⟩ | refine ⟨rfl, ?_⟩ | refine ⟨⟨by omega, by omega⟩, ⟨rfl, rfl⟩, ?_⟩ | refine ⟨in64 (by omega) (by omega), ?_⟩ | refine Br.dec (fun _ => ?_) (fun hh => absurd (by omega) hh) | refine Br.dec (fun hh => absurd hh (by omega)) (fun _ => ?_) | refine Br.eq (fun _ => ?_) (fun hh => absurd (by omega) hh) | refine Br.eq (fun hh => absurd hh (by omega)) (fun _ => ?_) | refine Br.ne (fun _ => ?_) (fun hh => absurd (by omega) hh) | refine Br.ne (fun hh => absurd hh (by omega)) (fun _ => ?_) | refine ⟨_, rfl, ?_⟩ | rw [← List.map_drop, ← List.map_take]); conv => whnf)
  refine SW.loopR (α := Nat) (fun k => tm 25 [(0, sizes l), (3, .g (.i (allS (l.take k)))), (4, .g (.i k))]) (fun _ => []) (fun k => k ≤ l.length) (fun k => l.length - k) 0 ?_ ?_ ?_
  · exact Nat.zero_le _
  · exact Refi.sub rfl (by simp [subT, subV, tm, tmGo, sizes, tsizes, allS])
  · intro k hk
    dsimp only at hk ⊢
    conv => whnf
    refine Br.dec (fun h => ?_) (fun h => ?_)
    · have hk' : k < l.length := by omega
      have htk : l.take (k + 1) = l.take k ++ [l[k]] := List.take_succ_eq_append_getElem hk'
      have hs := hsn _ (List.getElem_mem hk')
      unfold sane at hs
      have hb := allS_le (l := l.take k) (fun s hs => hsn s (List.mem_of_mem_take hs))
      have hlt : (l.take k).length = k := by simp; omega
      (try conv => whnf); repeat ((first | refine And.intro (show cellsAll _ _ from by repeat (first | exact trivial | refine ⟨⟨rfl, rfl⟩, ?_⟩)) ?_ | refine ⟨_, getZ (by omega), ?_⟩ | refine ⟨_, getI (by omega) (by omega), ?_⟩ | refine ⟨by omega, rfl, ?_⟩ | refine ⟨by (simp; omega), rfl, ?_⟩ | refine ⟨rfl, _, rfl, ⟨rfl, rfl, by decide⟩, ?_⟩ | refine ⟨rfl, _, rfl, ?_⟩ | refine ⟨rfl, _, getO (by omega), ?_⟩ | refine ⟨rfl, ⟨by omega, by omega, by omega⟩, ?_⟩ | refine ⟨⟨rfl, rfl⟩, ?_⟩ | refine ⟨⟨rfl, rfl, rfl⟩, ?_⟩ | refine ⟨⟨rfl, rfl, by decide⟩, ?_⟩ | refine ⟨rfl, ?_⟩ | refine ⟨⟨by omega, by omega⟩, ⟨rfl, rfl⟩, ?_⟩ | refine ⟨in64 (by omega) (by omega), ?_⟩ | refine Br.dec (fun _ => ?_) (fun hh => absurd (by omega) hh) | refine Br.dec (fun hh => absurd hh (by omega)) (fun _ => ?_) | refine Br.eq (fun _ => ?_) (fun hh => absurd (by omega) hh) | refine Br.eq (fun hh => absurd hh (by omega)) (fun _ => ?_) | refine Br.ne (fun _ => ?_) (fun hh => absurd (by omega) hh) | refine Br.ne (fun hh => absurd hh (by omega)) (fun _ => ?_) | refine ⟨_, rfl, ?_⟩ | rw [← List.map_drop, ← List.map_take]); conv => whnf)
      refine ⟨⟨k + 1, hk', by omega, Refi.sub rfl ?_⟩⟩
      rw [htk, allS_app]; simp [allS, Sz.live, subT, subV, tm, tmGo, sizes]; omega
    · (try conv => whnf); repeat ((first | refine And.intro (show cellsAll _ _ from by repeat (first | exact trivial | refine ⟨⟨rfl, rfl⟩, ?_⟩)) ?_ | refine ⟨_, getZ (by omega), ?_⟩ | refine ⟨_, getI (by omega) (by omega), ?_⟩ | refine ⟨by omega, rfl, ?_⟩ | refine ⟨by (simp; omega), rfl, ?_⟩ | refine ⟨rfl, _, rfl, ⟨rfl, rfl, by decide⟩, ?_⟩ | refine ⟨rfl, _, rfl, ?_⟩ | refine ⟨rfl, _, getO (by omega), ?_⟩ | refine ⟨rfl, ⟨by omega, by omega, by omega⟩, ?_⟩ | refine ⟨⟨rfl, rfl⟩, ?_⟩ | refine ⟨⟨rfl, rfl, rfl⟩, ?_⟩ | refine ⟨⟨rfl, rfl, by decide⟩, ?_⟩ | refine ⟨rfl, ?_⟩ | refine ⟨⟨by omega, by omega⟩, ⟨rfl, rfl⟩, ?_⟩ | refine ⟨in64 (by omega) (by omega), ?_⟩ | refine Br.dec (fun _ => ?_) (fun hh => absurd (by omega) hh) | refine Br.dec (fun hh => absurd hh (by omega)) (fun _ => ?_) | refine Br.eq (fun _ => ?_) (fun hh => absurd (by omega) hh) | refine Br.eq (fun hh => absurd hh (by omega)) (fun _ => ?_) | refine Br.ne (fun _ => ?_) (fun hh => absurd (by omega) hh) | refine Br.ne (fun hh => absurd hh (by omega)) (fun _ => ?_) | refine ⟨_, rfl, ?_⟩ | rw [← List.map_drop, ← List.map_take]); conv => whnf)
      have : k = l.length := by omega
      subst this
      rw [List.take_length]
      exact ⟨Ends.keep ⟨rfl, rfl⟩⟩
end Go.Aw
namespace Go.Aw
open Go.Proofs
set_option maxRecDepth 100000
set_option maxHeartbeats 4000000

theorem c_law12_PolicyForce : ∀ ys, TVs [.sl 4 (.fc (.i .i64) (.fc (.i .i64) (.fc (.i .i64) (.fc .b .fn)))), .i .i64] ys → CG Try.prog 7 ys (.b true) := by
  intro ys hy
  obtain ⟨y0, ys, rfl, h0, hy⟩ := tvs_cons hy
  obtain ⟨y1, ys, rfl, h1, hy⟩ := tvs_cons hy
  cases tvs_nil hy
  obtain ⟨l, rfl, hl⟩ := tv_sizes h0
  obtain ⟨n, rfl, hn⟩ := tv_int h1
  unfold maxLen at hl
  refine ⟨k_law12_PolicyForce.calls ?_⟩
  have hm : (l.map tsize).length = l.length := by simp
  by_cases h30 : l.length ≤ 30
  · have gm := c_policy_May l (by omega)
    cases hmay : mayS l <;> rw [hmay] at gm
    · (try conv => whnf); repeat ((first | refine (c_law12_awake).go rfl ?_ | refine ⟨_, (c_law12_awake).go rfl ⟨rfl, rfl⟩, ?_⟩ | refine (gm).go rfl ?_ | refine ⟨_, (gm).go rfl ⟨rfl, rfl⟩, ?_⟩ | refine And.intro (show cellsAll _ _ from by repeat (first | exact trivial | refine ⟨⟨rfl, rfl⟩, ?_⟩)) ?_ | refine ⟨_, getZ (by omega), ?_⟩ | refine ⟨_, getI (by omega) (by omega), ?_⟩ | refine ⟨by omega, rfl, ?_⟩ | refine ⟨by (simp; omega), rfl, ?_⟩ | refine ⟨rfl, _, rfl, ⟨rfl, rfl, by decide⟩, ?_⟩ | refine ⟨rfl, _, rfl, ?_⟩ | refine ⟨rfl, _, getO (by omega), ?_⟩ | refine ⟨rfl, ⟨by omega, by omega, by omega⟩, ?_⟩ | refine ⟨⟨rfl, rfl⟩, ?_⟩ | refine ⟨⟨rfl, rfl, rfl⟩, ?_⟩ | refine ⟨⟨rfl, rfl, by decide⟩, ?_⟩ | refine ⟨rfl, ?_⟩ | refine ⟨⟨by omega, by omega⟩, ⟨rfl, rfl⟩, ?_⟩ | refine ⟨in64 (by omega) (by omega), ?_⟩ | refine Br.dec (fun _ => ?_) (fun hh => absurd (by omega) hh) | refine Br.dec (fun hh => absurd hh (by omega)) (fun _ => ?_) | refine Br.eq (fun _ => ?_) (fun hh => absurd (by omega) hh) | refine Br.eq (fun hh => absurd hh (by omega)) (fun _ => ?_) | refine Br.ne (fun _ => ?_) (fun hh => absurd (by omega) hh) | refine Br.ne (fun hh => absurd hh (by omega)) (fun _ => ?_) | refine ⟨_, rfl, ?_⟩ | rw [← List.map_drop, ← List.map_take]); conv => whnf)
      exact ⟨Ends.ground (H := []) (L := []) 0 rfl ⟨rfl, rfl⟩⟩
    by_cases hn1 : n < 1
    · (try conv => whnf); repeat ((first | refine (c_law12_awake).go rfl ?_ | refine ⟨_, (c_law12_awake).go rfl ⟨rfl, rfl⟩, ?_⟩ | refine (gm).go rfl ?_ | refine ⟨_, (gm).go rfl ⟨rfl, rfl⟩, ?_⟩ | refine And.intro (show cellsAll _ _ from by repeat (first | exact trivial | refine ⟨⟨rfl, rfl⟩, ?_⟩)) ?_ | refine ⟨_, getZ (by omega), ?_⟩ | refine ⟨_, getI (by omega) (by omega), ?_⟩ | refine ⟨by omega, rfl, ?_⟩ | refine ⟨by (simp; omega), rfl, ?_⟩ | refine ⟨rfl, _, rfl, ⟨rfl, rfl, by decide⟩, ?_⟩ | refine ⟨rfl, _, rfl, ?_⟩ | refine ⟨rfl, _, getO (by omega), ?_⟩ | refine ⟨rfl, ⟨by omega, by omega, by omega⟩, ?_⟩ | refine ⟨⟨rfl, rfl⟩, ?_⟩ | refine ⟨⟨rfl, rfl, rfl⟩, ?_⟩ | refine ⟨⟨rfl, rfl, by decide⟩, ?_⟩ | refine ⟨rfl, ?_⟩ | refine ⟨⟨by omega, by omega⟩, ⟨rfl, rfl⟩, ?_⟩ | refine ⟨in64 (by omega) (by omega), ?_⟩ | refine Br.dec (fun _ => ?_) (fun hh => absurd (by omega) hh) | refine Br.dec (fun hh => absurd hh (by omega)) (fun _ => ?_) | refine Br.eq (fun _ => ?_) (fun hh => absurd (by omega) hh) | refine Br.eq (fun hh => absurd hh (by omega)) (fun _ => ?_) | refine Br.ne (fun _ => ?_) (fun hh => absurd (by omega) hh) | refine Br.ne (fun hh => absurd hh (by omega)) (fun _ => ?_) | refine ⟨_, rfl, ?_⟩ | rw [← List.map_drop, ← List.map_take]); conv => whnf)
      exact ⟨Ends.ground (H := []) (L := []) 0 rfl ⟨rfl, rfl⟩⟩
    have hs := mayS_sane hmay
    have gl := c_ref12_Live l (by omega) hs
    (try conv => whnf); repeat ((first | refine (c_law12_awake).go rfl ?_ | refine ⟨_, (c_law12_awake).go rfl ⟨rfl, rfl⟩, ?_⟩ | refine (gm).go rfl ?_ | refine ⟨_, (gm).go rfl ⟨rfl, rfl⟩, ?_⟩ | refine And.intro (show cellsAll _ _ from by repeat (first | exact trivial | refine ⟨⟨rfl, rfl⟩, ?_⟩)) ?_ | refine ⟨_, getZ (by omega), ?_⟩ | refine ⟨_, getI (by omega) (by omega), ?_⟩ | refine ⟨by omega, rfl, ?_⟩ | refine ⟨by (simp; omega), rfl, ?_⟩ | refine ⟨rfl, _, rfl, ⟨rfl, rfl, by decide⟩, ?_⟩ | refine ⟨rfl, _, rfl, ?_⟩ | refine ⟨rfl, _, getO (by omega), ?_⟩ | refine ⟨rfl, ⟨by omega, by omega, by omega⟩, ?_⟩ | refine ⟨⟨rfl, rfl⟩, ?_⟩ | refine ⟨⟨rfl, rfl, rfl⟩, ?_⟩ | refine ⟨⟨rfl, rfl, by decide⟩, ?_⟩ | refine ⟨rfl, ?_⟩ | refine ⟨⟨by omega, by omega⟩, ⟨rfl, rfl⟩, ?_⟩ | refine ⟨in64 (by omega) (by omega), ?_⟩ | refine Br.dec (fun _ => ?_) (fun hh => absurd (by omega) hh) | refine Br.dec (fun hh => absurd hh (by omega)) (fun _ => ?_) | refine Br.eq (fun _ => ?_) (fun hh => absurd (by omega) hh) | refine Br.eq (fun hh => absurd hh (by omega)) (fun _ => ?_) | refine Br.ne (fun _ => ?_) (fun hh => absurd (by omega) hh) | refine Br.ne (fun hh => absurd hh (by omega)) (fun _ => ?_) | refine ⟨_, rfl, ?_⟩ | rw [← List.map_drop, ← List.map_take]); conv => whnf)
    refine SW.loopR (α := Nat) (fun i => tm 77 [(0, sizes l), (1, .g (.i n)), (6, .g (.i i))]) (fun _ => []) (fun i => i ≤ l.length ∧ ∀ s ∈ l.take i, s.busy = false ∧ s.gen ≤ 1073741824) (fun i => l.length - i) 0 ?_ ?_ ?_
    · simp
    · exact Refi.sub rfl (by simp [subT, subV, tm, tmGo, sizes, tsizes])
    · rintro i ⟨hi, hq⟩
      dsimp only at hi hq ⊢
      conv => whnf
      refine Br.dec (fun h => ?_) (fun h => ?_)
      · have hi' : i < l.length := by omega
        have htk : l.take (i + 1) = l.take i ++ [l[i]] := List.take_succ_eq_append_getElem hi'
        (try conv => whnf); repeat ((first | refine And.intro (show cellsAll _ _ from by repeat (first | exact trivial | refine ⟨⟨rfl, rfl⟩, ?_⟩)) ?_ | refine ⟨_, getZ (by omega), ?_⟩ | refine ⟨_, getI (by omega) (by omega), ?_⟩ | refine ⟨by omega, rfl, ?_⟩ | refine ⟨by (simp; omega), rfl, ?_⟩ | refine ⟨rfl, _, rfl, ⟨rfl, rfl, by decide⟩, ?_⟩ | refine ⟨rfl, _, rfl, ?_⟩ | refine ⟨rfl, _, getO (by omega), ?_⟩ | refine ⟨rfl, ⟨by omega, by omega, by omega⟩, ?_⟩ | refine ⟨⟨rfl, rfl⟩, ?_⟩ | refine ⟨⟨rfl, rfl, rfl⟩, ?_⟩ | refine ⟨⟨rfl, rfl, by decide⟩, ?_⟩ | refine ⟨rfl, ?_⟩ | refine ⟨⟨by omega, by omega⟩, ⟨rfl, rfl⟩, ?_⟩ | refine ⟨in64 (by omega) (by omega), ?_⟩ | refine Br.dec (fun _ => ?_) (fun hh => absurd (by omega) hh) | refine Br.dec (fun hh => absurd hh (by omega)) (fun _ => ?_) | refine Br.eq (fun _ => ?_) (fun hh => absurd (by omega) hh) | refine Br.eq (fun hh => absurd hh (by omega)) (fun _ => ?_) | refine Br.ne (fun _ => ?_) (fun hh => absurd (by omega) hh) | refine Br.ne (fun hh => absurd hh (by omega)) (fun _ => ?_) | refine ⟨_, rfl, ?_⟩ | rw [← List.map_drop, ← List.map_take]); conv => whnf)
        refine Br.dec (fun h2 => ?_) (fun h2 => ?_)
        · (try conv => whnf); repeat ((first | refine And.intro (show cellsAll _ _ from by repeat (first | exact trivial | refine ⟨⟨rfl, rfl⟩, ?_⟩)) ?_ | refine ⟨_, getZ (by omega), ?_⟩ | refine ⟨_, getI (by omega) (by omega), ?_⟩ | refine ⟨by omega, rfl, ?_⟩ | refine ⟨by (simp; omega), rfl, ?_⟩ | refine ⟨rfl, _, rfl, ⟨rfl, rfl, by decide⟩, ?_⟩ | refine ⟨rfl, _, rfl, ?_⟩ | refine ⟨rfl, _, getO (by omega), ?_⟩ | refine ⟨rfl, ⟨by omega, by omega, by omega⟩, ?_⟩ | refine ⟨⟨rfl, rfl⟩, ?_⟩ | refine ⟨⟨rfl, rfl, rfl⟩, ?_⟩ | refine ⟨⟨rfl, rfl, by decide⟩, ?_⟩ | refine ⟨rfl, ?_⟩ | refine ⟨⟨by omega, by omega⟩, ⟨rfl, rfl⟩, ?_⟩ | refine ⟨in64 (by omega) (by omega), ?_⟩ | refine Br.dec (fun _ => ?_) (fun hh => absurd (by omega) hh) | refine Br.dec (fun hh => absurd hh (by omega)) (fun _ => ?_) | refine Br.eq (fun _ => ?_) (fun hh => absurd (by omega) hh) | refine Br.eq (fun hh => absurd hh (by omega)) (fun _ => ?_) | refine Br.ne (fun _ => ?_) (fun hh => absurd (by omega) hh) | refine Br.ne (fun hh => absurd hh (by omega)) (fun _ => ?_) | refine ⟨_, rfl, ?_⟩ | rw [← List.map_drop, ← List.map_take]); conv => whnf)
          exact ⟨Ends.ground (H := []) (L := []) 0 rfl ⟨rfl, rfl⟩⟩
        · (try conv => whnf); repeat ((first | refine And.intro (show cellsAll _ _ from by repeat (first | exact trivial | refine ⟨⟨rfl, rfl⟩, ?_⟩)) ?_ | refine ⟨_, getZ (by omega), ?_⟩ | refine ⟨_, getI (by omega) (by omega), ?_⟩ | refine ⟨by omega, rfl, ?_⟩ | refine ⟨by (simp; omega), rfl, ?_⟩ | refine ⟨rfl, _, rfl, ⟨rfl, rfl, by decide⟩, ?_⟩ | refine ⟨rfl, _, rfl, ?_⟩ | refine ⟨rfl, _, getO (by omega), ?_⟩ | refine ⟨rfl, ⟨by omega, by omega, by omega⟩, ?_⟩ | refine ⟨⟨rfl, rfl⟩, ?_⟩ | refine ⟨⟨rfl, rfl, rfl⟩, ?_⟩ | refine ⟨⟨rfl, rfl, by decide⟩, ?_⟩ | refine ⟨rfl, ?_⟩ | refine ⟨⟨by omega, by omega⟩, ⟨rfl, rfl⟩, ?_⟩ | refine ⟨in64 (by omega) (by omega), ?_⟩ | refine Br.dec (fun _ => ?_) (fun hh => absurd (by omega) hh) | refine Br.dec (fun hh => absurd hh (by omega)) (fun _ => ?_) | refine Br.eq (fun _ => ?_) (fun hh => absurd (by omega) hh) | refine Br.eq (fun hh => absurd hh (by omega)) (fun _ => ?_) | refine Br.ne (fun _ => ?_) (fun hh => absurd (by omega) hh) | refine Br.ne (fun hh => absurd hh (by omega)) (fun _ => ?_) | refine ⟨_, rfl, ?_⟩ | rw [← List.map_drop, ← List.map_take]); conv => whnf)
          refine Br.intro (fun h3 => ?_) (fun h3 => ?_)
          · (try conv => whnf); repeat ((first | refine And.intro (show cellsAll _ _ from by repeat (first | exact trivial | refine ⟨⟨rfl, rfl⟩, ?_⟩)) ?_ | refine ⟨_, getZ (by omega), ?_⟩ | refine ⟨_, getI (by omega) (by omega), ?_⟩ | refine ⟨by omega, rfl, ?_⟩ | refine ⟨by (simp; omega), rfl, ?_⟩ | refine ⟨rfl, _, rfl, ⟨rfl, rfl, by decide⟩, ?_⟩ | refine ⟨rfl, _, rfl, ?_⟩ | refine ⟨rfl, _, getO (by omega), ?_⟩ | refine ⟨rfl, ⟨by omega, by omega, by omega⟩, ?_⟩ | refine ⟨⟨rfl, rfl⟩, ?_⟩ | refine ⟨⟨rfl, rfl, rfl⟩, ?_⟩ | refine ⟨⟨rfl, rfl, by decide⟩, ?_⟩ | refine ⟨rfl, ?_⟩ | refine ⟨⟨by omega, by omega⟩, ⟨rfl, rfl⟩, ?_⟩ | refine ⟨in64 (by omega) (by omega), ?_⟩ | refine Br.dec (fun _ => ?_) (fun hh => absurd (by omega) hh) | refine Br.dec (fun hh => absurd hh (by omega)) (fun _ => ?_) | refine Br.eq (fun _ => ?_) (fun hh => absurd (by omega) hh) | refine Br.eq (fun hh => absurd hh (by omega)) (fun _ => ?_) | refine Br.ne (fun _ => ?_) (fun hh => absurd (by omega) hh) | refine Br.ne (fun hh => absurd hh (by omega)) (fun _ => ?_) | refine ⟨_, rfl, ?_⟩ | rw [← List.map_drop, ← List.map_take]); conv => whnf)
            exact ⟨Ends.ground (H := []) (L := []) 0 rfl ⟨rfl, rfl⟩⟩
          · (try conv => whnf); repeat ((first | refine And.intro (show cellsAll _ _ from by repeat (first | exact trivial | refine ⟨⟨rfl, rfl⟩, ?_⟩)) ?_ | refine ⟨_, getZ (by omega), ?_⟩ | refine ⟨_, getI (by omega) (by omega), ?_⟩ | refine ⟨by omega, rfl, ?_⟩ | refine ⟨by (simp; omega), rfl, ?_⟩ | refine ⟨rfl, _, rfl, ⟨rfl, rfl, by decide⟩, ?_⟩ | refine ⟨rfl, _, rfl, ?_⟩ | refine ⟨rfl, _, getO (by omega), ?_⟩ | refine ⟨rfl, ⟨by omega, by omega, by omega⟩, ?_⟩ | refine ⟨⟨rfl, rfl⟩, ?_⟩ | refine ⟨⟨rfl, rfl, rfl⟩, ?_⟩ | refine ⟨⟨rfl, rfl, by decide⟩, ?_⟩ | refine ⟨rfl, ?_⟩ | refine ⟨⟨by omega, by omega⟩, ⟨rfl, rfl⟩, ?_⟩ | refine ⟨in64 (by omega) (by omega), ?_⟩ | refine Br.dec (fun _ => ?_) (fun hh => absurd (by omega) hh) | refine Br.dec (fun hh => absurd hh (by omega)) (fun _ => ?_) | refine Br.eq (fun _ => ?_) (fun hh => absurd (by omega) hh) | refine Br.eq (fun hh => absurd hh (by omega)) (fun _ => ?_) | refine Br.ne (fun _ => ?_) (fun hh => absurd (by omega) hh) | refine Br.ne (fun hh => absurd hh (by omega)) (fun _ => ?_) | refine ⟨_, rfl, ?_⟩ | rw [← List.map_drop, ← List.map_take]); conv => whnf)
            refine ⟨⟨i + 1, ⟨hi', fun s hs => ?_⟩, by omega, Refi.sub rfl (by simp [subT, subV, tm, tmGo, sizes])⟩⟩
            rw [htk, List.mem_append, List.mem_singleton] at hs
            rcases hs with hs | rfl
            · exact hq s hs
            · exact ⟨h3, by omega⟩
      · have : i = l.length := by omega
        subst this
        rw [List.take_length] at hq
        (try conv => whnf); repeat ((first | refine (gl).go rfl ?_ | refine ⟨_, (gl).go rfl ⟨rfl, rfl⟩, ?_⟩ | refine And.intro (show cellsAll _ _ from by repeat (first | exact trivial | refine ⟨⟨rfl, rfl⟩, ?_⟩)) ?_ | refine ⟨_, getZ (by omega), ?_⟩ | refine ⟨_, getI (by omega) (by omega), ?_⟩ | refine ⟨by omega, rfl, ?_⟩ | refine ⟨by (simp; omega), rfl, ?_⟩ | refine ⟨rfl, _, rfl, ⟨rfl, rfl, by decide⟩, ?_⟩ | refine ⟨rfl, _, rfl, ?_⟩ | refine ⟨rfl, _, getO (by omega), ?_⟩ | refine ⟨rfl, ⟨by omega, by omega, by omega⟩, ?_⟩ | refine ⟨⟨rfl, rfl⟩, ?_⟩ | refine ⟨⟨rfl, rfl, rfl⟩, ?_⟩ | refine ⟨⟨rfl, rfl, by decide⟩, ?_⟩ | refine ⟨rfl, ?_⟩ | refine ⟨⟨by omega, by omega⟩, ⟨rfl, rfl⟩, ?_⟩ | refine ⟨in64 (by omega) (by omega), ?_⟩ | refine Br.dec (fun _ => ?_) (fun hh => absurd (by omega) hh) | refine Br.dec (fun hh => absurd hh (by omega)) (fun _ => ?_) | refine Br.eq (fun _ => ?_) (fun hh => absurd (by omega) hh) | refine Br.eq (fun hh => absurd hh (by omega)) (fun _ => ?_) | refine Br.ne (fun _ => ?_) (fun hh => absurd (by omega) hh) | refine Br.ne (fun hh => absurd hh (by omega)) (fun _ => ?_) | refine ⟨_, rfl, ?_⟩ | rw [← List.map_drop, ← List.map_take]); conv => whnf)
        refine Br.dec (fun h2 => ?_) (fun h2 => ?_)
        · (try conv => whnf); repeat ((first | refine And.intro (show cellsAll _ _ from by repeat (first | exact trivial | refine ⟨⟨rfl, rfl⟩, ?_⟩)) ?_ | refine ⟨_, getZ (by omega), ?_⟩ | refine ⟨_, getI (by omega) (by omega), ?_⟩ | refine ⟨by omega, rfl, ?_⟩ | refine ⟨by (simp; omega), rfl, ?_⟩ | refine ⟨rfl, _, rfl, ⟨rfl, rfl, by decide⟩, ?_⟩ | refine ⟨rfl, _, rfl, ?_⟩ | refine ⟨rfl, _, getO (by omega), ?_⟩ | refine ⟨rfl, ⟨by omega, by omega, by omega⟩, ?_⟩ | refine ⟨⟨rfl, rfl⟩, ?_⟩ | refine ⟨⟨rfl, rfl, rfl⟩, ?_⟩ | refine ⟨⟨rfl, rfl, by decide⟩, ?_⟩ | refine ⟨rfl, ?_⟩ | refine ⟨⟨by omega, by omega⟩, ⟨rfl, rfl⟩, ?_⟩ | refine ⟨in64 (by omega) (by omega), ?_⟩ | refine Br.dec (fun _ => ?_) (fun hh => absurd (by omega) hh) | refine Br.dec (fun hh => absurd hh (by omega)) (fun _ => ?_) | refine Br.eq (fun _ => ?_) (fun hh => absurd (by omega) hh) | refine Br.eq (fun hh => absurd hh (by omega)) (fun _ => ?_) | refine Br.ne (fun _ => ?_) (fun hh => absurd (by omega) hh) | refine Br.ne (fun hh => absurd hh (by omega)) (fun _ => ?_) | refine ⟨_, rfl, ?_⟩ | rw [← List.map_drop, ← List.map_take]); conv => whnf)
          exact ⟨Ends.ground (H := []) (L := []) 0 rfl ⟨rfl, rfl⟩⟩
        · have bf := force_small (l := l) (n := n)
          have g1 := c_policy_Force l n (by omega) hn
          have g2 := c_policy_After l (forceS l n) (by omega) (by omega) (by omega)
          obtain ⟨f1, f2, f3⟩ := force_after hmay (by omega) (fun s h => (hq s h).1) (fun s h => (hq s h).2) (by omega) (n := n)
          obtain ⟨a1, a2⟩ := after_sane (l := l) (p := forceS l n)
          obtain ⟨X, hX⟩ : ∃ X, afterS l (forceS l n) = X := ⟨_, rfl⟩
          rw [hX] at g2 f1 f2 f3 a1 a2
          have hmX : (X.map tsize).length = X.length := by simp
          have gx := c_ref12_Live X (by omega) a1
          rw [f3] at gx
          (try conv => whnf); repeat ((first | refine (g1).go rfl ?_ | refine ⟨_, (g1).go rfl ⟨rfl, rfl⟩, ?_⟩ | refine (g2).go rfl ?_ | refine ⟨_, (g2).go rfl ⟨rfl, rfl⟩, ?_⟩ | refine And.intro (show cellsAll _ _ from by repeat (first | exact trivial | refine ⟨⟨rfl, rfl⟩, ?_⟩)) ?_ | refine ⟨_, getZ (by omega), ?_⟩ | refine ⟨_, getI (by omega) (by omega), ?_⟩ | refine ⟨by omega, rfl, ?_⟩ | refine ⟨by (simp; omega), rfl, ?_⟩ | refine ⟨rfl, _, rfl, ⟨rfl, rfl, by decide⟩, ?_⟩ | refine ⟨rfl, _, rfl, ?_⟩ | refine ⟨rfl, _, getO (by omega), ?_⟩ | refine ⟨rfl, ⟨by omega, by omega, by omega⟩, ?_⟩ | refine ⟨⟨rfl, rfl⟩, ?_⟩ | refine ⟨⟨rfl, rfl, rfl⟩, ?_⟩ | refine ⟨⟨rfl, rfl, by decide⟩, ?_⟩ | refine ⟨rfl, ?_⟩ | refine ⟨⟨by omega, by omega⟩, ⟨rfl, rfl⟩, ?_⟩ | refine ⟨in64 (by omega) (by omega), ?_⟩ | refine Br.dec (fun _ => ?_) (fun hh => absurd (by omega) hh) | refine Br.dec (fun hh => absurd hh (by omega)) (fun _ => ?_) | refine Br.eq (fun _ => ?_) (fun hh => absurd (by omega) hh) | refine Br.eq (fun hh => absurd hh (by omega)) (fun _ => ?_) | refine Br.ne (fun _ => ?_) (fun hh => absurd (by omega) hh) | refine Br.ne (fun hh => absurd hh (by omega)) (fun _ => ?_) | refine ⟨_, rfl, ?_⟩ | rw [← List.map_drop, ← List.map_take]); conv => whnf)
          refine SW.loopR (α := Nat) (fun i => tm 77 [(0, sizes l), (1, .g (.i n)), (7, sizes X), (8, .g (.i i))]) (fun _ => []) (fun i => i ≤ X.length) (fun i => X.length - i) 0 ?_ ?_ ?_
          · exact Nat.zero_le _
          · exact Refi.sub rfl (by simp [subT, subV, tm, tmGo, sizes])
          · intro i hi
            dsimp only at hi ⊢
            conv => whnf
            refine Br.dec (fun h => ?_) (fun h => ?_)
            · have hi' : i < X.length := by omega
              have hd := f1 _ (List.getElem_mem hi')
              (try conv => whnf); repeat ((first | refine And.intro (show cellsAll _ _ from by repeat (first | exact trivial | refine ⟨⟨rfl, rfl⟩, ?_⟩)) ?_ | refine ⟨_, getZ (by omega), ?_⟩ | refine ⟨_, getI (by omega) (by omega), ?_⟩ | refine ⟨by omega, rfl, ?_⟩ | refine ⟨by (simp; omega), rfl, ?_⟩ | refine ⟨rfl, _, rfl, ⟨rfl, rfl, by decide⟩, ?_⟩ | refine ⟨rfl, _, rfl, ?_⟩ | refine ⟨rfl, _, getO (by omega), ?_⟩ | refine ⟨rfl, ⟨by omega, by omega, by omega⟩, ?_⟩ | refine ⟨⟨rfl, rfl⟩, ?_⟩ | refine ⟨⟨rfl, rfl, rfl⟩, ?_⟩ | refine ⟨⟨rfl, rfl, by decide⟩, ?_⟩ | refine ⟨rfl, ?_⟩ | refine ⟨⟨by omega, by omega⟩, ⟨rfl, rfl⟩, ?_⟩ | refine ⟨in64 (by omega) (by omega), ?_⟩ | refine Br.dec (fun _ => ?_) (fun hh => absurd (by omega) hh) | refine Br.dec (fun hh => absurd hh (by omega)) (fun _ => ?_) | refine Br.eq (fun _ => ?_) (fun hh => absurd (by omega) hh) | refine Br.eq (fun hh => absurd hh (by omega)) (fun _ => ?_) | refine Br.ne (fun _ => ?_) (fun hh => absurd (by omega) hh) | refine Br.ne (fun hh => absurd hh (by omega)) (fun _ => ?_) | refine ⟨_, rfl, ?_⟩ | rw [← List.map_drop, ← List.map_take]); conv => whnf)
              exact ⟨⟨i + 1, hi', by omega, Refi.sub rfl (by simp [subT, subV, tm, tmGo, sizes])⟩⟩
            · (try conv => whnf); repeat ((first | refine (gx).go rfl ?_ | refine ⟨_, (gx).go rfl ⟨rfl, rfl⟩, ?_⟩ | refine (gl).go rfl ?_ | refine ⟨_, (gl).go rfl ⟨rfl, rfl⟩, ?_⟩ | refine And.intro (show cellsAll _ _ from by repeat (first | exact trivial | refine ⟨⟨rfl, rfl⟩, ?_⟩)) ?_ | refine ⟨_, getZ (by omega), ?_⟩ | refine ⟨_, getI (by omega) (by omega), ?_⟩ | refine ⟨by omega, rfl, ?_⟩ | refine ⟨by (simp; omega), rfl, ?_⟩ | refine ⟨rfl, _, rfl, ⟨rfl, rfl, by decide⟩, ?_⟩ | refine ⟨rfl, _, rfl, ?_⟩ | refine ⟨rfl, _, getO (by omega), ?_⟩ | refine ⟨rfl, ⟨by omega, by omega, by omega⟩, ?_⟩ | refine ⟨⟨rfl, rfl⟩, ?_⟩ | refine ⟨⟨rfl, rfl, rfl⟩, ?_⟩ | refine ⟨⟨rfl, rfl, by decide⟩, ?_⟩ | refine ⟨rfl, ?_⟩ | refine ⟨⟨by omega, by omega⟩, ⟨rfl, rfl⟩, ?_⟩ | refine ⟨in64 (by omega) (by omega), ?_⟩ | refine Br.dec (fun _ => ?_) (fun hh => absurd (by omega) hh) | refine Br.dec (fun hh => absurd hh (by omega)) (fun _ => ?_) | refine Br.eq (fun _ => ?_) (fun hh => absurd (by omega) hh) | refine Br.eq (fun hh => absurd hh (by omega)) (fun _ => ?_) | refine Br.ne (fun _ => ?_) (fun hh => absurd (by omega) hh) | refine Br.ne (fun hh => absurd hh (by omega)) (fun _ => ?_) | refine ⟨_, rfl, ?_⟩ | rw [← List.map_drop, ← List.map_take]); conv => whnf)
              exact ⟨Ends.ground (H := []) (L := []) 0 rfl ⟨by simp, rfl⟩⟩
  · (try conv => whnf); repeat ((first | refine (c_law12_awake).go rfl ?_ | refine ⟨_, (c_law12_awake).go rfl ⟨rfl, rfl⟩, ?_⟩ | refine And.intro (show cellsAll _ _ from by repeat (first | exact trivial | refine ⟨⟨rfl, rfl⟩, ?_⟩)) ?_ | refine ⟨_, getZ (by omega), ?_⟩ | refine ⟨_, getI (by omega) (by omega), ?_⟩ | refine ⟨by omega, rfl, ?_⟩ | refine ⟨by (simp; omega), rfl, ?_⟩ | refine ⟨rfl, _, rfl, ⟨rfl, rfl, by decide⟩, ?_⟩ | refine ⟨rfl, _, rfl, ?_⟩ | refine ⟨rfl, _, getO (by omega), ?_⟩ | refine ⟨rfl, ⟨by omega, by omega, by omega⟩, ?_⟩ | refine ⟨⟨rfl, rfl⟩, ?_⟩ | refine ⟨⟨rfl, rfl, rfl⟩, ?_⟩ | refine ⟨⟨rfl, rfl, by decide⟩, ?_⟩ | refine ⟨rfl, ?_⟩ | refine ⟨⟨by omega, by omega⟩, ⟨rfl, rfl⟩, ?_⟩ | refine ⟨in64 (by omega) (by omega), ?_⟩ | refine Br.dec (fun _ => ?_) (fun hh => absurd (by omega) hh) | refine Br.dec (fun hh => absurd hh (by omega)) (fun _ => ?_) | refine Br.eq (fun _ => ?_) (fun hh => absurd (by omega) hh) | refine Br.eq (fun hh => absurd hh (by omega)) (fun _ => ?_) | refine Br.ne (fun _ => ?_) (fun hh => absurd (by omega) hh) | refine Br.ne (fun hh => absurd hh (by omega)) (fun _ => ?_) | refine ⟨_, rfl, ?_⟩ | rw [← List.map_drop, ← List.map_take]); conv => whnf)
    exact ⟨Ends.ground (H := []) (L := []) 0 rfl ⟨rfl, rfl⟩⟩
end Go.Aw
