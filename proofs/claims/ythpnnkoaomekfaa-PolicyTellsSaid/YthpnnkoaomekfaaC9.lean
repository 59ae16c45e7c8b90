/- Contracts of functions of the given program, by the abstract walk, for law PolicyTells: what each one hands back; no condition but those that each theorem states. -/
import Derived.Test.YthpnnkoaomekfaaC2
import Derived.Test.YthpnnkoaomekfaaC8
namespace Go.Aw
open Go.Proofs
set_option maxRecDepth 100000
set_option maxHeartbeats 4000000

theorem tv_sizes {t : T} (h : TV (.sl 4 (.fc (.i .i64) (.fc (.i .i64) (.fc (.i .i64) (.fc .b .fn))))) t) : ∃ l : List Sz, t = tsizes l ∧ l.length ≤ maxLen := by
  obtain ⟨cs, ⟨es, rfl, hl, he⟩, rfl⟩ := h
  have : ∃ l : List Sz, es = l.map tsize := by
    clear hl
    induction es with
    | nil => exact ⟨[], rfl⟩
    | cons e es ih =>
      obtain ⟨xs, rfl⟩ := ih fun x hx => he x (by simp [hx])
      obtain ⟨ys, h1, rfl⟩ := he e (by simp)
      obtain ⟨_, _, rfl, ⟨n1, rfl, _⟩, _, _, rfl, ⟨n2, rfl, _⟩, _, _, rfl, ⟨n3, rfl, _⟩, _, _, rfl, ⟨b, rfl⟩, rfl⟩ := h1
      exact ⟨⟨n1, n2, n3, b⟩ :: xs, rfl⟩
  obtain ⟨l, rfl⟩ := this
  exact ⟨l, rfl, by simpa using hl⟩
theorem tv_tier {t : T} (h : TV (.fc (.i .i64) (.fc (.i .i64) .fn)) t) : ∃ c : Int × Int, t = ttier c := by
  obtain ⟨cs, h1, rfl⟩ := h
  obtain ⟨_, _, rfl, ⟨n1, rfl, _⟩, _, _, rfl, ⟨n2, rfl, _⟩, rfl⟩ := h1
  exact ⟨(n1, n2), rfl⟩

theorem flat_mem_len {ls : List (List Int)} {n : Nat} (h : ls.flatten.length ≤ n) : ∀ x ∈ ls, x.length ≤ n := fun x hx => by
  have : x.length ≤ ls.flatten.length := (List.sublist_flatten_of_mem hx).length_le
  omega
theorem by_small {kind : Nat} {l : List Sz} {c : Int × Int} : (byS kind l c).length ≤ 2000 ∧ (byS kind l c).flatten.length ≤ 2000 := by
  by_cases h : mayS l = true ∧ mayT c = true
  · have := mayS_len h.1
    have hc : 2 ≤ c.1 ∧ c.1 ≤ 8 ∧ 1 ≤ c.2 ∧ c.2 ≤ 64 := by simpa [mayT] using h.2
    exact by_len this (by omega)
  · rw [byS, if_neg h]; simp
theorem force_small {l : List Sz} {n : Int} : (forceS l n).length ≤ 2000 ∧ (forceS l n).flatten.length ≤ 2000 := by
  by_cases h : mayS l = true ∧ 1 ≤ n
  · have hl := mayS_len h.1
    have hk := force_len (n := n) hl
    have ha := alone_len (l := l) (ps := forceP l n) (is := deadS)
    have hf : ∀ L : List Sz, (L.map fun x => [x.gen]).flatten.length = L.length := fun L => by induction L with | nil => rfl | cons a L ih => simp only [List.map_cons, List.flatten_cons, List.length_append, ih, List.length_cons, List.length_nil]; omega
    rw [forceS, if_pos h, aloneS, List.length_append, List.flatten_append, List.length_append, hf, List.length_map]
    omega
  · rw [forceS, if_neg h]; simp
theorem tables_same (xs : List (List Int)) (h : xs.length ≤ 2000 ∧ xs.flatten.length ≤ 2000) : CG Try.prog 15 [intss xs, intss xs] (.b true) := by
  have := c_law11_Tables xs xs (by omega) fun x hx => by have := flat_mem_len h.2 x hx; omega
  rwa [decide_eq_true rfl] at this

theorem c_law12_PolicyTells : ∀ ys, TVs [.sl 4 (.fc (.i .i64) (.fc (.i .i64) (.fc (.i .i64) (.fc .b .fn)))), .fc (.i .i64) (.fc (.i .i64) .fn), .i .i64] ys → CG Try.prog 3 ys (.b true) := by
  intro ys hy
  obtain ⟨y0, ys, rfl, h0, hy⟩ := tvs_cons hy
  obtain ⟨y1, ys, rfl, h1, hy⟩ := tvs_cons hy
  obtain ⟨y2, ys, rfl, h2, hy⟩ := tvs_cons hy
  cases tvs_nil hy
  obtain ⟨l, rfl, hl⟩ := tv_sizes h0
  obtain ⟨c, rfl⟩ := tv_tier h1
  obtain ⟨n, rfl, hn⟩ := tv_int h2
  unfold maxLen at hl
  refine ⟨k_law12_PolicyTells.calls ?_⟩
  have hm : (l.map tsize).length = l.length := by simp
  by_cases h30 : l.length ≤ 30
  · have g1 := c_policy_Tiered l c (by omega)
    have g2 := c_ref12_Tiered l c (by omega)
    have g3 := c_policy_Logs l c (by omega)
    have g4 := c_ref12_Logs l c (by omega)
    have g5 := c_policy_Force l n (by omega) hn
    have g6 := c_ref12_Force l n (by omega) hn
    have g7 := tables_same _ (by_small (kind := 0) (l := l) (c := c))
    have g8 := tables_same _ (by_small (kind := 1) (l := l) (c := c))
    have g9 := tables_same _ (force_small (l := l) (n := n))
    have ga := c_policy_May l (by omega)
    have gb := c_ref12_May l (by omega)
    obtain ⟨c1, c2⟩ := c
    (try conv => whnf); repeat ((first | refine (c_law12_awake).go rfl ?_ | refine ⟨_, (c_law12_awake).go rfl ⟨rfl, rfl⟩, ?_⟩ | refine (g1).go rfl ?_ | refine ⟨_, (g1).go rfl ⟨rfl, rfl⟩, ?_⟩ | refine (g2).go rfl ?_ | refine ⟨_, (g2).go rfl ⟨rfl, rfl⟩, ?_⟩ | refine (g3).go rfl ?_ | refine ⟨_, (g3).go rfl ⟨rfl, rfl⟩, ?_⟩ | refine (g4).go rfl ?_ | refine ⟨_, (g4).go rfl ⟨rfl, rfl⟩, ?_⟩ | refine (g5).go rfl ?_ | refine ⟨_, (g5).go rfl ⟨rfl, rfl⟩, ?_⟩ | refine (g6).go rfl ?_ | refine ⟨_, (g6).go rfl ⟨rfl, rfl⟩, ?_⟩ | refine (g7).go rfl ?_ | refine ⟨_, (g7).go rfl ⟨rfl, rfl⟩, ?_⟩ | refine (g8).go rfl ?_ | refine ⟨_, (g8).go rfl ⟨rfl, rfl⟩, ?_⟩ | refine (g9).go rfl ?_ | refine ⟨_, (g9).go rfl ⟨rfl, rfl⟩, ?_⟩ | refine (ga).go rfl ?_ | refine ⟨_, (ga).go rfl ⟨rfl, rfl⟩, ?_⟩ | refine (gb).go rfl ?_ | refine ⟨_, (gb).go rfl ⟨rfl, rfl⟩, ?_⟩ | refine And.intro (show cellsAll _ _ from by repeat (first | exact trivial | refine ⟨⟨rfl, rfl⟩, ?_⟩)) ?_ | refine ⟨_, getZ (by omega), ?_⟩ | refine ⟨_, getI (by omega) (by omega), ?_⟩ | refine ⟨by omega, rfl, ?_⟩ | refine ⟨by (simp; omega), rfl, ?_⟩ | refine ⟨rfl, _, rfl, ⟨rfl, rfl, by decide⟩, ?_⟩ | refine ⟨rfl, _, rfl, ?_⟩ | refine ⟨rfl, _, getO (by omega), ?_⟩ | refine ⟨rfl, ⟨by omega, by omega, by omega⟩, ?_⟩ | refine ⟨⟨rfl, rfl⟩, ?_⟩ | refine ⟨⟨rfl, rfl, rfl⟩, ?_⟩ | refine ⟨⟨rfl, rfl, by decide⟩, ?_⟩ | refine ⟨rfl, ?_⟩ | refine ⟨⟨by omega, by omega⟩, ⟨rfl, rfl⟩, ?_⟩ | refine ⟨in64 (by omega) (by omega), ?_⟩ | refine Br.dec (fun _ => ?_) (fun hh => absurd (by omega) hh) | refine Br.dec (fun hh => absurd hh (by omega)) (fun _ => ?_) | refine Br.eq (fun _ => ?_) (fun hh => absurd (by omega) hh) | refine Br.eq (fun hh => absurd hh (by omega)) (fun _ => ?_) | refine Br.ne (fun _ => ?_) (fun hh => absurd (by omega) hh) | refine Br.ne (fun hh => absurd hh (by omega)) (fun _ => ?_) | refine ⟨_, rfl, ?_⟩ | rw [← List.map_drop, ← List.map_take]); conv => whnf)
    exact ⟨Ends.ground (H := []) (L := [_]) 0 rfl ⟨by simp, rfl⟩⟩
  · obtain ⟨c1, c2⟩ := c
    (try conv => whnf); repeat ((first | refine (c_law12_awake).go rfl ?_ | refine ⟨_, (c_law12_awake).go rfl ⟨rfl, rfl⟩, ?_⟩ | refine And.intro (show cellsAll _ _ from by repeat (first | exact trivial | refine ⟨⟨rfl, rfl⟩, ?_⟩)) ?_ | refine ⟨_, getZ (by omega), ?_⟩ | refine ⟨_, getI (by omega) (by omega), ?_⟩ | refine ⟨by omega, rfl, ?_⟩ | refine ⟨by (simp; omega), rfl, ?_⟩ | refine ⟨rfl, _, rfl, ⟨rfl, rfl, by decide⟩, ?_⟩ | refine ⟨rfl, _, rfl, ?_⟩ | refine ⟨rfl, _, getO (by omega), ?_⟩ | refine ⟨rfl, ⟨by omega, by omega, by omega⟩, ?_⟩ | refine ⟨⟨rfl, rfl⟩, ?_⟩ | refine ⟨⟨rfl, rfl, rfl⟩, ?_⟩ | refine ⟨⟨rfl, rfl, by decide⟩, ?_⟩ | refine ⟨rfl, ?_⟩ | refine ⟨⟨by omega, by omega⟩, ⟨rfl, rfl⟩, ?_⟩ | refine ⟨in64 (by omega) (by omega), ?_⟩ | refine Br.dec (fun _ => ?_) (fun hh => absurd (by omega) hh) | refine Br.dec (fun hh => absurd hh (by omega)) (fun _ => ?_) | refine Br.eq (fun _ => ?_) (fun hh => absurd (by omega) hh) | refine Br.eq (fun hh => absurd hh (by omega)) (fun _ => ?_) | refine Br.ne (fun _ => ?_) (fun hh => absurd (by omega) hh) | refine Br.ne (fun hh => absurd hh (by omega)) (fun _ => ?_) | refine ⟨_, rfl, ?_⟩ | rw [← List.map_drop, ← List.map_take]); conv => whnf)
    exact ⟨Ends.ground (H := []) (L := [_]) 0 rfl ⟨rfl, rfl⟩⟩
end Go.Aw
