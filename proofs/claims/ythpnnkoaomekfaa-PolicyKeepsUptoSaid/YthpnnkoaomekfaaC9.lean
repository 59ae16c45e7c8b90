/- Contracts of functions of the given program, by the abstract walk, for law PolicyKeepsUpto: what each one hands back; no condition but those that each theorem states. -/
import Derived.Test.YthpnnkoaomekfaaC2
import Derived.Test.YthpnnkoaomekfaaC8
namespace Go.Aw
open Go.Proofs
set_option maxRecDepth 100000
set_option maxHeartbeats 4000000

theorem tv_sizes {t : T} (h : TV (.sl 4 (.fc (.i .i64) (.fc (.i .i64) (.fc (.i .i64) (.fc .b .fn))))) t) : ∃ l : List Sz, t = tsizes l ∧ l.length ≤ maxLen := by
  obtain ⟨cs, ⟨es, rfl, hl, he⟩, rfl⟩ := h
  have : ∃ l : List Sz, es = l.map tsize := by
    clear hl
    induction es with
    | nil => exact ⟨[], rfl⟩
    | cons e es ih =>
      obtain ⟨xs, rfl⟩ := ih fun x hx => he x (by simp [hx])
      obtain ⟨ys, h1, rfl⟩ := he e (by simp)
      obtain ⟨_, _, rfl, ⟨n1, rfl, _⟩, _, _, rfl, ⟨n2, rfl, _⟩, _, _, rfl, ⟨n3, rfl, _⟩, _, _, rfl, ⟨b, rfl⟩, rfl⟩ := h1
      exact ⟨⟨n1, n2, n3, b⟩ :: xs, rfl⟩
  obtain ⟨l, rfl⟩ := this
  exact ⟨l, rfl, by simpa using hl⟩
theorem tv_tier {t : T} (h : TV (.fc (.i .i64) (.fc (.i .i64) .fn)) t) : ∃ c : Int × Int, t = ttier c := by
  obtain ⟨cs, h1, rfl⟩ := h
  obtain ⟨_, _, rfl, ⟨n1, rfl, _⟩, _, _, rfl, ⟨n2, rfl, _⟩, rfl⟩ := h1
  exact ⟨(n1, n2), rfl⟩

theorem flat_mem_len {ls : List (List Int)} {n : Nat} (h : ls.flatten.length ≤ n) : ∀ x ∈ ls, x.length ≤ n := fun x hx => by
  have : x.length ≤ ls.flatten.length := (List.sublist_flatten_of_mem hx).length_le
  omega
theorem by_small {kind : Nat} {l : List Sz} {c : Int × Int} : (byS kind l c).length ≤ 2000 ∧ (byS kind l c).flatten.length ≤ 2000 := by
  by_cases h : mayS l = true ∧ mayT c = true
  · have := mayS_len h.1
    have hc : 2 ≤ c.1 ∧ c.1 ≤ 8 ∧ 1 ≤ c.2 ∧ c.2 ≤ 64 := by simpa [mayT] using h.2
    exact by_len this (by omega)
  · rw [byS, if_neg h]; simp
theorem force_small {l : List Sz} {n : Int} : (forceS l n).length ≤ 2000 ∧ (forceS l n).flatten.length ≤ 2000 := by
  by_cases h : mayS l = true ∧ 1 ≤ n
  · have hl := mayS_len h.1
    have hk := force_len (n := n) hl
    have ha := alone_len (l := l) (ps := forceP l n) (is := deadS)
    have hf : ∀ L : List Sz, (L.map fun x => [x.gen]).flatten.length = L.length := fun L => by induction L with | nil => rfl | cons a L ih => simp only [List.map_cons, List.flatten_cons, List.length_append, ih, List.length_cons, List.length_nil]; omega
    rw [forceS, if_pos h, aloneS, List.length_append, List.flatten_append, List.length_append, hf, List.length_map]
    omega
  · rw [forceS, if_neg h]; simp
theorem tables_same (xs : List (List Int)) (h : xs.length ≤ 2000 ∧ xs.flatten.length ≤ 2000) : CG Try.prog 15 [intss xs, intss xs] (.b true) := by
  have := c_law11_Tables xs xs (by omega) fun x hx => by have := flat_mem_len h.2 x hx; omega
  rwa [decide_eq_true rfl] at this

end Go.Aw
namespace Go.Aw
open Go.Proofs
set_option maxRecDepth 100000
set_option maxHeartbeats 4000000

def noSz : Sz := ⟨0, 0, 0, false⟩
def sizeS (l : List Sz) (g : Int) : Option Sz := l.find? fun s => decide (s.gen = g)
theorem c_law12_size (l : List Sz) (g : Int) (hl : l.length < 1000000000) :
    ACalls Try.prog 31 [.g (tsizes l), .g (.i g)] [] (fun r h => r = .tu [.g (tsize ((sizeS l g).getD noSz)), .g (.b (sizeS l g).isSome)] ∧ h = []) := by
  refine k_law12_size.calls ?_
  have hm : (l.map tsize).length = l.length := by simp
  (try conv => whnf); repeat ((first | refine And.intro (show cellsAll _ _ from by repeat (first | exact trivial | refine ⟨⟨rfl, rfl⟩, ?_⟩)) ?_ | refine ⟨_, getZ (by omega), ?_⟩ | refine ⟨_, getI (by omega) (by omega), ?_⟩ | refine ⟨by omega, rfl, ?_⟩ | refine ⟨by (simp; omega), rfl, ?_⟩ | refine ⟨rfl, _, rfl, ⟨rfl, rfl, by decide⟩, ?_⟩ | refine ⟨rfl, _, rfl, ?_⟩ | refine ⟨rfl, _, getO (by omega), ?_⟩ | refine ⟨rfl, ⟨by omega, by omega, by omega⟩, ?_⟩ | refine ⟨⟨rfl, rfl⟩, ?_⟩ | refine ⟨⟨rfl, rfl, rfl⟩, ?_⟩ | refine ⟨⟨rfl, rfl, by decide⟩, ?_⟩ | refine ⟨rfl, ?_⟩ | refine ⟨⟨by omega, by omega⟩, ⟨rfl, rfl⟩, ?_⟩ | refine ⟨in64 (by omega) (by omega), ?_⟩ | refine Br.dec (fun _ => ?_) (fun hh => absurd (by omega) hh) | refine Br.dec (fun hh => absurd hh (by omega)) (fun _ => ?_) | refine Br.eq (fun _ => ?_) (fun hh => absurd (by omega) hh) | refine Br.eq (fun hh => absurd hh (by omega)) (fun _ => ?_) | refine Br.ne (fun _ => ?_) (fun hh => absurd (by omega) hh) | refine Br.ne (fun hh => absurd hh (by omega)) (fun _ => ?_) | refine ⟨_, rfl, ?_⟩ | rw [← List.map_drop, ← List.map_take]); conv => whnf)
  refine SW.loopR (α := Nat) (fun k => tm 25 [(0, sizes l), (1, .g (.i g)), (4, .pa 0 0 0 0), (6, .g (.i k))]) (fun _ => [.arr 0 4 [.g (tsize noSz)]]) (fun k => k ≤ l.length ∧ ∀ s ∈ l.take k, s.gen ≠ g) (fun k => l.length - k) 0 ?_ ?_ ?_
  · simp
  · exact Refi.sub rfl (by simp [subT, subV, tm, tmGo, sizes, tsizes])
  · rintro k ⟨hk, hno⟩
    dsimp only at hk hno ⊢
    conv => whnf
    refine Br.dec (fun h => ?_) (fun h => ?_)
    · have hk' : k < l.length := by omega
      have htk : l.take (k + 1) = l.take k ++ [l[k]] := List.take_succ_eq_append_getElem hk'
      (try conv => whnf); repeat ((first | refine And.intro (show cellsAll _ _ from by repeat (first | exact trivial | refine ⟨⟨rfl, rfl⟩, ?_⟩)) ?_ | refine ⟨_, getZ (by omega), ?_⟩ | refine ⟨_, getI (by omega) (by omega), ?_⟩ | refine ⟨by omega, rfl, ?_⟩ | refine ⟨by (simp; omega), rfl, ?_⟩ | refine ⟨rfl, _, rfl, ⟨rfl, rfl, by decide⟩, ?_⟩ | refine ⟨rfl, _, rfl, ?_⟩ | refine ⟨rfl, _, getO (by omega), ?_⟩ | refine ⟨rfl, ⟨by omega, by omega, by omega⟩, ?_⟩ | refine ⟨⟨rfl, rfl⟩, ?_⟩ | refine ⟨⟨rfl, rfl, rfl⟩, ?_⟩ | refine ⟨⟨rfl, rfl, by decide⟩, ?_⟩ | refine ⟨rfl, ?_⟩ | refine ⟨⟨by omega, by omega⟩, ⟨rfl, rfl⟩, ?_⟩ | refine ⟨in64 (by omega) (by omega), ?_⟩ | refine Br.dec (fun _ => ?_) (fun hh => absurd (by omega) hh) | refine Br.dec (fun hh => absurd hh (by omega)) (fun _ => ?_) | refine Br.eq (fun _ => ?_) (fun hh => absurd (by omega) hh) | refine Br.eq (fun hh => absurd hh (by omega)) (fun _ => ?_) | refine Br.ne (fun _ => ?_) (fun hh => absurd (by omega) hh) | refine Br.ne (fun hh => absurd hh (by omega)) (fun _ => ?_) | refine ⟨_, rfl, ?_⟩ | rw [← List.map_drop, ← List.map_take]); conv => whnf)
      refine Br.eq (fun h2 => ?_) (fun h2 => ?_)
      · have hf : sizeS l g = some l[k] := by
          rw [sizeS, List.find?_eq_some_iff_getElem]
          refine ⟨by simpa using h2, k, hk', rfl, fun j hj => ?_⟩
          have := hno l[j] (List.mem_iff_getElem.2 ⟨j, by simp; omega, by rw [List.getElem_take]⟩)
          simpa using this
        rw [hf]
        (try conv => whnf); repeat ((first | refine And.intro (show cellsAll _ _ from by repeat (first | exact trivial | refine ⟨⟨rfl, rfl⟩, ?_⟩)) ?_ | refine ⟨_, getZ (by omega), ?_⟩ | refine ⟨_, getI (by omega) (by omega), ?_⟩ | refine ⟨by omega, rfl, ?_⟩ | refine ⟨by (simp; omega), rfl, ?_⟩ | refine ⟨rfl, _, rfl, ⟨rfl, rfl, by decide⟩, ?_⟩ | refine ⟨rfl, _, rfl, ?_⟩ | refine ⟨rfl, _, getO (by omega), ?_⟩ | refine ⟨rfl, ⟨by omega, by omega, by omega⟩, ?_⟩ | refine ⟨⟨rfl, rfl⟩, ?_⟩ | refine ⟨⟨rfl, rfl, rfl⟩, ?_⟩ | refine ⟨⟨rfl, rfl, by decide⟩, ?_⟩ | refine ⟨rfl, ?_⟩ | refine ⟨⟨by omega, by omega⟩, ⟨rfl, rfl⟩, ?_⟩ | refine ⟨in64 (by omega) (by omega), ?_⟩ | refine Br.dec (fun _ => ?_) (fun hh => absurd (by omega) hh) | refine Br.dec (fun hh => absurd hh (by omega)) (fun _ => ?_) | refine Br.eq (fun _ => ?_) (fun hh => absurd (by omega) hh) | refine Br.eq (fun hh => absurd hh (by omega)) (fun _ => ?_) | refine Br.ne (fun _ => ?_) (fun hh => absurd (by omega) hh) | refine Br.ne (fun hh => absurd hh (by omega)) (fun _ => ?_) | refine ⟨_, rfl, ?_⟩ | rw [← List.map_drop, ← List.map_take]); conv => whnf)
        exact ⟨Ends.grounds (H := []) (L := [_]) 0 (ts := [tsize l[k], .b true]) rfl ⟨rfl, rfl⟩⟩
      · (try conv => whnf); repeat ((first | refine And.intro (show cellsAll _ _ from by repeat (first | exact trivial | refine ⟨⟨rfl, rfl⟩, ?_⟩)) ?_ | refine ⟨_, getZ (by omega), ?_⟩ | refine ⟨_, getI (by omega) (by omega), ?_⟩ | refine ⟨by omega, rfl, ?_⟩ | refine ⟨by (simp; omega), rfl, ?_⟩ | refine ⟨rfl, _, rfl, ⟨rfl, rfl, by decide⟩, ?_⟩ | refine ⟨rfl, _, rfl, ?_⟩ | refine ⟨rfl, _, getO (by omega), ?_⟩ | refine ⟨rfl, ⟨by omega, by omega, by omega⟩, ?_⟩ | refine ⟨⟨rfl, rfl⟩, ?_⟩ | refine ⟨⟨rfl, rfl, rfl⟩, ?_⟩ | refine ⟨⟨rfl, rfl, by decide⟩, ?_⟩ | refine ⟨rfl, ?_⟩ | refine ⟨⟨by omega, by omega⟩, ⟨rfl, rfl⟩, ?_⟩ | refine ⟨in64 (by omega) (by omega), ?_⟩ | refine Br.dec (fun _ => ?_) (fun hh => absurd (by omega) hh) | refine Br.dec (fun hh => absurd hh (by omega)) (fun _ => ?_) | refine Br.eq (fun _ => ?_) (fun hh => absurd (by omega) hh) | refine Br.eq (fun hh => absurd hh (by omega)) (fun _ => ?_) | refine Br.ne (fun _ => ?_) (fun hh => absurd (by omega) hh) | refine Br.ne (fun hh => absurd hh (by omega)) (fun _ => ?_) | refine ⟨_, rfl, ?_⟩ | rw [← List.map_drop, ← List.map_take]); conv => whnf)
        refine ⟨⟨k + 1, ⟨hk', fun s hs => ?_⟩, by omega, Refi.sub rfl (by simp [subT, subV, tm, tmGo, sizes])⟩⟩
        rw [htk, List.mem_append, List.mem_singleton] at hs
        rcases hs with hs | rfl
        · exact hno s hs
        · exact h2
    · have : k = l.length := by omega
      subst this
      rw [List.take_length] at hno
      have hf : sizeS l g = none := by
        rw [sizeS, List.find?_eq_none]; intro s hs; simpa using hno s hs
      rw [hf]
      (try conv => whnf); repeat ((first | refine And.intro (show cellsAll _ _ from by repeat (first | exact trivial | refine ⟨⟨rfl, rfl⟩, ?_⟩)) ?_ | refine ⟨_, getZ (by omega), ?_⟩ | refine ⟨_, getI (by omega) (by omega), ?_⟩ | refine ⟨by omega, rfl, ?_⟩ | refine ⟨by (simp; omega), rfl, ?_⟩ | refine ⟨rfl, _, rfl, ⟨rfl, rfl, by decide⟩, ?_⟩ | refine ⟨rfl, _, rfl, ?_⟩ | refine ⟨rfl, _, getO (by omega), ?_⟩ | refine ⟨rfl, ⟨by omega, by omega, by omega⟩, ?_⟩ | refine ⟨⟨rfl, rfl⟩, ?_⟩ | refine ⟨⟨rfl, rfl, rfl⟩, ?_⟩ | refine ⟨⟨rfl, rfl, by decide⟩, ?_⟩ | refine ⟨rfl, ?_⟩ | refine ⟨⟨by omega, by omega⟩, ⟨rfl, rfl⟩, ?_⟩ | refine ⟨in64 (by omega) (by omega), ?_⟩ | refine Br.dec (fun _ => ?_) (fun hh => absurd (by omega) hh) | refine Br.dec (fun hh => absurd hh (by omega)) (fun _ => ?_) | refine Br.eq (fun _ => ?_) (fun hh => absurd (by omega) hh) | refine Br.eq (fun hh => absurd hh (by omega)) (fun _ => ?_) | refine Br.ne (fun _ => ?_) (fun hh => absurd (by omega) hh) | refine Br.ne (fun hh => absurd hh (by omega)) (fun _ => ?_) | refine ⟨_, rfl, ?_⟩ | rw [← List.map_drop, ← List.map_take]); conv => whnf)
      exact ⟨Ends.grounds (H := []) (L := [_]) 0 (ts := [tsize noSz, .b false]) rfl ⟨rfl, rfl⟩⟩

structure GoodP (l : List Sz) (p : List (List Int)) : Prop where
  nd : p.flatten.Nodup
  ne : ∀ x ∈ p, x ≠ []
  at_ : ∀ x ∈ p, ∀ g ∈ x, ∃ s, sizeS l g = some s ∧ s.busy = false ∧ (x.length = 1 → s.dead ≠ 0)

theorem nodup_at {p : List (List Int)} (h : p.flatten.Nodup) {i : Nat} (hi : i < p.length) {k : Nat} (hk : k < p[i].length) : p[i][k] ∉ (p.take i).flatten ∧ p[i][k] ∉ p[i].take k := by
  have e : p = p.take i ++ (p[i] :: p.drop (i + 1)) := by rw [← List.drop_eq_getElem_cons hi, List.take_append_drop]
  rw [e, List.flatten_append, List.flatten_cons, List.nodup_append] at h
  obtain ⟨_, h2, h3⟩ := h
  rw [List.nodup_append] at h2
  refine ⟨fun hm => h3 _ hm _ (List.mem_append.2 (.inl (List.getElem_mem hk))) rfl, fun hm => ?_⟩
  have e2 : p[i] = p[i].take k ++ (p[i][k] :: p[i].drop (k + 1)) := by rw [← List.drop_eq_getElem_cons hk, List.take_append_drop]
  have h4 := h2.1
  rw [e2, List.nodup_append] at h4
  exact h4.2.2 _ hm _ List.mem_cons_self rfl

end Go.Aw
namespace Go.Aw
open Go.Proofs
set_option maxRecDepth 100000
set_option maxHeartbeats 4000000

/- WHAT IS PROPOSED -/
theorem size_mem {l : List Sz} {s : Sz} (hn : (gensS l).Nodup) (hs : s ∈ l) : sizeS l s.gen = some s := by
  induction l with
  | nil => cases hs
  | cons a l ih =>
    rw [gensS, List.map_cons, List.nodup_cons] at hn
    rw [sizeS, List.find?_cons]
    rcases List.mem_cons.1 hs with rfl | h
    · simp
    · have : a.gen ≠ s.gen := fun e => hn.1 (e ▸ List.mem_map.2 ⟨s, h, rfl⟩)
      rw [decide_eq_false this]
      exact ih hn.2 h
theorem gens_sub {a b : List Sz} (h : a.Sublist b) : (gensS a).Sublist (gensS b) := h.map _
theorem chunks_sub {c : Int × Int} : ∀ {n : Nat} {s : List Sz}, ((chunksS c n s).flatten).Sublist (gensS s)
  | 0, s => by simp [chunksS]
  | n + 1, s => by
    rw [chunksS]
    split
    · rw [List.flatten_append]
      have e : gensS s = gensS (s.take c.1.toNat) ++ gensS (s.drop c.1.toNat) := by rw [gensS, gensS, gensS, ← List.map_append, List.take_append_drop]
      rw [e]
      refine List.Sublist.append ?_ chunks_sub
      split
      · simp
      · simp
    · simp
theorem chunks_mem {c : Int × Int} : ∀ {n : Nat} {s : List Sz} {x : List Int}, x ∈ chunksS c n s → x.length = c.1.toNat ∧ ∀ g ∈ x, ∃ y ∈ s, y.gen = g
  | 0, s, x, h => by simp [chunksS] at h
  | n + 1, s, x, h => by
    rw [chunksS] at h
    split at h
    · rename_i hl
      rcases List.mem_append.1 h with h | h
      · split at h
        · simp at h; subst h
          refine ⟨by simp [gensS]; omega, fun g hg => ?_⟩
          obtain ⟨y, hy, e⟩ := List.mem_map.1 hg
          exact ⟨y, List.mem_of_mem_take hy, e⟩
        · simp at h
      · obtain ⟨h1, h2⟩ := chunks_mem h
        refine ⟨h1, fun g hg => ?_⟩
        obtain ⟨y, hy, e⟩ := h2 g hg
        exact ⟨y, List.mem_of_mem_drop hy, e⟩
    · simp at h
theorem runs_sub {c : Int × Int} : ∀ {n : Nat} {s : List Sz}, ((runsS c n s).flatten).Sublist (gensS s)
  | 0, s => by simp [runsS]
  | n + 1, s => by
    rw [runsS]
    split
    · split
      · rw [List.flatten_cons]
        have e : gensS s = gensS (s.take c.1.toNat) ++ gensS (s.drop c.1.toNat) := by rw [gensS, gensS, gensS, ← List.map_append, List.take_append_drop]
        rw [e]
        exact List.Sublist.append (List.Sublist.refl _) runs_sub
      · exact runs_sub.trans (gens_sub (List.drop_sublist _ _))
    · simp
theorem runs_mem {c : Int × Int} : ∀ {n : Nat} {s : List Sz} {x : List Int}, x ∈ runsS c n s → x.length = c.1.toNat ∧ ∀ g ∈ x, ∃ y ∈ s, y.gen = g ∧ y.busy = false
  | 0, s, x, h => by simp [runsS] at h
  | n + 1, s, x, h => by
    rw [runsS] at h
    split at h
    · split at h
      · rename_i hl hok
        rcases List.mem_cons.1 h with rfl | h
        · refine ⟨by simp [gensS]; omega, fun g hg => ?_⟩
          obtain ⟨y, hy, e⟩ := List.mem_map.1 hg
          refine ⟨y, List.mem_of_mem_take hy, e, ?_⟩
          rw [runOk, Bool.and_eq_true, Bool.not_eq_true', List.any_eq_false] at hok
          have := hok.1 y hy
          unfold likeS at this
          split at this
          · rename_i e2; rw [e2] at hy; cases hy
          · simp at this; exact this.1
        · obtain ⟨h1, h2⟩ := runs_mem h
          refine ⟨h1, fun g hg => ?_⟩
          obtain ⟨y, hy, e⟩ := h2 g hg
          exact ⟨y, List.mem_of_mem_drop hy, e⟩
      · obtain ⟨h1, h2⟩ := runs_mem h
        refine ⟨h1, fun g hg => ?_⟩
        obtain ⟨y, hy, e⟩ := h2 g hg
        exact ⟨y, List.mem_of_mem_drop hy, e⟩
    · simp at h
theorem tiers_nodup {l : List Sz} {c : Int × Int} (hn : (gensS l).Nodup) : ∀ {N : Nat}, (tiersS l c N).flatten.Nodup ∧ ∀ g ∈ (tiersS l c N).flatten, ∃ y ∈ l, y.gen = g ∧ y.busy = false ∧ levS y c.1 < N
  | 0 => by simp [tiersS]
  | N + 1 => by
    obtain ⟨h1, h2⟩ := tiers_nodup (l := l) (c := c) hn (N := N)
    have hsub : (tierN l c N).flatten.Sublist (gensS ((idleS l).filter fun s => decide (levS s c.1 = (N : Int)))) := chunks_sub
    have hin : ∀ g ∈ (tierN l c N).flatten, ∃ y ∈ l, y.gen = g ∧ y.busy = false ∧ levS y c.1 = N := fun g hg => by
      obtain ⟨y, hy, e⟩ := List.mem_map.1 (hsub.subset hg)
      obtain ⟨h3, h4⟩ := List.mem_filter.1 hy
      obtain ⟨h5, h6⟩ := List.mem_filter.1 h3
      exact ⟨y, h5, e, by simpa using h6, by simpa using h4⟩
    rw [tiersS_succ, List.flatten_append]
    refine ⟨List.nodup_append.2 ⟨h1, ?_, fun a ha b hb e => ?_⟩, fun g hg => ?_⟩
    · exact (hsub.trans (gens_sub ((List.filter_sublist).trans List.filter_sublist))).nodup hn
    · subst e
      obtain ⟨y, y1, y2, _, y4⟩ := h2 a ha
      obtain ⟨z, z1, z2, _, z4⟩ := hin a hb
      have e1 := size_mem hn y1
      have e2 := size_mem hn z1
      rw [y2] at e1; rw [z2, e1] at e2
      cases e2
      omega
    · rcases List.mem_append.1 hg with h | h
      · obtain ⟨y, y1, y2, y3, y4⟩ := h2 g h
        exact ⟨y, y1, y2, y3, by omega⟩
      · obtain ⟨y, y1, y2, y3, y4⟩ := hin g h
        exact ⟨y, y1, y2, y3, by omega⟩

/-- proposals of two at least, of idle ones, unlike; and those alone -/
theorem good_alone {l : List Sz} {ps : List (List Int)} {is : Sz → Bool} (hn : (gensS l).Nodup) (h1 : ps.flatten.Nodup) (h2 : ∀ x ∈ ps, 2 ≤ x.length) (h3 : ∀ g ∈ ps.flatten, ∃ y ∈ l, y.gen = g ∧ y.busy = false) (h4 : ∀ s ∈ l, is s = true → s.dead ≠ 0) : GoodP l (aloneS l ps is) := by
  have hsub : (aloneA l ps is).Sublist l := (List.filter_sublist).trans List.filter_sublist
  have hfl : ∀ L : List Sz, (L.map fun x => [x.gen]).flatten = gensS L := fun L => by induction L with | nil => rfl | cons a L ih => rw [List.map_cons, List.flatten_cons, ih]; rfl
  refine ⟨?_, fun x hx => ?_, fun x hx g hg => ?_⟩
  · rw [aloneS, List.flatten_append, hfl]
    refine List.nodup_append.2 ⟨h1, (gens_sub hsub).nodup hn, fun a ha b hb e => ?_⟩
    subst e
    obtain ⟨y, hy, e⟩ := List.mem_map.1 hb
    have := (List.mem_filter.1 hy).2
    rw [Bool.and_eq_true, Bool.not_eq_true', decide_eq_false_iff_not] at this
    exact this.1 (e ▸ ha)
  · rw [aloneS, List.mem_append] at hx
    rcases hx with hx | hx
    · have := h2 x hx; intro e; rw [e] at this; simp at this
    · obtain ⟨y, _, rfl⟩ := List.mem_map.1 hx; simp
  · rw [aloneS, List.mem_append] at hx
    rcases hx with hx | hx
    · obtain ⟨y, y1, y2, y3⟩ := h3 g (List.mem_flatten.2 ⟨x, hx, hg⟩)
      refine ⟨y, by rw [← y2]; exact size_mem hn y1, y3, fun e => ?_⟩
      have := h2 x hx; omega
    · obtain ⟨y, hy, rfl⟩ := List.mem_map.1 hx
      simp at hg; subst hg
      have hyl := hsub.subset hy
      refine ⟨y, size_mem hn hyl, ?_, fun _ => ?_⟩
      · have := (List.mem_filter.1 (List.mem_filter.1 hy).1).2; simpa using this
      · have := (List.mem_filter.1 hy).2
        rw [Bool.and_eq_true] at this
        exact h4 y hyl this.2
theorem good_nil {l : List Sz} : GoodP l [] := ⟨by simp, by simp, by simp⟩
theorem good_by {kind : Nat} {l : List Sz} {c : Int × Int} : GoodP l (byS kind l c) := by
  rw [byS]
  split
  · rename_i h
    have hn := mayS_nodup h.1
    have hs := mayS_sane h.1
    have hc : 2 ≤ c.1 ∧ c.1 ≤ 8 ∧ 1 ≤ c.2 ∧ c.2 ≤ 64 := by simpa [mayT] using h.2
    have hd : ∀ s ∈ l, halfS s = true → s.dead ≠ 0 := fun s hm hh => by
      have := hs s hm; unfold sane at this; simp [halfS] at hh; omega
    unfold kindS
    split
    · have ht := tiers_nodup (l := l) (c := c) hn (N := 64)
      refine good_alone hn ht.1 (fun x hx => ?_) (fun g hg => ?_) hd
      · obtain ⟨n, _, hx⟩ := List.mem_flatMap.1 hx
        rw [(chunks_mem hx).1]; omega
      · obtain ⟨y, y1, y2, y3, _⟩ := ht.2 g hg; exact ⟨y, y1, y2, y3⟩
    · refine good_alone hn (runs_sub.nodup hn) (fun x hx => ?_) (fun g hg => ?_) hd
      · rw [(runs_mem hx).1]; omega
      · obtain ⟨x, hx, hg⟩ := List.mem_flatten.1 hg
        exact (runs_mem hx).2 g hg
  · exact good_nil
theorem good_force {l : List Sz} {n : Int} : GoodP l (forceS l n) := by
  rw [forceS]
  split
  · rename_i h
    have hn := mayS_nodup h.1
    have hs := mayS_sane h.1
    refine good_alone hn ?_ ?_ ?_ fun s hm hh => by have := hs s hm; unfold sane at this; simp [deadS] at hh; omega
    all_goals rw [forceP]; split
    · rw [List.flatten_cons, List.flatten_nil, List.append_nil]
      exact (gens_sub ((List.take_sublist _ _).trans List.filter_sublist)).nodup hn
    · simp
    · intro x hx; simp at hx; subst hx; simp [gensS]; omega
    · simp
    · intro g hg
      rw [List.flatten_cons, List.flatten_nil, List.append_nil] at hg
      obtain ⟨y, hy, e⟩ := List.mem_map.1 hg
      obtain ⟨h5, h6⟩ := List.mem_filter.1 (List.mem_of_mem_take hy)
      exact ⟨y, h5, e, by simpa using h6⟩
    · simp
  · exact good_nil

end Go.Aw
namespace Go.Aw
open Go.Proofs
set_option maxRecDepth 100000
set_option maxHeartbeats 4000000

structure FitX (l : List Sz) (c : Int × Int) (x : List Int) (S : List Sz) : Prop where
  may : mayS l = true
  tier : mayT c = true
  eq : x = gensS S
  sub : ∀ y ∈ S, y ∈ l
  one : 0 < S.length
  lev : ∀ y ∈ S, ∀ z ∈ S, levS y c.1 = levS z c.1
  fit : 1 < S.length → (S.length : Int) = c.1 ∧ allS S ≤ c.2

theorem chunks_form {c : Int × Int} : ∀ {n : Nat} {s : List Sz} {x : List Int}, x ∈ chunksS c n s → ∃ S, x = gensS S ∧ (∀ y ∈ S, y ∈ s) ∧ S.length = c.1.toNat ∧ allS S ≤ c.2
  | 0, s, x, h => by simp [chunksS] at h
  | n + 1, s, x, h => by
    rw [chunksS] at h
    split at h
    · rename_i hl
      rcases List.mem_append.1 h with h | h
      · split at h
        · rename_i ha
          simp at h; subst h
          exact ⟨_, rfl, fun y hy => List.mem_of_mem_take hy, by simp; omega, ha⟩
        · simp at h
      · obtain ⟨S, h1, h2, h3⟩ := chunks_form h
        exact ⟨S, h1, fun y hy => List.mem_of_mem_drop (h2 y hy), h3⟩
    · simp at h
theorem runs_form {c : Int × Int} : ∀ {n : Nat} {s : List Sz} {x : List Int}, x ∈ runsS c n s → ∃ S, x = gensS S ∧ (∀ y ∈ S, y ∈ s) ∧ S.length = c.1.toNat ∧ runOk c S = true
  | 0, s, x, h => by simp [runsS] at h
  | n + 1, s, x, h => by
    rw [runsS] at h
    split at h
    · split at h
      · rename_i hl hok
        rcases List.mem_cons.1 h with rfl | h
        · exact ⟨_, rfl, fun y hy => List.mem_of_mem_take hy, by simp; omega, hok⟩
        · obtain ⟨S, h1, h2, h3⟩ := runs_form h
          exact ⟨S, h1, fun y hy => List.mem_of_mem_drop (h2 y hy), h3⟩
      · obtain ⟨S, h1, h2, h3⟩ := runs_form h
        exact ⟨S, h1, fun y hy => List.mem_of_mem_drop (h2 y hy), h3⟩
    · simp at h
theorem run_lev {c : Int × Int} {S : List Sz} (h : runOk c S = true) : (∀ y ∈ S, ∀ z ∈ S, levS y c.1 = levS z c.1) ∧ allS S ≤ c.2 := by
  rw [runOk, Bool.and_eq_true, Bool.not_eq_true', List.any_eq_false, decide_eq_true_eq] at h
  refine ⟨?_, h.2⟩
  cases S with
  | nil => intro y hy; cases hy
  | cons a S =>
    have key : ∀ y ∈ a :: S, levS y c.1 = levS a c.1 := fun y hy => by
      have := h.1 y hy
      simp [likeS] at this
      exact this.2
    intro y hy z hz
    rw [key y hy, key z hz]
theorem fit_by {kind : Nat} {l : List Sz} {c : Int × Int} : ∀ x ∈ byS kind l c, ∃ S, FitX l c x S := by
  rw [byS]
  split
  · rename_i h
    have hc : 2 ≤ c.1 ∧ c.1 ≤ 8 ∧ 1 ≤ c.2 ∧ c.2 ≤ 64 := by simpa [mayT] using h.2
    intro x hx
    rw [aloneS, List.mem_append] at hx
    rcases hx with hx | hx
    · unfold kindS at hx
      split at hx
      · obtain ⟨n, _, hx⟩ := List.mem_flatMap.1 hx
        obtain ⟨S, h1, h2, h3, h4⟩ := chunks_form hx
        refine ⟨S, h.1, h.2, h1, fun y hy => ?_, by omega, fun y hy z hz => ?_, fun _ => ⟨by omega, h4⟩⟩
        · exact (List.mem_filter.1 (List.mem_filter.1 (h2 y hy)).1).1
        · have e1 := (List.mem_filter.1 (h2 y hy)).2
          have e2 := (List.mem_filter.1 (h2 z hz)).2
          simp at e1 e2
          omega
      · obtain ⟨S, h1, h2, h3, h4⟩ := runs_form hx
        obtain ⟨h5, h6⟩ := run_lev h4
        exact ⟨S, h.1, h.2, h1, h2, by omega, h5, fun _ => ⟨by omega, h6⟩⟩
    · obtain ⟨y, hy, rfl⟩ := List.mem_map.1 hx
      have hsub : (aloneA l (kindS kind l c) halfS).Sublist l := (List.filter_sublist).trans List.filter_sublist
      refine ⟨[y], h.1, h.2, rfl, fun z hz => ?_, by simp, fun a ha b hb => ?_, fun hh => by simp at hh⟩
      · simp at hz; subst hz; exact hsub.subset hy
      · simp at ha hb; subst ha; subst hb; rfl
  · simp

end Go.Aw
namespace Go.Aw
open Go.Proofs
set_option maxRecDepth 100000
set_option maxHeartbeats 4000000

/- WHAT COMES OF PROPOSALS -/
theorem nodup_snoc {a : List Int} {x : Int} (h : a.Nodup) (hx : x ∉ a) : (a ++ [x]).Nodup := by
  refine List.nodup_append.2 ⟨h, by simp, fun y hy z hz e => ?_⟩
  simp at hz; subst hz; subst e; exact hx hy
theorem take_any_succ {l : List Sz} {p : List Int} {k : Nat} (hk : k < l.length) : (l.take (k + 1)).any (inP p) = ((l.take k).any (inP p) || inP p l[k]) := by
  rw [List.take_succ_eq_append_getElem hk, List.any_append]; simp

structure OutOk (l : List Sz) (p : List Int) (m : Sz) (k : Nat) : Prop where
  nd : (gensS (outK l p m k)).Nodup
  mem : ∀ y, y ∈ outK l p m k ↔ (y ∈ l.take k ∧ inP p y = false) ∨ (y = m ∧ m.docs ≠ 0 ∧ (l.take k).any (inP p) = true)
  all : allS (outK l p m k) = allS ((l.take k).filter fun s => !inP p s) + (if m.docs ≠ 0 ∧ (l.take k).any (inP p) = true then m.live else 0)
  len : (outK l p m k).length = ((l.take k).filter fun s => !inP p s).length + (if m.docs ≠ 0 ∧ (l.take k).any (inP p) = true then 1 else 0)
theorem out_ok {l : List Sz} {p : List Int} {m : Sz} (hn : (gensS l).Nodup) (hm : ∀ s ∈ l, s.gen ≠ m.gen) : ∀ {k : Nat}, k ≤ l.length → OutOk l p m k
  | 0, _ => ⟨by simp [outK, gensS], by simp [outK], by simp [outK, allS], by simp [outK]⟩
  | k + 1, hk => by
    have hk' : k < l.length := by omega
    have ih := out_ok (p := p) hn hm (by omega : k ≤ l.length)
    have htk : l.take (k + 1) = l.take k ++ [l[k]] := List.take_succ_eq_append_getElem hk'
    have hany := take_any_succ (p := p) hk'
    have hs := outK_succ (p := p) (m := m) hk'
    have hfil : (l.take (k + 1)).filter (fun s => !inP p s) = (l.take k).filter (fun s => !inP p s) ++ if inP p l[k] = true then [] else [l[k]] := by
      rw [htk, List.filter_append, List.filter_cons]
      cases inP p l[k] <;> rfl
    have fresh : l[k].gen ∉ gensS (l.take k) := fun h => by
      have hn2 : (gensS (l.take (k + 1))).Nodup := (gens_sub (List.take_sublist (k + 1) l)).nodup hn
      rw [htk, gensS, List.map_append, List.nodup_append] at hn2
      exact hn2.2.2 _ h _ (by simp) rfl
    cases hi : inP p l[k] with
    | true =>
      rw [hi, if_pos rfl, List.append_nil] at hfil
      rw [hi, Bool.or_true] at hany
      by_cases hc : m.docs = 0 ∨ (l.take k).any (inP p) = true
      · rw [stepO, hi, if_pos rfl, if_pos hc, List.append_nil] at hs
        refine ⟨by rw [hs]; exact ih.nd, fun y => ?_, ?_, ?_⟩
        · rw [hs, ih.mem, htk, List.mem_append, List.mem_singleton, ← htk, hany]
          constructor
          · rintro (⟨h1, h2⟩ | ⟨h1, h2, h3⟩)
            · exact .inl ⟨.inl h1, h2⟩
            · exact .inr ⟨h1, h2, rfl⟩
          · rintro (⟨h1 | h1, h2⟩ | ⟨h1, h2, _⟩)
            · exact .inl ⟨h1, h2⟩
            · subst h1; rw [hi] at h2; cases h2
            · exact .inr ⟨h1, h2, hc.resolve_left h2⟩
        · rw [hs, ih.all, hfil, hany]
          congr 1
          rcases hc with hc | hc
          · rw [if_neg (fun h => h.1 hc), if_neg (fun h => h.1 hc)]
          · rw [hc]
        · rw [hs, ih.len, hfil, hany]
          congr 1
          rcases hc with hc | hc
          · rw [if_neg (fun h => h.1 hc), if_neg (fun h => h.1 hc)]
          · rw [hc]
      · rw [stepO, hi, if_pos rfl, if_neg hc] at hs
        have h1 : m.docs ≠ 0 := fun e => hc (.inl e)
        have h2 : (l.take k).any (inP p) = false := by rw [← Bool.not_eq_true]; exact fun e => hc (.inr e)
        refine ⟨?_, fun y => ?_, ?_, ?_⟩
        · rw [hs, gensS, List.map_append]
          refine nodup_snoc ih.nd fun hmem => ?_
          obtain ⟨y, hy, e⟩ := List.mem_map.1 hmem
          rcases (ih.mem y).1 hy with ⟨h3, _⟩ | ⟨_, _, h3⟩
          · exact hm y (List.mem_of_mem_take h3) e
          · rw [h2] at h3; cases h3
        · rw [hs, List.mem_append, ih.mem, htk, List.mem_append, List.mem_singleton, List.mem_singleton, ← htk, hany]
          constructor
          · rintro ((⟨h3, h4⟩ | ⟨_, _, h3⟩) | h3)
            · exact .inl ⟨.inl h3, h4⟩
            · rw [h2] at h3; cases h3
            · exact .inr ⟨h3, h1, rfl⟩
          · rintro (⟨h3 | h3, h4⟩ | ⟨h3, _, _⟩)
            · exact .inl (.inl ⟨h3, h4⟩)
            · subst h3; rw [hi] at h4; cases h4
            · exact .inr h3
        · rw [hs, allS_app, ih.all, hfil, hany, h2, if_neg (by simp), if_pos ⟨h1, rfl⟩]
          simp [allS]
        · rw [hs, List.length_append, ih.len, hfil, hany, h2, if_neg (by simp), if_pos ⟨h1, rfl⟩]; rfl
    | false =>
      rw [hi, if_neg (by simp)] at hfil
      rw [hi, Bool.or_false] at hany
      rw [stepO, hi, if_neg (by simp)] at hs
      refine ⟨?_, fun y => ?_, ?_, ?_⟩
      · rw [hs, gensS, List.map_append]
        refine nodup_snoc ih.nd fun hmem => ?_
        obtain ⟨y, hy, e⟩ := List.mem_map.1 hmem
        rcases (ih.mem y).1 hy with ⟨h3, _⟩ | ⟨h3, _, _⟩
        · exact fresh (List.mem_map.2 ⟨y, h3, e⟩)
        · subst h3; exact hm _ (List.getElem_mem hk') e.symm
      · rw [hs, List.mem_append, ih.mem, hany, htk, List.mem_append, List.mem_singleton]
        constructor
        · rintro ((⟨h3, h4⟩ | h3) | h3)
          · exact .inl ⟨.inl h3, h4⟩
          · exact .inr h3
          · subst h3; exact .inl ⟨.inr rfl, hi⟩
        · rintro (⟨h3 | h3, h4⟩ | h3)
          · exact .inl (.inl ⟨h3, h4⟩)
          · exact .inr h3
          · exact .inl (.inr h3)
      · rw [hs, allS_app, ih.all, hfil, hany, allS_app]
        simp only [allS]; omega
      · rw [hs, List.length_append, ih.len, hfil, hany, List.length_append]
        simp only [List.length_cons, List.length_nil]; omega
theorem len_split {l : List Sz} {p : List Int} : l.length = (l.filter fun s => !inP p s).length + (pick l p).length := by
  induction l with
  | nil => rfl
  | cons a l ih =>
    rw [pick, List.filter_cons, List.filter_cons]
    rw [pick] at ih
    cases inP p a <;> simp <;> omega
theorem all_split {l : List Sz} {p : List Int} : allS l = allS (l.filter fun s => !inP p s) + allS (pick l p) := by
  induction l with
  | nil => rfl
  | cons a l ih =>
    rw [pick, List.filter_cons, List.filter_cons]
    rw [pick] at ih
    cases inP p a <;> simp [allS] <;> omega
theorem all_pos {l : List Sz} (hs : ∀ s ∈ l, sane s) : 0 ≤ allS l := (allS_le hs).1

/-- what one proposal makes -/
structure OneOk (l : List Sz) (p : List Int) (g : Int) (o : List Sz) : Prop where
  nd : (gensS o).Nodup
  all : allS o = allS l
  stay : ∀ y ∈ l, y.gen ∉ p → y ∈ o
  mem : ∀ y ∈ o, (y ∈ l ∧ y.gen ∉ p) ∨ (y.gen = g ∧ y.dead = 0 ∧ y.busy = false ∧ 0 < y.docs ∧ y.docs ≤ 64)
  top : g ≤ 34359738367
  len : o.length + p.length ≤ l.length + 1
theorem one_ok {l o : List Sz} {p : List Int} {g : Int} (hn : (gensS l).Nodup) (hs : ∀ s ∈ l, sane s) (hg : ∀ s ∈ l, s.gen < g) (h : oneS l p g = some o) : OneOk l p g o := by
  unfold oneS at h
  split at h
  · cases h
  · rename_i hc
    cases h
    have hA := all_pos (pick_sane (p := p) hs)
    have hk := out_ok (p := p) (m := merged g (allS (pick l p))) hn (fun s hm => by have := hg s hm; simp only [merged]; omega) (Nat.le_refl _)
    have hany : l.any (inP p) = true := by
      rw [← Bool.not_eq_false]
      intro hf
      rw [List.any_eq_false] at hf
      exact hc (.inl (by rw [pick, List.filter_eq_nil_iff.2 fun s hs => hf s hs]; rfl))
    have hmem := hk.mem
    have hall := hk.all
    rw [List.take_length] at hmem hall
    rw [hany] at hall
    refine ⟨hk.nd, ?_, fun y hy hp => ?_, fun y hy => ?_, by omega, ?_⟩
    · rw [hall, all_split (l := l) (p := p)]
      congr 1
      by_cases h0 : allS (pick l p) = 0
      · rw [if_neg (fun h => h.1 h0), h0]
      · rw [if_pos ⟨h0, rfl⟩]; simp [merged, Sz.live]
    · exact (hmem y).2 (.inl ⟨hy, decide_eq_false hp⟩)
    · rcases (hmem y).1 hy with ⟨h1, h2⟩ | ⟨h1, h2, _⟩
      · exact .inl ⟨h1, of_decide_eq_false h2⟩
      · subst h1
        have : allS (pick l p) ≠ 0 := h2
        exact .inr ⟨rfl, rfl, rfl, by simp only [merged]; omega, by simp only [merged]; omega⟩
    · have h1 := hk.len
      rw [List.take_length] at h1
      have h2 := len_split (l := l) (p := p)
      rw [h1]
      have h3 : (pick l p).length = p.length := by
        rcases Nat.lt_trichotomy (pick l p).length p.length with h | h | h
        · exact absurd (.inr (.inl (by omega))) hc
        · exact h
        · exact absurd (.inr (.inl (by omega))) hc
      split <;> omega
end Go.Aw
namespace Go.Aw
open Go.Proofs
set_option maxRecDepth 100000
set_option maxHeartbeats 4000000

/-- what proposals make, all done -/
structure FoldOk (l : List Sz) (p : List (List Int)) (g : Int) (o : List Sz) : Prop where
  nd : (gensS o).Nodup
  all : allS o = allS l
  stay : ∀ y ∈ l, y.gen ∉ p.flatten → y ∈ o
  mem : ∀ y ∈ o, (y ∈ l ∧ y.gen ∉ p.flatten) ∨ (g < y.gen ∧ y.gen ≤ 34359738367 ∧ y.dead = 0 ∧ y.busy = false ∧ 0 < y.docs ∧ y.docs ≤ 64)
  len : o.length + p.flatten.length ≤ l.length + p.length
theorem fold_ok {was : List Int} : ∀ {p : List (List Int)} {l o : List Sz} {g : Int}, (gensS l).Nodup → (∀ s ∈ l, sane s) → (∀ s ∈ l, s.gen ≤ g) → (∀ x ∈ was, x ≤ g) → foldA was p l g = some o → FoldOk l p g o
  | [], l, o, g, hn, _, _, _, h => by
    rw [foldA] at h; cases h
    exact ⟨hn, rfl, fun y hy _ => hy, fun y hy => .inl ⟨hy, by simp⟩, by simp⟩
  | x :: r, l, o, g, hn, hs, hg, hw, h => by
    rw [foldA] at h
    split at h
    · cases h
    · rename_i now hnow
      split at h
      · cases h
      · rename_i hx
        have h1 := one_ok hn hs (fun s hm => by have := hg s hm; omega) hnow
        obtain ⟨hs2, _⟩ := one_sane hs hnow
        have h2 := fold_ok h1.nd hs2 (fun s hm => by
          rcases h1.mem s hm with ⟨h3, _⟩ | ⟨h3, _⟩
          · have := hg s h3; omega
          · omega) (fun y hy => by have := hw y hy; omega) h
        refine ⟨h2.nd, by rw [h2.all, h1.all], fun y hy hp => ?_, fun y hy => ?_, ?_⟩
        · rw [List.flatten_cons, List.mem_append] at hp
          exact h2.stay y (h1.stay y hy fun h => hp (.inl h)) fun h => hp (.inr h)
        · rcases h2.mem y hy with ⟨h3, h4⟩ | ⟨h3, h4⟩
          · rcases h1.mem y h3 with ⟨h5, h6⟩ | ⟨h5, h6, h7, h8, h9⟩
            · refine .inl ⟨h5, ?_⟩
              rw [List.flatten_cons, List.mem_append]
              rintro (h | h)
              · exact h6 h
              · exact h4 h
            · have := h1.top
              exact .inr ⟨by omega, by omega, h6, h7, h8, h9⟩
          · exact .inr ⟨by omega, h4⟩
        · have e1 := h1.len
          have e2 := h2.len
          rw [List.flatten_cons, List.length_append, List.length_cons]; omega
theorem le_topS {l : List Sz} : ∀ s ∈ l, s.gen ≤ topS l := fun s hs => by
  have key : ∀ (xs : List Int) (a : Int), a ≤ xs.foldl max a ∧ ∀ x ∈ xs, x ≤ xs.foldl max a := by
    intro xs
    induction xs with
    | nil => intro a; exact ⟨Int.le_refl _, by simp⟩
    | cons y xs ih =>
      intro a
      obtain ⟨h1, h2⟩ := ih (max a y)
      rw [List.foldl_cons]
      refine ⟨by omega, fun x hx => ?_⟩
      rcases List.mem_cons.1 hx with rfl | hx
      · omega
      · exact h2 x hx
  exact (key (gensS l) 0).2 _ (List.mem_map.2 ⟨s, hs, rfl⟩)
theorem after_ok {l : List Sz} {p : List (List Int)} (h : afterS l p ≠ []) : mayS l = true ∧ p.flatten.Nodup ∧ FoldOk l p (topS l) (afterS l p) := by
  rw [afterS] at h ⊢
  split at h
  · rename_i hc
    rw [if_pos hc]
    cases ho : foldA (gensS l) p l (topS l) with
    | none => rw [ho] at h; exact absurd rfl h
    | some o =>
      refine ⟨hc.1, hc.2, fold_ok (mayS_nodup hc.1) (mayS_sane hc.1) le_topS (fun x hx => ?_) ho⟩
      obtain ⟨s, hs, rfl⟩ := List.mem_map.1 hx
      exact le_topS s hs
  · exact absurd rfl h
theorem mayS_iff {l : List Sz} : mayS l = true ↔ l.length ≤ 16 ∧ (∀ s ∈ l, okS s = true) ∧ (gensS l).Nodup := by
  simp [mayS]
theorem after_may {l : List Sz} {p : List (List Int)} (h : afterS l p ≠ []) : mayS (afterS l p) = true := by
  obtain ⟨h1, h2, h3⟩ := after_ok h
  obtain ⟨h4, h5⟩ := after_sane (l := l) (p := p)
  have ht := topS_le h1
  refine mayS_iff.2 ⟨h5, fun s hs => okS_iff.2 ?_, h3.nd⟩
  rcases h3.mem s hs with ⟨h6, _⟩ | ⟨h6, h7, _⟩
  · exact okS_iff.1 ((mayS_iff.1 h1).2.1 s h6)
  · exact ⟨by omega, h7, h4 s hs⟩
theorem after_len {l : List Sz} {p : List (List Int)} : (afterS l p).length ≤ l.length := by
  rw [afterS]
  split
  · rename_i hc
    cases ho : foldA (gensS l) p l (topS l) with
    | none => simp
    | some o => exact (fold_sane (mayS_sane hc.1) ho).2
  · simp
/-- PolicyKeeps: who is of no proposal is there as he was; who is of one is not -/
theorem after_keeps {l : List Sz} {p : List (List Int)} (h : afterS l p ≠ []) : ∀ s ∈ l, sizeS (afterS l p) s.gen = if s.gen ∈ p.flatten then none else some s := fun s hs => by
  obtain ⟨h1, h2, h3⟩ := after_ok h
  split
  · rename_i hp
    rw [sizeS, List.find?_eq_none]
    intro y hy he
    have he : y.gen = s.gen := by simpa using he
    rcases h3.mem y hy with ⟨h4, h5⟩ | ⟨h4, _⟩
    · rw [he] at h5; exact h5 hp
    · have := le_topS s hs; omega
  · rename_i hp
    exact size_mem h3.nd (h3.stay s hs hp)
end Go.Aw
