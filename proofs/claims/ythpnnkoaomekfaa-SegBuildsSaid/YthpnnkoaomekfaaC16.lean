/- Contracts of functions of the given program, by the abstract walk, for law SegBuilds: what each one hands back; no condition but those that each theorem states. -/
import Derived.Test.YthpnnkoaomekfaaC15
import Derived.Test.YthpnnkoaomekfaaC2
namespace Go.Aw
open Go.Proofs Go.Sort
set_option maxRecDepth 100000
set_option maxHeartbeats 4000000

theorem tv_strs {t : T} (h : TV (.sl 1 .s) t) : ∃ xs : List ByteArray, t = tstrs xs ∧ xs.length ≤ maxLen := by
  obtain ⟨cs, ⟨es, rfl, hl, he⟩, rfl⟩ := h
  have : ∃ xs : List ByteArray, es = xs.map T.s := by
    clear hl
    induction es with
    | nil => exact ⟨[], rfl⟩
    | cons e es ih =>
      obtain ⟨xs, rfl⟩ := ih fun x hx => he x (by simp [hx])
      obtain ⟨ys, ⟨n, rfl, _⟩, rfl⟩ := he e (by simp)
      exact ⟨n :: xs, rfl⟩
  obtain ⟨xs, rfl⟩ := this
  exact ⟨xs, rfl, by simpa using hl⟩
theorem tv_card {t : T} (h : TV (.fc .s (.fc (.i .i64) (.fc (.sl 1 .s) .fn))) t) : ∃ c : Cd, t = tcard c ∧ c.w.length ≤ maxLen ∧ c.id.size ≤ maxLen := by
  obtain ⟨cs, h1, rfl⟩ := h
  obtain ⟨_, _, rfl, ⟨n1, rfl, hs⟩, _, _, rfl, ⟨n2, rfl, _⟩, _, _, rfl, h3, rfl⟩ := h1
  obtain ⟨es, rfl, hl, he⟩ := h3
  obtain ⟨xs, e, hx⟩ := tv_strs (t := .sl 1 es) ⟨[.sl 1 es], ⟨es, rfl, hl, he⟩, rfl⟩
  cases e
  exact ⟨⟨n1, n2, xs⟩, rfl, hx, hs⟩
theorem tv_cards {t : T} (h : TV (.sl 3 (.fc .s (.fc (.i .i64) (.fc (.sl 1 .s) .fn)))) t) : ∃ l : List Cd, t = tcards l ∧ l.length ≤ maxLen ∧ ∀ c ∈ l, c.w.length ≤ maxLen := by
  obtain ⟨cs, ⟨es, rfl, hl, he⟩, rfl⟩ := h
  have : ∃ l : List Cd, es = l.map tcard ∧ ∀ c ∈ l, c.w.length ≤ maxLen := by
    clear hl
    induction es with
    | nil => exact ⟨[], rfl, by simp⟩
    | cons e es ih =>
      obtain ⟨xs, rfl, hxs⟩ := ih fun x hx => he x (by simp [hx])
      obtain ⟨ys, h1, h2⟩ := he e (by simp)
      obtain ⟨c, h3, h4, _⟩ := tv_card ⟨ys, h1, h2⟩
      subst h3
      exact ⟨c :: xs, rfl, by simpa using ⟨h4, hxs⟩⟩
  obtain ⟨l, rfl, hx⟩ := this
  exact ⟨l, rfl, by simpa using hl, hx⟩
theorem tv_bool {t : T} (h : TV .b t) : ∃ b : Bool, t = .b b := by
  obtain ⟨cs, ⟨b, rfl⟩, rfl⟩ := h
  exact ⟨b, rfl⟩
end Go.Aw
namespace Go.Aw
open Go.Proofs Go.Sort
set_option maxRecDepth 100000
set_option maxHeartbeats 4000000

theorem seg_bnd {o : List Cd} {b : Bool} (h : bndC o) : bndS (segOf o b) := by
  obtain ⟨h1, h2, h3⟩ := id h
  refine ⟨by simp [segOf]; omega, by simp [segOf]; omega, by simp [segOf]; omega, ?_, ?_⟩
  · have := wl_len (ws := o.flatMap (·.w))
    simp [segOf]; omega
  · intro x hx
    obtain ⟨t, ht, rfl⟩ := List.mem_map.1 hx
    refine ⟨?_, fun p hp => ?_⟩
    · have := pst_len (ls := o.map (·.w)) (x := t)
      rw [List.length_map] at this
      show (pst (o.map (·.w)) t).length < _
      omega
    · obtain ⟨w, hw, e⟩ := pst_at p hp
      obtain ⟨c, hc, rfl⟩ := List.mem_map.1 hw
      have := h.w c hc
      have h4 := plc_len (ws := c.w) (x := t)
      rw [e]; omega
theorem build_bnd {l : List Cd} {b : Bool} (h : bndC l) : bndS (buildS l b).1 := by
  have hz : bndS noSg := by simp [bndS, noSg, bndT]
  unfold buildS
  split
  · exact hz
  · split
    · exact hz
    · split
      · exact hz
      · exact seg_bnd (h.perm ordO_perm)
theorem c_law08_SegBuilds : ∀ ys, TVs [.sl 3 (.fc .s (.fc (.i .i64) (.fc (.sl 1 .s) .fn))), .b, .fc .s (.fc (.i .i64) (.fc (.sl 1 .s) .fn)), .fc .s (.fc (.i .i64) (.fc (.sl 1 .s) .fn))] ys → CG Try.prog 9 ys (.b true) := by
  intro ys hy
  obtain ⟨y0, ys, rfl, h0, hy⟩ := tvs_cons hy
  obtain ⟨y1, ys, rfl, h1, hy⟩ := tvs_cons hy
  obtain ⟨y2, ys, rfl, h2, hy⟩ := tvs_cons hy
  obtain ⟨y3, ys, rfl, h3, hy⟩ := tvs_cons hy
  cases tvs_nil hy
  obtain ⟨l, rfl, hl, hlw⟩ := tv_cards h0
  obtain ⟨b, rfl⟩ := tv_bool h1
  obtain ⟨c, rfl, _, hc⟩ := tv_card h2
  obtain ⟨d, rfl, _, hd⟩ := tv_card h3
  have hM : maxLen = 9223372036854775807 := rfl
  rw [hM] at hl hc hd
  have hlw : ∀ c ∈ l, c.w.length ≤ 9223372036854775807 := hlw
  refine ⟨k_law08_SegBuilds.calls ?_⟩
  have fin : ∀ L : List Blk, Ends [] (fun r h => r = V.g (T.b true) ∧ h = []) (V.g (T.b true)) L := fun L => Ends.ground (H := []) (L := L) 0 rfl ⟨rfl, rfl⟩
  have few := c_law08_Few l (by omega) (fun x hx => by have := hlw x hx; omega)
  (try conv => whnf); repeat ((first | refine (c_law08_awake).go rfl ?_ | refine (few).go rfl ?_ | refine ⟨⟨rfl, rfl⟩, ?_⟩); conv => whnf)
  refine Br.not (fun e1 => ?_) (fun e1 => ?_)
  · (try conv => whnf); repeat ((first | fail); conv => whnf)
    exact ⟨fin _⟩
  · have hf := of_decide_eq_true e1
    have hb := few_bnd hf
    (try conv => whnf); repeat ((first | refine ⟨rfl, _, rfl, ?_⟩); conv => whnf)
    refine Br.dec (fun e2 => ?_) (fun e2 => ?_)
    · (try conv => whnf); repeat ((first | fail); conv => whnf)
      exact ⟨fin _⟩
    (try conv => whnf); repeat ((first | refine ⟨rfl, _, rfl, ?_⟩); conv => whnf)
    refine Br.dec (fun e3 => ?_) (fun e3 => ?_)
    · (try conv => whnf); repeat ((first | fail); conv => whnf)
      exact ⟨fin _⟩
    have b1 := c_seg_Build l b hb
    have b2 := c_ref08_Build l b hb
    have q1 := c_ref08_Same (buildS l b).1 (buildS l b).1 (build_bnd hb)
    rw [decide_eq_true rfl] at q1
    have r1 := c_seg_Before c d
    have r2 := c_ref08_Before c d (by unfold bigB; omega) (by unfold bigB; omega)
    (try conv => whnf); repeat ((first | refine (b1).go rfl ?_ | refine (b2).go rfl ?_ | refine (q1).go rfl ?_ | refine ⟨_, (r1).go rfl ⟨rfl, rfl⟩, ?_⟩ | refine ⟨_, (r2).go rfl ⟨rfl, rfl⟩, ?_⟩ | refine ⟨rfl, _, rfl, ⟨rfl, rfl, by decide⟩, ?_⟩ | refine ⟨rfl, _, rfl, ?_⟩ | refine ⟨rfl, ?_⟩ | refine Br.dec (fun _ => ?_) (fun hh => absurd (by omega) hh)); conv => whnf)
    rw [show (if false = true then !befC c d == befC c d else befC c d == befC c d) = true from by simp]
    exact ⟨fin _⟩
end Go.Aw
