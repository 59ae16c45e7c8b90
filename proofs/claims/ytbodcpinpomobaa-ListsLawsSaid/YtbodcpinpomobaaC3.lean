/- Contracts of functions of the given program, by the abstract walk, for law ListsLaws: what each one hands back; no condition but those that each theorem states. -/
import Derived.Test.YtbodcpinpomobaaC2
namespace Go.Aw
open Go.Proofs
set_option maxRecDepth 100000

theorem c_law16_ListsOr : ∀ ys, TVs [.sl 1 (.i .i64), .sl 1 (.i .i64), .i .i64] ys → CG Try.prog 10 ys (.b true) := by
  intro ys hy
  obtain ⟨y0, ys, rfl, h0, hy⟩ := tvs_cons hy
  obtain ⟨y1, ys, rfl, h1, hy⟩ := tvs_cons hy
  obtain ⟨y2, ys, rfl, h2, hy⟩ := tvs_cons hy
  cases tvs_nil hy
  obtain ⟨a, rfl, ha0⟩ := tv_ints h0
  obtain ⟨b, rfl, hb0⟩ := tv_ints h1
  obtain ⟨x, rfl, _⟩ := tv_int h2
  unfold maxLen at ha0 hb0
  refine ⟨k_law16_ListsOr.calls ?_⟩
  have f2 := c_law16_few [a, b] (by simp)
  have m1 := c_lists_May a (by omega)
  have m2 := c_lists_May b (by omega)
  conv => whnf
  cases hv2 : (decide ([a, b].length ≤ 5) && [a, b].all fun l => decide (l.length ≤ 300)) <;> rw [hv2] at f2
  · repeat ((first | refine (c_law16_awake).go rfl ?_ | refine (f2).go rfl ?_ | refine And.intro (show cellsAll _ _ from by repeat (first | exact trivial | refine ⟨⟨rfl, rfl⟩, ?_⟩)) ?_); conv => whnf)
    exact ⟨Ends.keep ⟨rfl, rfl⟩⟩
  cases hma : mayL a <;> rw [hma] at m1
  · repeat ((first | refine (c_law16_awake).go rfl ?_ | refine (f2).go rfl ?_ | refine (m1).go rfl ?_ | refine And.intro (show cellsAll _ _ from by repeat (first | exact trivial | refine ⟨⟨rfl, rfl⟩, ?_⟩)) ?_); conv => whnf)
    exact ⟨Ends.keep ⟨rfl, rfl⟩⟩
  cases hmb : mayL b <;> rw [hmb] at m2
  · repeat ((first | refine (c_law16_awake).go rfl ?_ | refine (f2).go rfl ?_ | refine (m1).go rfl ?_ | refine (m2).go rfl ?_ | refine And.intro (show cellsAll _ _ from by repeat (first | exact trivial | refine ⟨⟨rfl, rfl⟩, ?_⟩)) ?_); conv => whnf)
    exact ⟨Ends.keep ⟨rfl, rfl⟩⟩
  · obtain ⟨q1, q2⟩ := few_true hv2
    have ha : a.length ≤ 300 := q2 a (by simp)
    have hb : b.length ≤ 300 := q2 b (by simp)
    have al2 : [a, b].all mayL = true := by simp [hma, hmb]
    have al3 : [b, a, b].all mayL = true := by simp [hma, hmb]
    have al1 : [a].all mayL = true := by simp [hma]
    have l2 : [a, b].flatten.length ≤ 2000 := by simp; omega
    have l3 : [b, a, b].flatten.length ≤ 2000 := by simp; omega
    have l1 : [a].flatten.length ≤ 2000 := by simp; omega
    have e1 : orL [b, a, b] = orL [a, b] := may_ext (orL_may al3 l3) (orL_may al2 l2) fun z => by
      rw [orL_mem al3 l3, orL_mem al2 l2]; simp [or_comm, or_left_comm]
    have e2 : orL [a] = a := may_ext (orL_may al1 l1) hma fun z => by rw [orL_mem al1 l1]; simp
    have c1 := c_lists_Or [a, b] (by simp) (by simp; omega) (by omega)
    have c2 := c_lists_Or [b, a, b] (by simp) (by simp; omega) (by omega)
    have c3 := c_lists_Or [a] (by simp) (by simp; omega) (by omega)
    have c4 := c_lists_Or [] (by simp) (by simp) (by simp)
    have c5 := c_lists_And [a, b] (by simp) (by simp; omega)
    rw [e1] at c2; rw [e2] at c3
    have hlen := orL_len (ls := [a, b])
    have i1 := ints_same (orL [a, b]) (orL [a, b]) (by omega) rfl
    have i2 := ints_same a a (by omega) rfl
    have mm := c_lists_May (orL [a, b]) (by omega)
    rw [orL_may al2 l2] at mm
    have hx := orL_mem al2 l2 x
    have x1 := has_true (b := decide (x ∈ a) || decide (x ∈ b)) (xs := orL [a, b]) (n := x) (by omega) (by rw [Bool.eq_iff_iff]; simp [hx])
    have x2 := c_ref16_Has a x (by omega)
    have x3 := c_ref16_Has b x (by omega)
    have hsum := or_and_len hma hmb (by omega)
    have hlen2 := andL_len (l := a) (r := [b])
    have hm1 : ((orL [a, b]).map T.i).length = (orL [a, b]).length := by simp
    have hm2 : ((andL [a, b]).map T.i).length = (andL [a, b]).length := by simp
    have hm3 : (a.map T.i).length = a.length := by simp
    have hm4 : (b.map T.i).length = b.length := by simp
    generalize decide (x ∈ a) = p at x1 x2
    generalize decide (x ∈ b) = q at x1 x3
    repeat ((first | refine (c_law16_awake).go rfl ?_ | refine (f2).go rfl ?_ | refine (m1).go rfl ?_ | refine (m2).go rfl ?_ | refine (c1).go rfl ?_ | refine (c2).go rfl ?_ | refine (c3).go rfl ?_ | refine (i1).go rfl ?_ | refine (i2).go rfl ?_ | refine (x1).go rfl ?_ | refine (x2).go rfl ?_ | refine (x3).go rfl ?_ | refine And.intro (show cellsAll _ _ from by repeat (first | exact trivial | refine ⟨⟨rfl, rfl⟩, ?_⟩)) ?_); conv => whnf)
    cases p <;> cases q <;> (conv => whnf)
    all_goals
      repeat ((first | refine (mm).go rfl ?_ | refine (c4).go rfl ?_ | refine (c5).go rfl ?_ | refine And.intro (show cellsAll _ _ from by repeat (first | exact trivial | refine ⟨⟨rfl, rfl⟩, ?_⟩)) ?_); conv => whnf)
      refine ⟨in64 (by omega) (by omega), ?_⟩
      conv => whnf
      refine ⟨in64 (by omega) (by omega), ?_⟩
      conv => whnf
      refine ⟨Ends.keep ⟨?_, rfl⟩⟩
      have e : ((((orL [a, b]).map T.i).length : Int) + ((andL [a, b]).map T.i).length == ((a.map T.i).length : Int) + (b.map T.i).length) = true := by
        rw [beq_iff_eq]; omega
      rw [e]

theorem c_law16_ListsBut : ∀ ys, TVs [.sl 1 (.i .i64), .sl 1 (.i .i64), .i .i64] ys → CG Try.prog 11 ys (.b true) := by
  intro ys hy
  obtain ⟨y0, ys, rfl, h0, hy⟩ := tvs_cons hy
  obtain ⟨y1, ys, rfl, h1, hy⟩ := tvs_cons hy
  obtain ⟨y2, ys, rfl, h2, hy⟩ := tvs_cons hy
  cases tvs_nil hy
  obtain ⟨a, rfl, ha0⟩ := tv_ints h0
  obtain ⟨b, rfl, hb0⟩ := tv_ints h1
  obtain ⟨x, rfl, _⟩ := tv_int h2
  unfold maxLen at ha0 hb0
  refine ⟨k_law16_ListsBut.calls ?_⟩
  have f2 := c_law16_few [a, b] (by simp)
  have m1 := c_lists_May a (by omega)
  have m2 := c_lists_May b (by omega)
  conv => whnf
  cases hv2 : (decide ([a, b].length ≤ 5) && [a, b].all fun l => decide (l.length ≤ 300)) <;> rw [hv2] at f2
  · repeat ((first | refine (c_law16_awake).go rfl ?_ | refine (f2).go rfl ?_ | refine And.intro (show cellsAll _ _ from by repeat (first | exact trivial | refine ⟨⟨rfl, rfl⟩, ?_⟩)) ?_); conv => whnf)
    exact ⟨Ends.keep ⟨rfl, rfl⟩⟩
  cases hma : mayL a <;> rw [hma] at m1
  · repeat ((first | refine (c_law16_awake).go rfl ?_ | refine (f2).go rfl ?_ | refine (m1).go rfl ?_ | refine And.intro (show cellsAll _ _ from by repeat (first | exact trivial | refine ⟨⟨rfl, rfl⟩, ?_⟩)) ?_); conv => whnf)
    exact ⟨Ends.keep ⟨rfl, rfl⟩⟩
  cases hmb : mayL b <;> rw [hmb] at m2
  · repeat ((first | refine (c_law16_awake).go rfl ?_ | refine (f2).go rfl ?_ | refine (m1).go rfl ?_ | refine (m2).go rfl ?_ | refine And.intro (show cellsAll _ _ from by repeat (first | exact trivial | refine ⟨⟨rfl, rfl⟩, ?_⟩)) ?_); conv => whnf)
    exact ⟨Ends.keep ⟨rfl, rfl⟩⟩
  · obtain ⟨q1, q2⟩ := few_true hv2
    have ha : a.length ≤ 300 := q2 a (by simp)
    have hb : b.length ≤ 300 := q2 b (by simp)
    have al2 : [a, b].all mayL = true := by simp [hma, hmb]
    have hc := butL_may hma hmb
    have hlen := butL_len (a := a) (b := b)
    have hlen2 := andL_len (l := a) (r := [b])
    have ald : [butL a b, andL [a, b]].all mayL = true := by simp [hc, andL_may al2]
    have alc : [butL a b, b].all mayL = true := by simp [hc, hmb]
    have ld : [butL a b, andL [a, b]].flatten.length ≤ 2000 := by simp; omega
    have e1 : orL [butL a b, andL [a, b]] = a := may_ext (orL_may ald ld) hma fun z => by
      rw [orL_mem ald ld]
      simp only [List.mem_cons, List.not_mem_nil, or_false, exists_eq_or_imp, exists_eq_left, butL_mem hma hmb, andL_mem (ls := [a, b]) (by simp) al2, forall_eq_or_imp, forall_eq]
      constructor
      · rintro (⟨h, _⟩ | ⟨h, _⟩) <;> exact h
      · intro h
        by_cases hb : z ∈ b
        · exact .inr ⟨h, hb⟩
        · exact .inl ⟨h, hb⟩
    have e2 : butL a a = [] := may_ext (butL_may hma hma) rfl fun z => by rw [butL_mem hma hma]; simp
    have e3 : andL [butL a b, b] = [] := may_ext (andL_may alc) rfl fun z => by
      rw [andL_mem (by simp) alc]
      simp only [List.mem_cons, List.not_mem_nil, or_false, forall_eq_or_imp, forall_eq, butL_mem hma hmb, iff_false]
      rintro ⟨⟨_, h⟩, h2⟩; exact h h2
    have c1 := c_lists_But a b (by omega) (by omega)
    have c2 := c_lists_And [a, b] (by simp) (by simp; omega)
    have c3 := c_lists_Or [butL a b, andL [a, b]] (by simp) (by simp; omega) (by omega)
    have c4 := c_lists_But a a (by omega) (by omega)
    have c5 := c_lists_And [butL a b, b] (by simp) (by simp; omega)
    rw [e1] at c3; rw [e2] at c4; rw [e3] at c5
    have i2 := ints_same a a (by omega) rfl
    have mm := c_lists_May (butL a b) (by omega)
    rw [hc] at mm
    have hx := butL_mem hma hmb x
    have x1 := has_true (b := decide (x ∈ a) && !decide (x ∈ b)) (xs := butL a b) (n := x) (by omega) (by rw [Bool.eq_iff_iff]; simp [hx])
    have x2 := c_ref16_Has a x (by omega)
    have x3 := c_ref16_Has b x (by omega)
    generalize decide (x ∈ a) = p at x1 x2
    generalize decide (x ∈ b) = q at x1 x3
    repeat ((first | refine (c_law16_awake).go rfl ?_ | refine (f2).go rfl ?_ | refine (m1).go rfl ?_ | refine (m2).go rfl ?_ | refine (c1).go rfl ?_ | refine (c2).go rfl ?_ | refine (c3).go rfl ?_ | refine (i2).go rfl ?_ | refine (x1).go rfl ?_ | refine (x2).go rfl ?_ | refine (x3).go rfl ?_ | refine And.intro (show cellsAll _ _ from by repeat (first | exact trivial | refine ⟨⟨rfl, rfl⟩, ?_⟩)) ?_); conv => whnf)
    cases p <;> cases q <;> (conv => whnf)
    all_goals
      repeat ((first | refine (mm).go rfl ?_ | refine (c4).go rfl ?_ | refine (c5).go rfl ?_ | refine And.intro (show cellsAll _ _ from by repeat (first | exact trivial | refine ⟨⟨rfl, rfl⟩, ?_⟩)) ?_); conv => whnf)
      exact ⟨Ends.keep ⟨rfl, rfl⟩⟩

theorem c_law16_ListsLaws : ∀ ys, TVs [.sl 1 (.i .i64), .sl 1 (.i .i64), .sl 1 (.i .i64)] ys → CG Try.prog 13 ys (.b true) := by
  intro ys hy
  obtain ⟨y0, ys, rfl, h0, hy⟩ := tvs_cons hy
  obtain ⟨y1, ys, rfl, h1, hy⟩ := tvs_cons hy
  obtain ⟨y2, ys, rfl, h2, hy⟩ := tvs_cons hy
  cases tvs_nil hy
  obtain ⟨a, rfl, ha0⟩ := tv_ints h0
  obtain ⟨b, rfl, hb0⟩ := tv_ints h1
  obtain ⟨c, rfl, hc0⟩ := tv_ints h2
  unfold maxLen at ha0 hb0 hc0
  refine ⟨k_law16_ListsLaws.calls ?_⟩
  have f2 := c_law16_few [a, b, c] (by simp)
  have m1 := c_lists_May a (by omega)
  have m2 := c_lists_May b (by omega)
  have m3 := c_lists_May c (by omega)
  conv => whnf
  cases hv2 : (decide ([a, b, c].length ≤ 5) && [a, b, c].all fun l => decide (l.length ≤ 300)) <;> rw [hv2] at f2
  · repeat ((first | refine (c_law16_awake).go rfl ?_ | refine (f2).go rfl ?_ | refine And.intro (show cellsAll _ _ from by repeat (first | exact trivial | refine ⟨⟨rfl, rfl⟩, ?_⟩)) ?_); conv => whnf)
    exact ⟨Ends.keep ⟨rfl, rfl⟩⟩
  cases hma : mayL a <;> rw [hma] at m1
  · repeat ((first | refine (c_law16_awake).go rfl ?_ | refine (f2).go rfl ?_ | refine (m1).go rfl ?_ | refine And.intro (show cellsAll _ _ from by repeat (first | exact trivial | refine ⟨⟨rfl, rfl⟩, ?_⟩)) ?_); conv => whnf)
    exact ⟨Ends.keep ⟨rfl, rfl⟩⟩
  cases hmb : mayL b <;> rw [hmb] at m2
  · repeat ((first | refine (c_law16_awake).go rfl ?_ | refine (f2).go rfl ?_ | refine (m1).go rfl ?_ | refine (m2).go rfl ?_ | refine And.intro (show cellsAll _ _ from by repeat (first | exact trivial | refine ⟨⟨rfl, rfl⟩, ?_⟩)) ?_); conv => whnf)
    exact ⟨Ends.keep ⟨rfl, rfl⟩⟩
  cases hmc : mayL c <;> rw [hmc] at m3
  · repeat ((first | refine (c_law16_awake).go rfl ?_ | refine (f2).go rfl ?_ | refine (m1).go rfl ?_ | refine (m2).go rfl ?_ | refine (m3).go rfl ?_ | refine And.intro (show cellsAll _ _ from by repeat (first | exact trivial | refine ⟨⟨rfl, rfl⟩, ?_⟩)) ?_); conv => whnf)
    exact ⟨Ends.keep ⟨rfl, rfl⟩⟩
  · obtain ⟨q1, q2⟩ := few_true hv2
    have ha : a.length ≤ 300 := q2 a (by simp)
    have hb : b.length ≤ 300 := q2 b (by simp)
    have hc : c.length ≤ 300 := q2 c (by simp)
    have al (p q : List Int) (hp : mayL p = true) (hq : mayL q = true) : [p, q].all mayL = true := by simp [hp, hq]
    have al3 : [a, b, c].all mayL = true := by simp [hma, hmb, hmc]
    have lbc : [b, c].flatten.length ≤ 2000 := by simp; omega
    have mab := andL_may (al a b hma hmb)
    have mac := andL_may (al a c hma hmc)
    have mbc := orL_may (al b c hmb hmc) lbc
    have mbu := butL_may hma hmb
    have n1 := butL_len (a := a) (b := b)
    have n2 := andL_len (l := a) (r := [b])
    have n3 := andL_len (l := a) (r := [c])
    have n4 : (orL [b, c]).length ≤ 600 := Nat.le_trans orL_len (by simp; omega)
    have n5 := butL_len (a := butL a b) (b := c)
    have lx : [andL [a, b], andL [a, c]].flatten.length ≤ 2000 := by simp; omega
    have e1 : butL (butL a b) c = butL a (orL [b, c]) := may_ext (butL_may mbu hmc) (butL_may hma mbc) fun z => by
      rw [butL_mem mbu hmc, butL_mem hma hmb, butL_mem hma mbc, orL_mem (al b c hmb hmc) lbc]
      simp [and_assoc]
    have e2 : andL [a, orL [b, c]] = orL [andL [a, b], andL [a, c]] := may_ext (andL_may (al _ _ hma mbc)) (orL_may (al _ _ mab mac) lx) fun z => by
      rw [andL_mem (by simp) (al _ _ hma mbc), orL_mem (al _ _ mab mac) lx]
      simp only [List.mem_cons, List.not_mem_nil, or_false, exists_eq_or_imp, exists_eq_left, forall_eq_or_imp, forall_eq, orL_mem (al b c hmb hmc) lbc, andL_mem (ls := [a, b]) (by simp) (al a b hma hmb), andL_mem (ls := [a, c]) (by simp) (al a c hma hmc)]
      constructor
      · rintro ⟨h, h2 | h2⟩
        · exact .inl ⟨h, h2⟩
        · exact .inr ⟨h, h2⟩
      · rintro (⟨h, h2⟩ | ⟨h, h2⟩)
        · exact ⟨h, .inl h2⟩
        · exact ⟨h, .inr h2⟩
    have e3 : andL [andL [a, b], c] = andL [a, b, c] := may_ext (andL_may (al _ _ mab hmc)) (andL_may al3) fun z => by
      rw [andL_mem (by simp) (al _ _ mab hmc), andL_mem (by simp) al3]
      simp only [List.mem_cons, List.not_mem_nil, or_false, forall_eq_or_imp, forall_eq, andL_mem (ls := [a, b]) (by simp) (al a b hma hmb), and_assoc]
    have c1 := c_lists_But a b (by omega) (by omega)
    have c2 := c_lists_But (butL a b) c (by omega) (by omega)
    have c3 := c_lists_Or [b, c] (by simp) (by simp; omega) (by omega)
    have c4 := c_lists_But a (orL [b, c]) (by omega) (by omega)
    have c5 := c_lists_And [a, orL [b, c]] (by simp) (by simp; omega)
    have c6 := c_lists_And [a, b] (by simp) (by simp; omega)
    have c7 := c_lists_And [a, c] (by simp) (by simp; omega)
    have c8 := c_lists_Or [andL [a, b], andL [a, c]] (by simp) (by simp; omega) (by omega)
    have c9 := c_lists_And [andL [a, b], c] (by simp) (by simp; omega)
    have c10 := c_lists_And [a, b, c] (by simp) (by simp; omega)
    rw [← e1] at c4; rw [e2] at c5; rw [e3] at c9
    have i1 := ints_same (butL (butL a b) c) (butL (butL a b) c) (by omega) rfl
    have i2 := ints_same (orL [andL [a, b], andL [a, c]]) (orL [andL [a, b], andL [a, c]]) (by have := orL_len (ls := [andL [a, b], andL [a, c]]); omega) rfl
    have i3 := ints_same (andL [a, b, c]) (andL [a, b, c]) (by have := andL_len (l := a) (r := [b, c]); omega) rfl
    repeat ((first | refine (c_law16_awake).go rfl ?_ | refine (f2).go rfl ?_ | refine (m1).go rfl ?_ | refine (m2).go rfl ?_ | refine (m3).go rfl ?_ | refine (c1).go rfl ?_ | refine (c2).go rfl ?_ | refine (c3).go rfl ?_ | refine (c4).go rfl ?_ | refine (c5).go rfl ?_ | refine (c6).go rfl ?_ | refine (c7).go rfl ?_ | refine (c8).go rfl ?_ | refine (c9).go rfl ?_ | refine (c10).go rfl ?_ | refine (i1).go rfl ?_ | refine (i2).go rfl ?_ | refine (i3).go rfl ?_ | refine And.intro (show cellsAll _ _ from by repeat (first | exact trivial | refine ⟨⟨rfl, rfl⟩, ?_⟩)) ?_); conv => whnf)
    exact ⟨Ends.keep ⟨rfl, rfl⟩⟩
end Go.Aw
