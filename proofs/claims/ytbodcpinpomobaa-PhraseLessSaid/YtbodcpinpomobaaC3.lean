/- Contracts of functions of the given program, by the abstract walk, for law PhraseLess: what each one hands back; no condition but those that each theorem states. -/
import Derived.Test.YtbodcpinpomobaaC2
import Derived.Test.YtbodcpinpomobaaI1
import Derived.Test.YtbodcpinpomobaaW2
namespace Go.Aw
open Go.Proofs
set_option maxRecDepth 100000

theorem c_law16_ListsOr : ∀ ys, TVs [.sl 1 (.i .i64), .sl 1 (.i .i64), .i .i64] ys → CG Try.prog 10 ys (.b true) := by
  intro ys hy
  obtain ⟨y0, ys, rfl, h0, hy⟩ := tvs_cons hy
  obtain ⟨y1, ys, rfl, h1, hy⟩ := tvs_cons hy
  obtain ⟨y2, ys, rfl, h2, hy⟩ := tvs_cons hy
  cases tvs_nil hy
  obtain ⟨a, rfl, ha0⟩ := tv_ints h0
  obtain ⟨b, rfl, hb0⟩ := tv_ints h1
  obtain ⟨x, rfl, _⟩ := tv_int h2
  unfold maxLen at ha0 hb0
  refine ⟨k_law16_ListsOr.calls ?_⟩
  have f2 := c_law16_few [a, b] (by simp)
  have m1 := c_lists_May a (by omega)
  have m2 := c_lists_May b (by omega)
  conv => whnf
  cases hv2 : (decide ([a, b].length ≤ 5) && [a, b].all fun l => decide (l.length ≤ 300)) <;> rw [hv2] at f2
  · repeat ((first | refine (c_law16_awake).go rfl ?_ | refine (f2).go rfl ?_ | refine And.intro (show cellsAll _ _ from by repeat (first | exact trivial | refine ⟨⟨rfl, rfl⟩, ?_⟩)) ?_); conv => whnf)
    exact ⟨Ends.keep ⟨rfl, rfl⟩⟩
  cases hma : mayL a <;> rw [hma] at m1
  · repeat ((first | refine (c_law16_awake).go rfl ?_ | refine (f2).go rfl ?_ | refine (m1).go rfl ?_ | refine And.intro (show cellsAll _ _ from by repeat (first | exact trivial | refine ⟨⟨rfl, rfl⟩, ?_⟩)) ?_); conv => whnf)
    exact ⟨Ends.keep ⟨rfl, rfl⟩⟩
  cases hmb : mayL b <;> rw [hmb] at m2
  · repeat ((first | refine (c_law16_awake).go rfl ?_ | refine (f2).go rfl ?_ | refine (m1).go rfl ?_ | refine (m2).go rfl ?_ | refine And.intro (show cellsAll _ _ from by repeat (first | exact trivial | refine ⟨⟨rfl, rfl⟩, ?_⟩)) ?_); conv => whnf)
    exact ⟨Ends.keep ⟨rfl, rfl⟩⟩
  · obtain ⟨q1, q2⟩ := few_true hv2
    have ha : a.length ≤ 300 := q2 a (by simp)
    have hb : b.length ≤ 300 := q2 b (by simp)
    have al2 : [a, b].all mayL = true := by simp [hma, hmb]
    have al3 : [b, a, b].all mayL = true := by simp [hma, hmb]
    have al1 : [a].all mayL = true := by simp [hma]
    have l2 : [a, b].flatten.length ≤ 2000 := by simp; omega
    have l3 : [b, a, b].flatten.length ≤ 2000 := by simp; omega
    have l1 : [a].flatten.length ≤ 2000 := by simp; omega
    have e1 : orL [b, a, b] = orL [a, b] := may_ext (orL_may al3 l3) (orL_may al2 l2) fun z => by
      rw [orL_mem al3 l3, orL_mem al2 l2]; simp [or_comm, or_left_comm]
    have e2 : orL [a] = a := may_ext (orL_may al1 l1) hma fun z => by rw [orL_mem al1 l1]; simp
    have c1 := c_lists_Or [a, b] (by simp) (by simp; omega) (by omega)
    have c2 := c_lists_Or [b, a, b] (by simp) (by simp; omega) (by omega)
    have c3 := c_lists_Or [a] (by simp) (by simp; omega) (by omega)
    have c4 := c_lists_Or [] (by simp) (by simp) (by simp)
    have c5 := c_lists_And [a, b] (by simp) (by simp; omega)
    rw [e1] at c2; rw [e2] at c3
    have hlen := orL_len (ls := [a, b])
    have i1 := ints_same (orL [a, b]) (orL [a, b]) (by omega) rfl
    have i2 := ints_same a a (by omega) rfl
    have mm := c_lists_May (orL [a, b]) (by omega)
    rw [orL_may al2 l2] at mm
    have hx := orL_mem al2 l2 x
    have x1 := has_true (b := decide (x ∈ a) || decide (x ∈ b)) (xs := orL [a, b]) (n := x) (by omega) (by rw [Bool.eq_iff_iff]; simp [hx])
    have x2 := c_ref16_Has a x (by omega)
    have x3 := c_ref16_Has b x (by omega)
    have hsum := or_and_len hma hmb (by omega)
    have hlen2 := andL_len (l := a) (r := [b])
    have hm1 : ((orL [a, b]).map T.i).length = (orL [a, b]).length := by simp
    have hm2 : ((andL [a, b]).map T.i).length = (andL [a, b]).length := by simp
    have hm3 : (a.map T.i).length = a.length := by simp
    have hm4 : (b.map T.i).length = b.length := by simp
    generalize decide (x ∈ a) = p at x1 x2
    generalize decide (x ∈ b) = q at x1 x3
    repeat ((first | refine (c_law16_awake).go rfl ?_ | refine (f2).go rfl ?_ | refine (m1).go rfl ?_ | refine (m2).go rfl ?_ | refine (c1).go rfl ?_ | refine (c2).go rfl ?_ | refine (c3).go rfl ?_ | refine (i1).go rfl ?_ | refine (i2).go rfl ?_ | refine (x1).go rfl ?_ | refine (x2).go rfl ?_ | refine (x3).go rfl ?_ | refine And.intro (show cellsAll _ _ from by repeat (first | exact trivial | refine ⟨⟨rfl, rfl⟩, ?_⟩)) ?_); conv => whnf)
    cases p <;> cases q <;> (conv => whnf)
    all_goals
      repeat ((first | refine (mm).go rfl ?_ | refine (c4).go rfl ?_ | refine (c5).go rfl ?_ | refine And.intro (show cellsAll _ _ from by repeat (first | exact trivial | refine ⟨⟨rfl, rfl⟩, ?_⟩)) ?_); conv => whnf)
      refine ⟨in64 (by omega) (by omega), ?_⟩
      conv => whnf
      refine ⟨in64 (by omega) (by omega), ?_⟩
      conv => whnf
      refine ⟨Ends.keep ⟨?_, rfl⟩⟩
      have e : ((((orL [a, b]).map T.i).length : Int) + ((andL [a, b]).map T.i).length == ((a.map T.i).length : Int) + (b.map T.i).length) = true := by
        rw [beq_iff_eq]; omega
      rw [e]

theorem c_law16_ListsBut : ∀ ys, TVs [.sl 1 (.i .i64), .sl 1 (.i .i64), .i .i64] ys → CG Try.prog 11 ys (.b true) := by
  intro ys hy
  obtain ⟨y0, ys, rfl, h0, hy⟩ := tvs_cons hy
  obtain ⟨y1, ys, rfl, h1, hy⟩ := tvs_cons hy
  obtain ⟨y2, ys, rfl, h2, hy⟩ := tvs_cons hy
  cases tvs_nil hy
  obtain ⟨a, rfl, ha0⟩ := tv_ints h0
  obtain ⟨b, rfl, hb0⟩ := tv_ints h1
  obtain ⟨x, rfl, _⟩ := tv_int h2
  unfold maxLen at ha0 hb0
  refine ⟨k_law16_ListsBut.calls ?_⟩
  have f2 := c_law16_few [a, b] (by simp)
  have m1 := c_lists_May a (by omega)
  have m2 := c_lists_May b (by omega)
  conv => whnf
  cases hv2 : (decide ([a, b].length ≤ 5) && [a, b].all fun l => decide (l.length ≤ 300)) <;> rw [hv2] at f2
  · repeat ((first | refine (c_law16_awake).go rfl ?_ | refine (f2).go rfl ?_ | refine And.intro (show cellsAll _ _ from by repeat (first | exact trivial | refine ⟨⟨rfl, rfl⟩, ?_⟩)) ?_); conv => whnf)
    exact ⟨Ends.keep ⟨rfl, rfl⟩⟩
  cases hma : mayL a <;> rw [hma] at m1
  · repeat ((first | refine (c_law16_awake).go rfl ?_ | refine (f2).go rfl ?_ | refine (m1).go rfl ?_ | refine And.intro (show cellsAll _ _ from by repeat (first | exact trivial | refine ⟨⟨rfl, rfl⟩, ?_⟩)) ?_); conv => whnf)
    exact ⟨Ends.keep ⟨rfl, rfl⟩⟩
  cases hmb : mayL b <;> rw [hmb] at m2
  · repeat ((first | refine (c_law16_awake).go rfl ?_ | refine (f2).go rfl ?_ | refine (m1).go rfl ?_ | refine (m2).go rfl ?_ | refine And.intro (show cellsAll _ _ from by repeat (first | exact trivial | refine ⟨⟨rfl, rfl⟩, ?_⟩)) ?_); conv => whnf)
    exact ⟨Ends.keep ⟨rfl, rfl⟩⟩
  · obtain ⟨q1, q2⟩ := few_true hv2
    have ha : a.length ≤ 300 := q2 a (by simp)
    have hb : b.length ≤ 300 := q2 b (by simp)
    have al2 : [a, b].all mayL = true := by simp [hma, hmb]
    have hc := butL_may hma hmb
    have hlen := butL_len (a := a) (b := b)
    have hlen2 := andL_len (l := a) (r := [b])
    have ald : [butL a b, andL [a, b]].all mayL = true := by simp [hc, andL_may al2]
    have alc : [butL a b, b].all mayL = true := by simp [hc, hmb]
    have ld : [butL a b, andL [a, b]].flatten.length ≤ 2000 := by simp; omega
    have e1 : orL [butL a b, andL [a, b]] = a := may_ext (orL_may ald ld) hma fun z => by
      rw [orL_mem ald ld]
      simp only [List.mem_cons, List.not_mem_nil, or_false, exists_eq_or_imp, exists_eq_left, butL_mem hma hmb, andL_mem (ls := [a, b]) (by simp) al2, forall_eq_or_imp, forall_eq]
      constructor
      · rintro (⟨h, _⟩ | ⟨h, _⟩) <;> exact h
      · intro h
        by_cases hb : z ∈ b
        · exact .inr ⟨h, hb⟩
        · exact .inl ⟨h, hb⟩
    have e2 : butL a a = [] := may_ext (butL_may hma hma) rfl fun z => by rw [butL_mem hma hma]; simp
    have e3 : andL [butL a b, b] = [] := may_ext (andL_may alc) rfl fun z => by
      rw [andL_mem (by simp) alc]
      simp only [List.mem_cons, List.not_mem_nil, or_false, forall_eq_or_imp, forall_eq, butL_mem hma hmb, iff_false]
      rintro ⟨⟨_, h⟩, h2⟩; exact h h2
    have c1 := c_lists_But a b (by omega) (by omega)
    have c2 := c_lists_And [a, b] (by simp) (by simp; omega)
    have c3 := c_lists_Or [butL a b, andL [a, b]] (by simp) (by simp; omega) (by omega)
    have c4 := c_lists_But a a (by omega) (by omega)
    have c5 := c_lists_And [butL a b, b] (by simp) (by simp; omega)
    rw [e1] at c3; rw [e2] at c4; rw [e3] at c5
    have i2 := ints_same a a (by omega) rfl
    have mm := c_lists_May (butL a b) (by omega)
    rw [hc] at mm
    have hx := butL_mem hma hmb x
    have x1 := has_true (b := decide (x ∈ a) && !decide (x ∈ b)) (xs := butL a b) (n := x) (by omega) (by rw [Bool.eq_iff_iff]; simp [hx])
    have x2 := c_ref16_Has a x (by omega)
    have x3 := c_ref16_Has b x (by omega)
    generalize decide (x ∈ a) = p at x1 x2
    generalize decide (x ∈ b) = q at x1 x3
    repeat ((first | refine (c_law16_awake).go rfl ?_ | refine (f2).go rfl ?_ | refine (m1).go rfl ?_ | refine (m2).go rfl ?_ | refine (c1).go rfl ?_ | refine (c2).go rfl ?_ | refine (c3).go rfl ?_ | refine (i2).go rfl ?_ | refine (x1).go rfl ?_ | refine (x2).go rfl ?_ | refine (x3).go rfl ?_ | refine And.intro (show cellsAll _ _ from by repeat (first | exact trivial | refine ⟨⟨rfl, rfl⟩, ?_⟩)) ?_); conv => whnf)
    cases p <;> cases q <;> (conv => whnf)
    all_goals
      repeat ((first | refine (mm).go rfl ?_ | refine (c4).go rfl ?_ | refine (c5).go rfl ?_ | refine And.intro (show cellsAll _ _ from by repeat (first | exact trivial | refine ⟨⟨rfl, rfl⟩, ?_⟩)) ?_); conv => whnf)
      exact ⟨Ends.keep ⟨rfl, rfl⟩⟩

theorem c_law16_ListsLaws : ∀ ys, TVs [.sl 1 (.i .i64), .sl 1 (.i .i64), .sl 1 (.i .i64)] ys → CG Try.prog 13 ys (.b true) := by
  intro ys hy
  obtain ⟨y0, ys, rfl, h0, hy⟩ := tvs_cons hy
  obtain ⟨y1, ys, rfl, h1, hy⟩ := tvs_cons hy
  obtain ⟨y2, ys, rfl, h2, hy⟩ := tvs_cons hy
  cases tvs_nil hy
  obtain ⟨a, rfl, ha0⟩ := tv_ints h0
  obtain ⟨b, rfl, hb0⟩ := tv_ints h1
  obtain ⟨c, rfl, hc0⟩ := tv_ints h2
  unfold maxLen at ha0 hb0 hc0
  refine ⟨k_law16_ListsLaws.calls ?_⟩
  have f2 := c_law16_few [a, b, c] (by simp)
  have m1 := c_lists_May a (by omega)
  have m2 := c_lists_May b (by omega)
  have m3 := c_lists_May c (by omega)
  conv => whnf
  cases hv2 : (decide ([a, b, c].length ≤ 5) && [a, b, c].all fun l => decide (l.length ≤ 300)) <;> rw [hv2] at f2
  · repeat ((first | refine (c_law16_awake).go rfl ?_ | refine (f2).go rfl ?_ | refine And.intro (show cellsAll _ _ from by repeat (first | exact trivial | refine ⟨⟨rfl, rfl⟩, ?_⟩)) ?_); conv => whnf)
    exact ⟨Ends.keep ⟨rfl, rfl⟩⟩
  cases hma : mayL a <;> rw [hma] at m1
  · repeat ((first | refine (c_law16_awake).go rfl ?_ | refine (f2).go rfl ?_ | refine (m1).go rfl ?_ | refine And.intro (show cellsAll _ _ from by repeat (first | exact trivial | refine ⟨⟨rfl, rfl⟩, ?_⟩)) ?_); conv => whnf)
    exact ⟨Ends.keep ⟨rfl, rfl⟩⟩
  cases hmb : mayL b <;> rw [hmb] at m2
  · repeat ((first | refine (c_law16_awake).go rfl ?_ | refine (f2).go rfl ?_ | refine (m1).go rfl ?_ | refine (m2).go rfl ?_ | refine And.intro (show cellsAll _ _ from by repeat (first | exact trivial | refine ⟨⟨rfl, rfl⟩, ?_⟩)) ?_); conv => whnf)
    exact ⟨Ends.keep ⟨rfl, rfl⟩⟩
  cases hmc : mayL c <;> rw [hmc] at m3
  · repeat ((first | refine (c_law16_awake).go rfl ?_ | refine (f2).go rfl ?_ | refine (m1).go rfl ?_ | refine (m2).go rfl ?_ | refine (m3).go rfl ?_ | refine And.intro (show cellsAll _ _ from by repeat (first | exact trivial | refine ⟨⟨rfl, rfl⟩, ?_⟩)) ?_); conv => whnf)
    exact ⟨Ends.keep ⟨rfl, rfl⟩⟩
  · obtain ⟨q1, q2⟩ := few_true hv2
    have ha : a.length ≤ 300 := q2 a (by simp)
    have hb : b.length ≤ 300 := q2 b (by simp)
    have hc : c.length ≤ 300 := q2 c (by simp)
    have al (p q : List Int) (hp : mayL p = true) (hq : mayL q = true) : [p, q].all mayL = true := by simp [hp, hq]
    have al3 : [a, b, c].all mayL = true := by simp [hma, hmb, hmc]
    have lbc : [b, c].flatten.length ≤ 2000 := by simp; omega
    have mab := andL_may (al a b hma hmb)
    have mac := andL_may (al a c hma hmc)
    have mbc := orL_may (al b c hmb hmc) lbc
    have mbu := butL_may hma hmb
    have n1 := butL_len (a := a) (b := b)
    have n2 := andL_len (l := a) (r := [b])
    have n3 := andL_len (l := a) (r := [c])
    have n4 : (orL [b, c]).length ≤ 600 := Nat.le_trans orL_len (by simp; omega)
    have n5 := butL_len (a := butL a b) (b := c)
    have lx : [andL [a, b], andL [a, c]].flatten.length ≤ 2000 := by simp; omega
    have e1 : butL (butL a b) c = butL a (orL [b, c]) := may_ext (butL_may mbu hmc) (butL_may hma mbc) fun z => by
      rw [butL_mem mbu hmc, butL_mem hma hmb, butL_mem hma mbc, orL_mem (al b c hmb hmc) lbc]
      simp [and_assoc]
    have e2 : andL [a, orL [b, c]] = orL [andL [a, b], andL [a, c]] := may_ext (andL_may (al _ _ hma mbc)) (orL_may (al _ _ mab mac) lx) fun z => by
      rw [andL_mem (by simp) (al _ _ hma mbc), orL_mem (al _ _ mab mac) lx]
      simp only [List.mem_cons, List.not_mem_nil, or_false, exists_eq_or_imp, exists_eq_left, forall_eq_or_imp, forall_eq, orL_mem (al b c hmb hmc) lbc, andL_mem (ls := [a, b]) (by simp) (al a b hma hmb), andL_mem (ls := [a, c]) (by simp) (al a c hma hmc)]
      constructor
      · rintro ⟨h, h2 | h2⟩
        · exact .inl ⟨h, h2⟩
        · exact .inr ⟨h, h2⟩
      · rintro (⟨h, h2⟩ | ⟨h, h2⟩)
        · exact ⟨h, .inl h2⟩
        · exact ⟨h, .inr h2⟩
    have e3 : andL [andL [a, b], c] = andL [a, b, c] := may_ext (andL_may (al _ _ mab hmc)) (andL_may al3) fun z => by
      rw [andL_mem (by simp) (al _ _ mab hmc), andL_mem (by simp) al3]
      simp only [List.mem_cons, List.not_mem_nil, or_false, forall_eq_or_imp, forall_eq, andL_mem (ls := [a, b]) (by simp) (al a b hma hmb), and_assoc]
    have c1 := c_lists_But a b (by omega) (by omega)
    have c2 := c_lists_But (butL a b) c (by omega) (by omega)
    have c3 := c_lists_Or [b, c] (by simp) (by simp; omega) (by omega)
    have c4 := c_lists_But a (orL [b, c]) (by omega) (by omega)
    have c5 := c_lists_And [a, orL [b, c]] (by simp) (by simp; omega)
    have c6 := c_lists_And [a, b] (by simp) (by simp; omega)
    have c7 := c_lists_And [a, c] (by simp) (by simp; omega)
    have c8 := c_lists_Or [andL [a, b], andL [a, c]] (by simp) (by simp; omega) (by omega)
    have c9 := c_lists_And [andL [a, b], c] (by simp) (by simp; omega)
    have c10 := c_lists_And [a, b, c] (by simp) (by simp; omega)
    rw [← e1] at c4; rw [e2] at c5; rw [e3] at c9
    have i1 := ints_same (butL (butL a b) c) (butL (butL a b) c) (by omega) rfl
    have i2 := ints_same (orL [andL [a, b], andL [a, c]]) (orL [andL [a, b], andL [a, c]]) (by have := orL_len (ls := [andL [a, b], andL [a, c]]); omega) rfl
    have i3 := ints_same (andL [a, b, c]) (andL [a, b, c]) (by have := andL_len (l := a) (r := [b, c]); omega) rfl
    repeat ((first | refine (c_law16_awake).go rfl ?_ | refine (f2).go rfl ?_ | refine (m1).go rfl ?_ | refine (m2).go rfl ?_ | refine (m3).go rfl ?_ | refine (c1).go rfl ?_ | refine (c2).go rfl ?_ | refine (c3).go rfl ?_ | refine (c4).go rfl ?_ | refine (c5).go rfl ?_ | refine (c6).go rfl ?_ | refine (c7).go rfl ?_ | refine (c8).go rfl ?_ | refine (c9).go rfl ?_ | refine (c10).go rfl ?_ | refine (i1).go rfl ?_ | refine (i2).go rfl ?_ | refine (i3).go rfl ?_ | refine And.intro (show cellsAll _ _ from by repeat (first | exact trivial | refine ⟨⟨rfl, rfl⟩, ?_⟩)) ?_); conv => whnf)
    exact ⟨Ends.keep ⟨rfl, rfl⟩⟩
end Go.Aw
namespace Go.Aw
open Go.Proofs
set_option maxRecDepth 100000

abbrev Po : Type := Int × List Int
def tpost (p : Po) : T := .ag [.i p.1, tints p.2]
def tposts (l : List Po) : T := .sl 2 (l.map tpost)
def posts (l : List Po) : V := .g (.sl 2 (l.map tpost))

/- rising, below an end -/
def risE (e : Int) : Int → List Int → Bool
  | _, [] => true
  | l, x :: xs => decide (l < x) && decide (x < e) && risE e x xs
theorem risE_drop {e l : Int} {xs : List Int} {k : Nat} (h : k < xs.length) : risE e l (xs.drop k) = (decide (l < xs[k]) && decide (xs[k] < e) && risE e xs[k] (xs.drop (k + 1))) := by
  rw [List.drop_eq_getElem_cons h]; rfl

theorem c_post_rising (xs : List Int) (e : Int) (hl : xs.length < 9223372036854775808) : CG Try.prog 48 [tints xs, .i e] (.b (risE e (-1) xs)) := by
  refine ⟨k_post_rising.calls ?_⟩
  conv => whnf
  refine SW.loop (α := Nat × Int) (fun a => tm 24 [(0, ints xs), (1, .g (.i e)), (5, .g (.i a.2)), (8, ints xs), (9, .g (.i xs.length)), (10, .g (.i a.1))]) (fun _ => []) (fun a => a.1 ≤ xs.length ∧ risE e (-1) xs = risE e a.2 (xs.drop a.1)) (fun a => xs.length - a.1) (0, -1) ?_ ?_ ?_ ?_
  · simp
  · rfl
  · simp [subT, subV, tm, tmGo, ints, tints]
  · rintro ⟨k, l⟩ ⟨hk, hr⟩
    dsimp only at hk hr ⊢
    conv => whnf
    refine Br.dec (fun h => ?_) (fun h => ?_)
    · conv => whnf
      refine ⟨by simp; omega, rfl, ?_⟩
      conv => whnf
      refine ⟨_, getZ (by omega), ?_⟩
      conv => whnf
      have hk' : k < xs.length := by omega
      rw [risE_drop hk'] at hr
      refine Br.dec (fun h2 => ?_) (fun h2 => ?_)
      · conv => whnf
        rw [hr, decide_eq_false (p := l < xs[k]) (by omega)]
        exact ⟨Ends.keep ⟨rfl, rfl⟩⟩
      · conv => whnf
        refine Br.dec (fun h3 => ?_) (fun h3 => ?_)
        · conv => whnf
          rw [hr, decide_eq_false (p := xs[k] < e) (by omega), Bool.and_false]
          exact ⟨Ends.keep ⟨rfl, rfl⟩⟩
        · conv => whnf
          refine ⟨in64 (by omega) (by omega), ?_⟩
          conv => whnf
          rw [decide_eq_true (p := l < xs[k]) (by omega), decide_eq_true (p := xs[k] < e) (by omega), Bool.true_and, Bool.true_and] at hr
          exact ⟨⟨(k + 1, xs[k]), ⟨hk', hr⟩, by show xs.length - (k + 1) < xs.length - k; omega, rfl, by simp [subT, subV, tm, tmGo, ints]⟩⟩
    · conv => whnf
      have : k = xs.length := by omega
      subst this
      rw [List.drop_length] at hr
      rw [hr]
      exact ⟨Ends.keep ⟨rfl, rfl⟩⟩

def docsL (l : List Po) : List Int := l.map (·.1)
theorem docs_len {l : List Po} : (docsL l).length = l.length := by simp [docsL]
/-- postings that may be -/
def mayP (l : List Po) : Bool := (l.all fun p => decide (0 < p.2.length) && decide (p.2.length ≤ 120) && risE 120 (-1) p.2) && decide (l.length ≤ 64) && risE 64 (-1) (docsL l)

theorem c_phrase_docs (l : List Po) (hl : l.length < 1000000000) : CG Try.prog 43 [tposts l] (tints (docsL l)) := by
  refine ⟨k_phrase_docs.calls ?_⟩
  have hm : (l.map tpost).length = l.length := by simp
  conv => whnf
  refine SW.loopR (α := Nat) (fun k => tm 19 [(3, .own 0 k 0 k), (6, posts l), (7, .g (.i l.length)), (8, .g (.i k))]) (fun k => [.arr k 1 ((l.take k).map fun p => V.g (.i p.1))]) (fun k => k ≤ l.length) (fun k => l.length - k) 0 ?_ ?_ ?_
  · exact Nat.zero_le _
  · exact (Refi.valloc 3 1 rfl).trans (Refi.sub rfl (by simp [subT, subV, tm, tmGo, posts, tposts, setT]))
  · intro k hk
    dsimp only at hk ⊢
    conv => whnf
    refine Br.dec (fun h => ?_) (fun h => ?_)
    · conv => whnf
      refine ⟨by simp; omega, rfl, ?_⟩
      conv => whnf
      refine ⟨_, getZ (by omega), ?_⟩
      conv => whnf
      have hk' : k < l.length := by omega
      have htk : l.take (k + 1) = l.take k ++ [l[k]] := List.take_succ_eq_append_getElem hk'
      refine ⟨rfl, ?_⟩
      conv => whnf
      refine ⟨rfl, _, rfl, ⟨rfl, rfl, by decide⟩, ?_⟩
      conv => whnf
      refine ⟨rfl, _, rfl, ?_⟩
      conv => whnf
      refine ⟨by repeat (first | exact trivial | refine ⟨⟨rfl, rfl⟩, ?_⟩), ?_⟩
      conv => whnf
      refine ⟨rfl, ?_⟩
      conv => whnf
      refine ⟨by simp; omega, ⟨rfl, rfl, rfl⟩, _, ⟨[], (List.append_nil _).symm⟩, by simp; omega, ?_⟩
      conv => whnf
      refine ⟨in64 (by omega) (by omega), ?_⟩
      conv => whnf
      refine ⟨⟨k + 1, hk', by omega, Refi.back (L := [.arr 0 2 [.g (tpost l[k])]]) ?_ (Nat.zero_le _) (lt_all1 Blk.lt_gs) ?_⟩⟩
      · rw [htk, List.map_append]; rfl
      · simp [subT, subV, tm, tmGo, posts, cutV, ltB, ltS]
    · conv => whnf
      have : k = l.length := by omega
      subst this
      refine ⟨Ends.ground (H := []) (L := [_]) (t := tints (docsL l)) 1 ?_ ⟨rfl, rfl⟩⟩
      rw [List.take_length, docsL, tints, List.map_map]
      exact gr_own (l := l) (e := fun p => T.i p.1) rfl (Nat.le_refl _) rfl fun x _ => gr_g

def okP (p : Po) : Bool := decide (0 < p.2.length) && decide (p.2.length ≤ 120) && risE 120 (-1) p.2
theorem mayP_eq (l : List Po) : mayP l = (l.all okP && decide (l.length ≤ 64) && risE 64 (-1) (docsL l)) := rfl
theorem all_take {q : Po → Bool} {l : List Po} {k : Nat} (hk : k < l.length) (h : (l.take k).all q = true) (hq : q l[k] = true) : (l.take (k + 1)).all q = true := by
  rw [List.take_succ_eq_append_getElem hk, List.all_append, h]; simp [hq]
theorem all_no {q : Po → Bool} {l : List Po} {k : Nat} (hk : k < l.length) (hq : q l[k] = false) : l.all q = false := by
  rw [List.all_eq_false]; exact ⟨l[k], List.getElem_mem _, by simp [hq]⟩

theorem c_post_May (l : List Po) (hl : l.length < 1000000000) (hp : ∀ p ∈ l, p.2.length < 1000000000) : CG Try.prog 27 [tposts l] (.b (mayP l)) := by
  refine ⟨k_post_May.calls ?_⟩
  have hm : (l.map tpost).length = l.length := by simp
  conv => whnf
  refine SW.loopR (α := Nat) (fun k => tm 41 [(0, posts l), (3, .own 0 k 0 k), (6, posts l), (7, .g (.i l.length)), (8, .g (.i k))]) (fun k => [.arr k 1 ((l.take k).map fun p => V.g (.i p.1))]) (fun k => k ≤ l.length ∧ (l.take k).all okP = true) (fun k => l.length - k) 0 ?_ ?_ ?_
  · exact ⟨Nat.zero_le _, rfl⟩
  · exact (Refi.valloc 3 1 rfl).trans (Refi.sub rfl (by simp [subT, subV, tm, tmGo, posts, tposts, setT]))
  · rintro k ⟨hk, hall⟩
    dsimp only at hk hall ⊢
    conv => whnf
    refine Br.dec (fun h => ?_) (fun h => ?_)
    · conv => whnf
      refine ⟨by simp; omega, rfl, ?_⟩
      conv => whnf
      refine ⟨_, getZ (by omega), ?_⟩
      conv => whnf
      have hk' : k < l.length := by omega
      have htk : l.take (k + 1) = l.take k ++ [l[k]] := List.take_succ_eq_append_getElem hk'
      have hpk : l[k].2.length < 1000000000 := hp _ (List.getElem_mem _)
      have no : okP l[k] = false → ∀ h', Ends [] (fun r h => r = V.g (T.b (mayP l)) ∧ h = []) (V.g (T.sc (Value.bool false))) h' := fun e h' => by
        rw [mayP_eq, all_no hk' e]
        exact Ends.ground (H := []) (L := h') 0 rfl ⟨rfl, rfl⟩
      refine ⟨rfl, ?_⟩
      conv => whnf
      refine ⟨rfl, _, rfl, ⟨rfl, rfl, by decide⟩, ?_⟩
      conv => whnf
      refine ⟨rfl, _, rfl, ?_⟩
      conv => whnf
      have hmp : (l[k].2.map T.i).length = l[k].2.length := by simp
      refine Br.eq (fun h2 => ?_) (fun h2 => ?_)
      · conv => whnf
        exact ⟨no (by simp only [hmp] at h2; simp [okP]; omega) _⟩
      · conv => whnf
        refine ⟨rfl, _, rfl, ?_⟩
        conv => whnf
        refine Br.dec (fun h3 => ?_) (fun h3 => ?_)
        · conv => whnf
          exact ⟨no (by simp only [hmp] at h3; simp [okP]; omega) _⟩
        · conv => whnf
          refine ⟨rfl, _, rfl, ?_⟩
          conv => whnf
          refine (c_post_rising l[k].2 120 (by omega)).go rfl ?_
          conv => whnf
          refine Br.not (fun h4 => ?_) (fun h4 => ?_)
          · conv => whnf
            exact ⟨no (by simp [okP, h4]) _⟩
          · conv => whnf
            refine ⟨rfl, _, rfl, ?_⟩
            conv => whnf
            refine ⟨by repeat (first | exact trivial | refine ⟨⟨rfl, rfl⟩, ?_⟩), ?_⟩
            conv => whnf
            refine ⟨rfl, ?_⟩
            conv => whnf
            refine ⟨by simp; omega, ⟨rfl, rfl, rfl⟩, _, ⟨[], (List.append_nil _).symm⟩, by simp; omega, ?_⟩
            conv => whnf
            refine ⟨in64 (by omega) (by omega), ?_⟩
            conv => whnf
            have hok : okP l[k] = true := by simp only [hmp] at h2 h3; simp [okP, h4]; omega
            refine ⟨⟨k + 1, ⟨hk', all_take hk' hall hok⟩, by omega, Refi.back (L := [.arr 0 2 [.g (tpost l[k])]]) ?_ (Nat.zero_le _) (lt_all1 Blk.lt_gs) ?_⟩⟩
            · rw [htk, List.map_append]; rfl
            · simp [subT, subV, tm, tmGo, posts, cutV, ltB, ltS]
    · conv => whnf
      have : k = l.length := by omega
      subst this
      rw [List.take_length] at hall
      rw [mayP_eq, hall]
      refine Br.dec (fun h2 => ?_) (fun h2 => ?_)
      · conv => whnf
        have hg : gr 0 [Blk.arr l.length 1 ((l.take l.length).map fun p => V.g (.i p.1))] 1 (.own 0 l.length 0 l.length) = some (tints (docsL l)) := by
          rw [List.take_length, docsL, tints, List.map_map]
          exact gr_own (l := l) (e := fun p => T.i p.1) rfl (Nat.le_refl _) rfl fun x _ => gr_g
        refine (c_post_rising (docsL l) 64 (by rw [docs_len]; omega)).give 0 1 (noMp_cons noMp_nil) ?_ ?_
        · show optL [gr 0 [Blk.arr l.length 1 ((l.take l.length).map fun p => V.g (.i p.1))] 1 (.own 0 l.length 0 l.length), some (T.i 64)] = some [tints (docsL l), .i 64]
          rw [hg]; rfl
        conv => whnf
        refine ⟨Ends.ground (H := []) (L := [_]) 0 ?_ ⟨rfl, rfl⟩⟩
        simp only [hm] at h2
        rw [decide_eq_true (p := l.length ≤ 64) (by omega)]; simp [gr]
      · conv => whnf
        refine ⟨Ends.ground (H := []) (L := [_]) 0 ?_ ⟨rfl, rfl⟩⟩
        simp only [hm] at h2
        rw [decide_eq_false (p := l.length ≤ 64) (by omega)]; simp [gr]
end Go.Aw
namespace Go.Aw
open Go.Proofs
set_option maxRecDepth 100000

theorem c_phrase_starts (p : Po) (ahead : Int) : CV Try.prog 61 [tpost p, .i ahead] (.fn 72 [.ra 2 [tpost p] 0 0, .ra 1 [.i ahead] 0 0]) := by
  refine ⟨k_phrase_starts.calls ?_, .fn fun i v h => ?_⟩
  · conv => whnf
    refine ⟨⟨rfl, rfl⟩, ?_⟩
    conv => whnf
    refine ⟨⟨rfl, rfl⟩, ?_⟩
    conv => whnf
    exact ⟨Ends.closure (H := []) (L := [_, _]) 1 rfl ⟨rfl, rfl⟩⟩
  · match i, h with
    | 0, h => cases h; exact .ra
    | 1, h => cases h; exact .ra

theorem c_post_placeS1 (p : Po) (doc : Int) (h0 : 0 ≤ p.1) (h1 : p.1 < 64) (h2 : 0 ≤ doc) (h3 : doc < 64) : CG Try.prog 64 [tpost p, .i doc] (.i (p.1 - doc)) := by
  refine ⟨k_post_placeS1.calls ?_⟩
  conv => whnf
  refine ⟨⟨rfl, rfl⟩, ?_⟩
  conv => whnf
  refine ⟨rfl, _, rfl, ?_⟩
  conv => whnf
  refine ⟨in64 (by omega) (by omega), ?_⟩
  conv => whnf
  exact ⟨Ends.ground (H := []) (L := [_]) 0 rfl ⟨rfl, rfl⟩⟩

theorem c_bsf (l : List Po) (doc : Int) (hl : l.length < 1000000000) (hs : Mono (docsL l)) (hb : ∀ p ∈ l, 0 ≤ p.1 ∧ p.1 < 64) (h2 : 0 ≤ doc) (h3 : doc < 64) :
    ACalls Try.prog 63 [posts l, .g (.i doc), .fn 64 []] [] (fun r h => r = .tu [.g (.i (fromN (docsL l) 0 doc)), .g (.b (foundN (docsL l) doc))] ∧ h = []) := by
  refine k_slices_BinarySearchFunc_LPost_Post_int.calls ?_
  have hm : (l.map tpost).length = l.length := by simp
  have hd : (docsL l).length = l.length := docs_len
  have hget : ∀ (k : Nat) (h : k < l.length), (docsL l)[k]'(by rw [hd]; exact h) = l[k].1 := fun k h => by simp [docsL]
  conv => whnf
  refine SW.loop (α := Nat × Nat) (fun a => tm 49 [(0, posts l), (1, .g (.i doc)), (2, .fn 64 []), (8, .g (.i l.length)), (9, .g (.i a.1)), (10, .g (.i a.2))]) (fun _ => [])
    (fun a => a.1 ≤ a.2 ∧ a.2 ≤ l.length ∧ (∀ (k : Nat) (h : k < (docsL l).length), k < a.1 → (docsL l)[k] < doc) ∧ (∀ (k : Nat) (h : k < (docsL l).length), a.2 ≤ k → doc ≤ (docsL l)[k])) (fun a => a.2 - a.1) (0, l.length) ?_ ?_ ?_ ?_
  · exact ⟨Nat.zero_le _, Nat.le_refl _, fun _ _ h => by simp at h, fun k h1 h2 => by dsimp only at h2; omega⟩
  · rfl
  · simp [subT, subV, tm, tmGo, posts]
  · rintro ⟨i, j⟩ ⟨h1, h2', h3', h4⟩
    dsimp only at h1 h2' h3' h4 ⊢
    conv => whnf
    refine Br.dec (fun h => ?_) (fun h => ?_)
    · conv => whnf
      refine ⟨in64 (by omega) (by omega), ?_⟩
      conv => whnf
      have e := half i j (by omega)
      refine ⟨by omega, ?_⟩
      conv => whnf
      rw [e]
      have hmid : i ≤ (i + j) / 2 ∧ (i + j) / 2 < j := by omega
      generalize (i + j) / 2 = m at hmid
      have hm' : m < l.length := by omega
      have hg := hget m hm'
      have hbm := hb _ (List.getElem_mem hm')
      refine ⟨by simp; omega, rfl, ?_⟩
      conv => whnf
      refine ⟨_, getZ (by omega), ?_⟩
      conv => whnf
      refine (c_post_placeS1 l[m] doc hbm.1 hbm.2 h2 h3).go rfl ?_
      conv => whnf
      refine Br.dec (fun h5 => ?_) (fun h5 => ?_)
      · conv => whnf
        refine ⟨in64 (by omega) (by omega), ?_⟩
        conv => whnf
        refine ⟨⟨(m + 1, j), ⟨by dsimp only; omega, h2', fun k hk hkm => ?_, h4⟩, by show j - (m + 1) < j - i; omega, rfl, by simp [subT, subV, tm, tmGo, posts]⟩⟩
        rcases Nat.lt_or_ge k m with h6 | h6
        · have := hs k m h6 (by omega); omega
        · have : k = m := by dsimp only at hkm; omega
          subst this; omega
      · conv => whnf
        refine ⟨⟨(i, m), ⟨by dsimp only; omega, by dsimp only; omega, h3', fun k hk hkm => ?_⟩, by show m - i < j - i; omega, rfl, by simp [subT, subV, tm, tmGo, posts]⟩⟩
        rcases Nat.lt_or_ge m k with h6 | h6
        · have := hs m k h6 hk; omega
        · have : k = m := by dsimp only at hkm; omega
          subst this; omega
    · conv => whnf
      have : i = j := by omega
      subst this
      have hp := (IsFrom.mk (Nat.zero_le _) (by omega) (fun k hk _ hk2 => h3' k hk hk2) (fun h => h4 _ h (Nat.le_refl _)) : IsFrom (docsL l) 0 doc i).eq _ rfl
      refine Br.dec (fun h5 => ?_) (fun h5 => ?_)
      · conv => whnf
        have hi' : i < l.length := by omega
        refine ⟨by simp; omega, rfl, ?_⟩
        conv => whnf
        refine ⟨_, getZ (by omega), ?_⟩
        conv => whnf
        have hg := hget i hi'
        have hbm := hb _ (List.getElem_mem hi')
        have hf : foundN (docsL l) doc = ((docsL l)[i]'(by omega) == doc) := by unfold foundN; rw [← hp]; simp [hd, hi']
        refine (c_post_placeS1 l[i] doc hbm.1 hbm.2 h2 h3).go rfl ?_
        conv => whnf
        have e2 : foundN (docsL l) doc = (l[i].1 - doc == 0) := by
          rw [hf, hg]
          by_cases h : l[i].1 = doc
          · simp [h]
          · have h' : ¬ l[i].1 - doc = 0 := by omega
            rw [beq_eq_false_iff_ne.2 h, beq_eq_false_iff_ne.2 h']
        rw [e2, ← hp]
        exact ⟨Ends.keep ⟨rfl, rfl⟩⟩
      · conv => whnf
        have hi' : ¬ i < l.length := by omega
        have hf : foundN (docsL l) doc = false := by unfold foundN; rw [← hp]; simp [hd, hi']
        rw [hf, ← hp]
        exact ⟨Ends.keep ⟨rfl, rfl⟩⟩

theorem risE_ge : ∀ {e l : Int} {xs : List Int}, risE e l xs = true → rise l xs = true ∧ ∀ x ∈ xs, l < x ∧ x < e
  | _, _, [], _ => ⟨rfl, by simp⟩
  | e, l, x :: xs, h => by
    simp only [risE, Bool.and_eq_true, decide_eq_true_eq] at h
    obtain ⟨h1, h2⟩ := risE_ge h.2
    refine ⟨by simp [rise, h.1.1, h1], fun y hy => ?_⟩
    rcases List.mem_cons.1 hy with rfl | hy
    · exact h.1
    · have := h2 y hy; omega
theorem risE_mono {e l : Int} {xs : List Int} (h : risE e l xs = true) : Mono xs := fun i j hi hj => by
  have := (rise_ge (risE_ge h).1).2 i j hi hj
  omega
theorem mayP_docs {l : List Po} (h : mayP l = true) : l.length ≤ 64 ∧ risE 64 (-1) (docsL l) = true := by
  simp only [mayP, Bool.and_eq_true, decide_eq_true_eq] at h
  exact ⟨h.1.2, h.2⟩
theorem mayP_doc {l : List Po} (h : mayP l = true) : ∀ p ∈ l, 0 ≤ p.1 ∧ p.1 < 64 := fun p hp => by
  have := (risE_ge (mayP_docs h).2).2 p.1 (List.mem_map_of_mem hp)
  omega
theorem mayP_ok {l : List Po} (h : mayP l = true) : ∀ p ∈ l, 0 < p.2.length ∧ p.2.length ≤ 120 ∧ risE 120 (-1) p.2 = true := fun p hp => by
  simp only [mayP, Bool.and_eq_true, List.all_eq_true, decide_eq_true_eq] at h
  have := h.1.1 p hp
  exact ⟨this.1.1, this.1.2, this.2⟩

theorem c_post_place (l : List Po) (doc : Int) (h : mayP l = true) (h2 : 0 ≤ doc) (h3 : doc < 64) : CV Try.prog 49 [tposts l, .i doc] (.tu [.g (.i (fromN (docsL l) 0 doc)), .g (.b (foundN (docsL l) doc))]) := by
  refine ⟨k_post_place.calls ?_, V.lt.gs (ts := [_, _])⟩
  have hl := (mayP_docs h).1
  conv => whnf
  refine (c_bsf l doc (by omega) (risE_mono (mayP_docs h).2) (mayP_doc h) h2 h3).mono ?_
  rintro r h ⟨rfl, rfl⟩
  conv => whnf
  exact ⟨Ends.keep ⟨rfl, rfl⟩⟩

/-- where a document's posting is -/
def findP (l : List Po) (doc : Int) : Int := if mayP l = true ∧ 0 ≤ doc ∧ doc < 64 ∧ foundN (docsL l) doc = true then fromN (docsL l) 0 doc else -1

theorem c_post_Find (l : List Po) (doc : Int) (hl : l.length < 1000000000) (hp : ∀ p ∈ l, p.2.length < 1000000000) : CG Try.prog 28 [tposts l, .i doc] (.i (findP l doc)) := by
  refine ⟨k_post_Find.calls ?_⟩
  have no : ¬ (mayP l = true ∧ 0 ≤ doc ∧ doc < 64 ∧ foundN (docsL l) doc = true) → Fin [] (fun r h => r = V.g (T.i (findP l doc)) ∧ h = []) (V.g (T.sc (Value.int .i64 (-1)))) [] := fun e => by
    rw [findP, if_neg e]; exact ⟨Ends.keep ⟨rfl, rfl⟩⟩
  conv => whnf
  refine (c_post_May l hl hp).go rfl ?_
  conv => whnf
  refine Br.not (fun h1 => ?_) (fun h1 => ?_)
  · conv => whnf
    exact no (by simp [h1])
  · conv => whnf
    refine Br.dec (fun h2 => ?_) (fun h2 => ?_)
    · conv => whnf
      exact no (by omega)
    · conv => whnf
      refine Br.dec (fun h3 => ?_) (fun h3 => ?_)
      · conv => whnf
        exact no (by omega)
      · conv => whnf
        refine (c_post_place l doc h1 (by omega) (by omega)).go rfl ?_
        conv => whnf
        refine Br.intro (fun h4 => ?_) (fun h4 => ?_)
        · conv => whnf
          rw [findP, if_pos ⟨h1, by omega, by omega, h4⟩]
          exact ⟨Ends.keep ⟨rfl, rfl⟩⟩
        · conv => whnf
          exact no (by simp [h4])

theorem c_phrase_Docs (l : List Po) (hl : l.length < 1000000000) (hp : ∀ p ∈ l, p.2.length < 1000000000) : CG Try.prog 21 [tposts l] (tints (if mayP l = true then docsL l else [])) := by
  refine ⟨k_phrase_Docs.calls ?_⟩
  conv => whnf
  refine (c_post_May l hl hp).go rfl ?_
  conv => whnf
  refine Br.not (fun h1 => ?_) (fun h1 => ?_)
  · conv => whnf
    rw [h1]
    exact ⟨Ends.ground (H := []) (L := []) 0 rfl ⟨rfl, rfl⟩⟩
  · conv => whnf
    refine (c_phrase_docs l hl).go rfl ?_
    conv => whnf
    rw [h1]
    exact ⟨Ends.keep ⟨rfl, rfl⟩⟩

theorem c_phrase_Free (l : List Po) (hl : l.length < 1000000000) (hp : ∀ p ∈ l, p.2.length < 1000000000) : CG Try.prog 25 [tposts l] (tints (if mayP l = true then l.map fun p => (p.2.length : Int) else [])) := by
  refine ⟨k_phrase_Free.calls ?_⟩
  have hm : (l.map tpost).length = l.length := by simp
  conv => whnf
  refine (c_post_May l hl hp).go rfl ?_
  conv => whnf
  refine Br.not (fun h1 => ?_) (fun h1 => ?_)
  · conv => whnf
    rw [h1]
    exact ⟨Ends.ground (H := []) (L := []) 0 rfl ⟨rfl, rfl⟩⟩
  · conv => whnf
    rw [h1]
    refine SW.loopR (α := Nat) (fun k => tm 23 [(3, .own 0 k 0 k), (9, posts l), (10, .g (.i l.length)), (11, .g (.i k))]) (fun k => [.arr k 1 ((l.take k).map fun p => V.g (.i p.2.length))]) (fun k => k ≤ l.length) (fun k => l.length - k) 0 ?_ ?_ ?_
    · exact Nat.zero_le _
    · exact (Refi.valloc 3 1 rfl).trans (Refi.sub rfl (by simp [subT, subV, tm, tmGo, posts, tposts, setT]))
    · intro k hk
      dsimp only at hk ⊢
      conv => whnf
      refine Br.dec (fun h => ?_) (fun h => ?_)
      · conv => whnf
        refine ⟨by simp; omega, rfl, ?_⟩
        conv => whnf
        refine ⟨_, getZ (by omega), ?_⟩
        conv => whnf
        have hk' : k < l.length := by omega
        have htk : l.take (k + 1) = l.take k ++ [l[k]] := List.take_succ_eq_append_getElem hk'
        refine ⟨rfl, ?_⟩
        conv => whnf
        refine ⟨rfl, _, rfl, ⟨rfl, rfl, by decide⟩, ?_⟩
        conv => whnf
        refine ⟨rfl, _, rfl, ?_⟩
        conv => whnf
        refine ⟨by repeat (first | exact trivial | refine ⟨⟨rfl, rfl⟩, ?_⟩), ?_⟩
        conv => whnf
        refine ⟨rfl, ?_⟩
        conv => whnf
        refine ⟨by simp; omega, ⟨rfl, rfl, rfl⟩, _, ⟨[], (List.append_nil _).symm⟩, by simp; omega, ?_⟩
        conv => whnf
        refine ⟨in64 (by omega) (by omega), ?_⟩
        conv => whnf
        refine ⟨⟨k + 1, hk', by omega, Refi.back (L := [.arr 0 2 [.g (tpost l[k])]]) ?_ (Nat.zero_le _) (lt_all1 Blk.lt_gs) ?_⟩⟩
        · rw [htk, List.map_append]; simp; rfl
        · simp [subT, subV, tm, tmGo, posts, cutV, ltB, ltS]
      · conv => whnf
        have : k = l.length := by omega
        subst this
        refine ⟨Ends.ground (H := []) (L := [_]) (t := tints (l.map fun p => (p.2.length : Int))) 1 ?_ ⟨rfl, rfl⟩⟩
        rw [List.take_length, tints, List.map_map]
        exact gr_own (l := l) (e := fun p => T.i p.2.length) rfl (Nat.le_refl _) rfl fun x _ => gr_g
end Go.Aw
namespace Go.Aw
open Go.Proofs
set_option maxRecDepth 100000

/- where words stand one behind the other, in a document -/
def atsOf (one : List Po) (doc : Int) : List Int := match one[fromN (docsL one) 0 doc]? with
  | some p => p.2
  | none => []
def withinL (l : List (List Po)) (doc : Int) : List (List Int) := l.zipIdx.map fun p => stF p.2 (atsOf p.1 doc)
theorem withinL_len {l : List (List Po)} {doc : Int} : (withinL l doc).length = l.length := by simp [withinL]
theorem withinL_get {l : List (List Po)} {doc : Int} {k : Nat} (h : k < l.length) : (withinL l doc)[k]'(by rw [withinL_len]; exact h) = stF k (atsOf l[k] doc) := by simp [withinL]
theorem stF_len {a : Int} {xs : List Int} : (stF a xs).length ≤ xs.length := by simp [stF]; exact List.length_filter_le _ _

def boxC (pre : List SV) : V := match pre with
  | [] => .nil 1
  | _ :: r => .own 2 r.length 0 (r.length + 1)
def blkC (pre : List SV) : List Blk := match pre with
  | [] => []
  | x :: r => [.arr r.length 1 ((x :: r).map fun x => V.g (.sc x.1))]
theorem boxC_gr (A : Blk) (zl : List Int) : gr 2 ([A, .arr 0 1 [boxC (zl.map sv)]] ++ blkC (zl.map sv)) 1 (boxC (zl.map sv)) = some (tints zl) := by
  cases zl with
  | nil => rfl
  | cons x r =>
    show gr 2 _ 1 (.own 2 (r.map sv).length 0 ((r.map sv).length + 1)) = _
    have := gr_own (n := 2) (d := 0) (b := 2) (g := (r.map sv).length) (sz := 1) (len := (r.map sv).length + 1) (h := [A, .arr 0 1 [boxC ((x :: r).map sv)]] ++ blkC ((x :: r).map sv)) (l := (x :: r).map sv) (f := fun x => V.g (.sc x.1)) (e := fun x => .sc x.1) rfl (Nat.le_refl _) (by simp) (fun x _ => gr_g)
    rw [this, tints, List.map_map]; rfl

theorem c_phrase_within (l : List (List Po)) (doc : Int) (hl : l.length < 1000000) (hmay : ∀ one ∈ l, mayP one = true) (hf : ∀ one ∈ l, foundN (docsL one) doc = true) (h2 : 0 ≤ doc) (h3 : doc < 64) :
    CG Try.prog 44 [.sl 1 (l.map tposts), .i doc] (tints (andL (withinL l doc))) := by
  refine ⟨k_phrase_within.calls ?_⟩
  have hm : (l.map tposts).length = l.length := by simp
  conv => whnf
  refine SW.loopR (α := Nat) (fun k => tm 37 [(0, .g (.sl 1 (l.map tposts))), (1, .g (.i doc)), (5, .own 0 k 0 k), (10, .g (.sl 1 (l.map tposts))), (11, .g (.i l.length)), (12, .g (.i k))]) (fun k => [.arr k 1 (((withinL l doc).take k).map fun p => V.g (tints p))]) (fun k => k ≤ l.length) (fun k => l.length - k) 0 ?_ ?_ ?_
  · exact Nat.zero_le _
  · exact (Refi.valloc 5 1 rfl).trans (Refi.sub rfl (by simp [subT, subV, tm, tmGo, setT]))
  · intro k hk
    dsimp only at hk ⊢
    conv => whnf
    refine Br.dec (fun h => ?_) (fun h => ?_)
    · conv => whnf
      refine ⟨by simp; omega, rfl, ?_⟩
      conv => whnf
      refine ⟨_, getZ (by omega), ?_⟩
      conv => whnf
      have hk' : k < l.length := by omega
      have hmk := hmay _ (List.getElem_mem hk')
      have hfk := hf _ (List.getElem_mem hk')
      have hok := mayP_ok hmk
      have hlk := (mayP_docs hmk).1
      obtain ⟨p, hp, hpa⟩ : ∃ p, l[k][fromN (docsL l[k]) 0 doc]? = some p ∧ atsOf l[k] doc = p.2 := by
        unfold foundN at hfk
        cases hq : (docsL l[k])[fromN (docsL l[k]) 0 doc]? with
        | none => rw [hq] at hfk; cases hfk
        | some y =>
          have hlt : fromN (docsL l[k]) 0 doc < l[k].length := by have := lt_of_get hq; rwa [docs_len] at this
          exact ⟨l[k][fromN (docsL l[k]) 0 doc], by simp [hlt], by simp [atsOf, hlt]⟩
      have hpo := hok p (List.mem_of_getElem? hp)
      have hplt := lt_of_get hp
      refine ⟨rfl, ?_⟩
      conv => whnf
      refine (c_post_Find l[k] doc (by omega) (fun q hq => by have := hok q hq; omega)).go rfl ?_
      conv => whnf
      have hfind : findP l[k] doc = (fromN (docsL l[k]) 0 doc : Nat) := by rw [findP, if_pos ⟨hmk, h2, h3, hfk⟩]
      rw [hfind]
      generalize fromN (docsL l[k]) 0 doc = i at hp hplt
      refine ⟨by simp; omega, rfl, ?_⟩
      conv => whnf
      refine ⟨tpost p, by simp [hp], ?_⟩
      conv => whnf
      refine (c_phrase_starts p k).go rfl ?_
      conv => whnf
      have hats := risE_ge hpo.2.2
      refine SW.rfD ((stF k p.2).map sv) rfl (g_starts p.2 k (.i p.1) (by omega) (by omega) (fun x hx => by have := hats.2 x hx; omega) (by omega) rfl) (by simp)
        (fun pre => [.arr k 1 (((withinL l doc).take k).map fun p => V.g (tints p)), .arr 0 1 [boxC pre]] ++ blkC pre) ?hm rfl ?hr 1 [_, _]
        [.arr k 1 (((withinL l doc).take k).map fun p => V.g (tints p)), .arr 0 1 [.g (tints (stF k p.2))]] (blkC ((stF k p.2).map sv)) rfl (Nat.zero_le _) ⟨.inl ⟨rfl, Blk.lt_gs⟩, .inr ⟨0, 1, [_], [tints (stF k p.2)], rfl, rfl, ?hgr⟩, trivial⟩ ?hq
      case hm =>
        intro pre
        refine noMp_app (noMp_cons (noMp_cons noMp_nil)) ?_
        cases pre with
        | nil => exact noMp_nil
        | cons x r => exact noMp_cons noMp_nil
      case hgr =>
        show optL [gr 2 _ 1 (boxC ((stF k p.2).map sv))] = _
        rw [boxC_gr]; rfl
      case hr =>
        intro pre y hlt
        have hst : ((stF k p.2).map sv).length ≤ 120 := by have := stF_len (a := k) (xs := p.2); simp; omega
        cases pre with
        | nil =>
          conv => whnf
          refine ⟨rfl, _, rfl, ?_⟩
          conv => whnf
          refine ⟨by repeat (first | exact trivial | refine ⟨⟨rfl, rfl⟩, ?_⟩), ?_⟩
          conv => whnf
          refine ⟨rfl, ?_⟩
          conv => whnf
          refine ⟨by simp, ?_⟩
          conv => whnf
          refine ⟨rfl, _, rfl, ⟨rfl, rfl, by decide⟩, ?_⟩
          conv => whnf
          exact ReH.refl _
        | cons x r =>
          have hrl : r.length < 120 := by simp only [List.length_cons] at hlt; omega
          conv => whnf
          refine ⟨rfl, _, rfl, ?_⟩
          conv => whnf
          refine ⟨by repeat (first | exact trivial | refine ⟨⟨rfl, rfl⟩, ?_⟩), ?_⟩
          conv => whnf
          refine ⟨rfl, ?_⟩
          conv => whnf
          refine ⟨by simp; omega, ⟨rfl, rfl, rfl⟩, _, ⟨[], (List.append_nil _).symm⟩, by simp, ?_⟩
          conv => whnf
          refine ⟨rfl, _, rfl, ⟨rfl, rfl, by decide⟩, ?_⟩
          conv => whnf
          have e : ∀ h1 h2 : List Blk, h1 = h2 → ReH 2 h1 h2 := fun h1 h2 e => e ▸ ReH.refl _
          refine e _ _ ?_
          simp [blkC, boxC]
          rfl
      case hq =>
        intro t' ht
        simp [cutV, ltB, ltS] at ht
        subst ht
        conv => whnf
        refine ⟨rfl, _, rfl, ?_⟩
        conv => whnf
        refine ⟨by repeat (first | exact trivial | refine ⟨⟨rfl, rfl⟩, ?_⟩), ?_⟩
        conv => whnf
        refine ⟨rfl, ?_⟩
        conv => whnf
        have hwk : withinL l doc = (withinL l doc) := rfl
        have htk : (withinL l doc).take (k + 1) = (withinL l doc).take k ++ [stF k p.2] := by
          rw [List.take_succ_eq_append_getElem (by rw [withinL_len]; exact hk'), withinL_get hk', hpa]
        refine ⟨by simp; omega, ⟨rfl, rfl, rfl⟩, _, ⟨[], (List.append_nil _).symm⟩, by simp [withinL_len]; omega, ?_⟩
        conv => whnf
        refine ⟨in64 (by omega) (by omega), ?_⟩
        conv => whnf
        refine ⟨⟨k + 1, hk', by omega, Refi.back (L := [.arr 0 1 [.g (tints (stF k p.2))]]) ?_ (Nat.zero_le _) (lt_all1 Blk.lt_gs) ?_⟩⟩
        · rw [htk, List.map_append]; rfl
        · simp [subT, subV, tm, tmGo, cutV, ltB, ltS]
    · conv => whnf
      have : k = l.length := by omega
      subst this
      have hw : (withinL l doc).take l.length = withinL l doc := List.take_of_length_le (by rw [withinL_len]; exact Nat.le_refl _)
      rw [hw]
      have hls : ∀ x ∈ withinL l doc, x.length < 1000000000 := fun x hx => by
        obtain ⟨i, hi, rfl⟩ := List.getElem_of_mem hx
        rw [withinL_len] at hi
        rw [withinL_get hi]
        have h5 := stF_len (a := i) (xs := atsOf l[i] doc)
        have h6 : (atsOf l[i] doc).length ≤ 120 := by
          unfold atsOf
          split
          · rename_i p hp; exact (mayP_ok (hmay _ (List.getElem_mem hi)) p (List.mem_of_getElem? hp)).2.1
          · simp
        omega
      refine (c_lists_And (withinL l doc) (by rw [withinL_len]; omega) hls).give 0 1 (noMp_cons noMp_nil) ?_ ?_
      · have hg : gr 0 [Blk.arr l.length 1 ((withinL l doc).map fun p => V.g (tints p))] 1 (.own 0 l.length 0 l.length) = some (intss (withinL l doc)) :=
          gr_own (l := withinL l doc) (e := tints) rfl (Nat.le_refl _) withinL_len.symm fun x _ => gr_g
        show optL [gr 0 [Blk.arr l.length 1 ((withinL l doc).map fun p => V.g (tints p))] 1 (.own 0 l.length 0 l.length)] = some [intss (withinL l doc)]
        rw [hg]; rfl
      · conv => whnf
        exact ⟨Ends.ground (H := []) (L := [_]) 0 rfl ⟨rfl, rfl⟩⟩
end Go.Aw
namespace Go.Aw
open Go.Proofs
set_option maxRecDepth 100000

theorem found_mem {xs : List Int} {x : Int} (hs : Mono xs) : foundN xs x = true ↔ x ∈ xs := by
  have h := fromN_is xs x _ rfl (Nat.zero_le _)
  unfold foundN
  constructor
  · intro h1
    split at h1
    · rename_i y hy
      rw [beq_iff_eq] at h1
      subst h1
      exact List.mem_of_getElem? hy
    · cases h1
  · intro hx
    obtain ⟨i, hi, rfl⟩ := List.getElem_of_mem hx
    have hle : fromN xs 0 xs[i] ≤ i := by
      rcases Nat.lt_or_ge i (fromN xs 0 xs[i]) with hlt | hge
      · have := h.lo i hi (Nat.zero_le _) hlt; omega
      · exact hge
    have hlt : fromN xs 0 xs[i] < xs.length := by omega
    have h2 := h.hi hlt
    rw [List.getElem?_eq_getElem hlt]
    simp only [beq_iff_eq]
    rcases Nat.lt_or_ge (fromN xs 0 xs[i]) i with h3 | h3
    · have := hs _ i h3 hi; omega
    · have : fromN xs 0 xs[i] = i := by omega
      simp only [this]

theorem docs_mayL {l : List Po} (h : mayP l = true) : mayL (docsL l) = true := by
  rw [mayL, (risE_ge (mayP_docs h).2).1, docs_len]
  have := (mayP_docs h).1
  simp; omega
theorem all_docs {l : List (List Po)} (h : l.all mayP = true) : (l.map docsL).all mayL = true := by
  rw [List.all_eq_true] at h ⊢
  intro x hx
  obtain ⟨y, hy, rfl⟩ := List.mem_map.1 hx
  exact docs_mayL (h y hy)

def nearF (l : List (List Po)) (doc : Int) : Option Po := if andL (withinL l doc) = [] then none else some (doc, andL (withinL l doc))
/-- where words stand one behind the other -/
def nearL (l : List (List Po)) : List Po := if l.all mayP = true then (andL (l.map docsL)).filterMap (nearF l) else []
theorem filterMap_take {α β : Type} {f : α → Option β} {l : List α} {k : Nat} (h : k < l.length) : (l.take (k + 1)).filterMap f = (l.take k).filterMap f ++ (match f l[k] with | some y => [y] | none => []) := by
  rw [List.take_succ_eq_append_getElem h, List.filterMap_append]
  congr 1
  cases hf : f l[k] <;> simp [hf]
theorem filterMap_le {α β : Type} {f : α → Option β} {l : List α} {k : Nat} : ((l.take k).filterMap f).length ≤ l.length :=
  Nat.le_trans (List.length_filterMap_le _ _) (by simp; omega)

theorem c_phrase_Near (l : List (List Po)) (hl : l.length < 1000000) (hs : ∀ one ∈ l, one.length < 1000000000) (hp : ∀ one ∈ l, ∀ p ∈ one, p.2.length < 1000000000) :
    CG Try.prog 17 [.sl 1 (l.map tposts)] (tposts (nearL l)) := by
  refine ⟨k_phrase_Near.calls ?_⟩
  have hm : (l.map tposts).length = l.length := by simp
  conv => whnf
  refine SW.loopR (α := Nat) (fun k => tm 46 [(0, .g (.sl 1 (l.map tposts))), (3, .own 0 k 0 k), (10, .g (.sl 1 (l.map tposts))), (11, .g (.i l.length)), (12, .g (.i k))]) (fun k => [.arr k 1 ((l.take k).map fun p => V.g (tints (docsL p)))]) (fun k => k ≤ l.length ∧ (l.take k).all mayP = true) (fun k => l.length - k) 0 ?_ ?_ ?_
  · exact ⟨Nat.zero_le _, rfl⟩
  · exact (Refi.valloc 3 1 rfl).trans (Refi.sub rfl (by simp [subT, subV, tm, tmGo, setT]))
  · rintro k ⟨hk, hall⟩
    dsimp only at hk hall ⊢
    conv => whnf
    refine Br.dec (fun h => ?_) (fun h => ?_)
    · conv => whnf
      refine ⟨by simp; omega, rfl, ?_⟩
      conv => whnf
      refine ⟨_, getZ (by omega), ?_⟩
      conv => whnf
      have hk' : k < l.length := by omega
      have htk : l.take (k + 1) = l.take k ++ [l[k]] := List.take_succ_eq_append_getElem hk'
      have hsk := hs _ (List.getElem_mem hk')
      refine (c_post_May l[k] hsk (hp _ (List.getElem_mem hk'))).go rfl ?_
      conv => whnf
      refine Br.not (fun h1 => ?_) (fun h1 => ?_)
      · conv => whnf
        refine ⟨Ends.ground (H := []) (L := [_]) 0 rfl ⟨?_, rfl⟩⟩
        have : l.all mayP = false := by rw [List.all_eq_false]; exact ⟨l[k], List.getElem_mem _, by simp [h1]⟩
        rw [nearL, this]; rfl
      · conv => whnf
        refine (c_phrase_docs l[k] hsk).go rfl ?_
        conv => whnf
        refine ⟨by repeat (first | exact trivial | refine ⟨⟨rfl, rfl⟩, ?_⟩), ?_⟩
        conv => whnf
        refine ⟨rfl, ?_⟩
        conv => whnf
        refine ⟨by simp; omega, ⟨rfl, rfl, rfl⟩, _, ⟨[], (List.append_nil _).symm⟩, by simp; omega, ?_⟩
        conv => whnf
        refine ⟨in64 (by omega) (by omega), ?_⟩
        conv => whnf
        refine ⟨⟨k + 1, ⟨hk', by rw [htk, List.all_append, hall]; simp [h1]⟩, by omega, Refi.sub ?_ ?_⟩⟩
        · rw [htk, List.map_append]; rfl
        · simp [subT, subV, tm, tmGo]
    · conv => whnf
      have : k = l.length := by omega
      subst this
      rw [List.take_length] at hall
      have hdl : ∀ x ∈ l.map docsL, x.length < 1000000000 := fun x hx => by
        obtain ⟨y, hy, rfl⟩ := List.mem_map.1 hx
        rw [docs_len]; exact hs y hy
      refine (c_lists_And (l.map docsL) (by simp; omega) hdl).give 0 1 (noMp_cons noMp_nil) ?_ ?_
      · have hg : gr 0 [Blk.arr l.length 1 ((l.take l.length).map fun p => V.g (tints (docsL p)))] 1 (.own 0 l.length 0 l.length) = some (intss (l.map docsL)) := by
          rw [List.take_length, intss, List.map_map]
          exact gr_own (l := l) (e := fun p => tints (docsL p)) rfl (Nat.le_refl _) rfl fun x _ => gr_g
        show optL [gr 0 [Blk.arr l.length 1 ((l.take l.length).map fun p => V.g (tints (docsL p)))] 1 (.own 0 l.length 0 l.length)] = some [intss (l.map docsL)]
        rw [hg]; rfl
      · conv => whnf
        have hds : nearL l = (andL (l.map docsL)).filterMap (nearF l) := by rw [nearL, if_pos hall]
        have hin : ∀ doc ∈ andL (l.map docsL), (∀ one ∈ l, foundN (docsL one) doc = true) ∧ 0 ≤ doc ∧ doc < 64 := fun doc hdoc => by
          rw [List.all_eq_true] at hall
          have hne : l ≠ [] := fun e => by subst e; simp [andL] at hdoc
          have hmem := (andL_mem (by simpa using hne) (all_docs (List.all_eq_true.2 hall)) doc).1 hdoc
          refine ⟨fun one ho => (found_mem (risE_mono (mayP_docs (hall one ho)).2)).2 (hmem _ (List.mem_map_of_mem ho)), ?_⟩
          cases l with
          | nil => exact absurd rfl hne
          | cons one r =>
            have := hmem (docsL one) (by simp)
            obtain ⟨p, hp1, rfl⟩ := List.mem_map.1 this
            exact mayP_doc (hall one (by simp)) p hp1
        have hdn : (andL (l.map docsL)).length < 1000000000 := by
          cases hl' : l.map docsL with
          | nil => simp [andL]
          | cons x r => have := andL_len (l := x) (r := r); have := hdl x (by rw [hl']; simp); omega
        generalize hda : andL (l.map docsL) = ds at hin hdn hds
        refine SW.loopR (α := Nat) (fun k => tm 46 [(0, .g (.sl 1 (l.map tposts))), (6, .own 0 ((ds.take k).filterMap (nearF l)).length 0 ((ds.take k).filterMap (nearF l)).length), (26, ints ds), (27, .g (.i ds.length)), (28, .g (.i k))]) (fun k => [.arr ((ds.take k).filterMap (nearF l)).length 2 (((ds.take k).filterMap (nearF l)).map fun p => V.g (tpost p))]) (fun k => k ≤ ds.length) (fun k => ds.length - k) 0 ?_ ?_ ?_
        · exact Nat.zero_le _
        · exact (Refi.back (H' := []) (L := [.arr (l.length + 1) 1 []]) rfl (Nat.le_refl _) (by simp) (subT_refl _)).trans ((Refi.valloc 6 2 rfl).trans (Refi.sub rfl (by simp [subT, subV, tm, tmGo, setT, cutV, ltB, ltS, ints])))
        · intro k hk
          dsimp only at hk ⊢
          conv => whnf
          refine Br.dec (fun h => ?_) (fun h => ?_)
          · conv => whnf
            refine ⟨by simp; omega, rfl, ?_⟩
            conv => whnf
            refine ⟨_, getZ (by omega), ?_⟩
            conv => whnf
            have hk' : k < ds.length := by simp only [List.length_map] at *; omega
            obtain ⟨g1, g2, g3⟩ := hin _ (List.getElem_mem hk')
            refine (c_phrase_within l ds[k] hl (List.all_eq_true.1 hall) g1 g2 g3).go rfl ?_
            conv => whnf
            have hft := filterMap_take (f := nearF l) hk'
            have hfl : ((ds.take k).filterMap (nearF l)).length ≤ ds.length := filterMap_le
            refine Br.eq (fun h2 => ?_) (fun h2 => ?_)
            · conv => whnf
              refine ⟨in64 (by omega) (by omega), ?_⟩
              conv => whnf
              have e : nearF l ds[k] = none := by
                rw [nearF, if_pos]
                apply List.eq_nil_of_length_eq_zero
                simp at h2
                exact h2 ▸ rfl
              rw [e, List.append_nil] at hft
              refine ⟨⟨k + 1, hk', by omega, Refi.sub ?_ ?_⟩⟩
              · rw [hft]
              · rw [hft]; simp [subT, subV, tm, tmGo, ints]
            · conv => whnf
              refine ⟨by repeat (first | exact trivial | refine ⟨⟨rfl, rfl⟩, ?_⟩), ?_⟩
              conv => whnf
              refine ⟨rfl, ?_⟩
              conv => whnf
              refine ⟨by simp; omega, ⟨rfl, rfl, rfl⟩, _, ⟨[], (List.append_nil _).symm⟩, by simp, ?_⟩
              conv => whnf
              refine ⟨in64 (by omega) (by omega), ?_⟩
              conv => whnf
              have e : nearF l ds[k] = some (ds[k], andL (withinL l ds[k])) := by
                rw [nearF, if_neg]
                intro h3
                rw [h3] at h2
                exact h2 rfl
              rw [e] at hft
              refine ⟨⟨k + 1, hk', by omega, Refi.sub ?_ ?_⟩⟩
              · rw [hft, List.length_append, List.map_append]; rfl
              · rw [hft]; simp [subT, subV, tm, tmGo, ints]
          · conv => whnf
            have : k = ds.length := by simp only [List.length_map] at *; omega
            subst this
            refine ⟨Ends.ground (H := []) (L := [_]) (t := tposts (nearL l)) 1 ?_ ⟨rfl, rfl⟩⟩
            rw [List.take_length, ← hds]
            exact gr_own (l := nearL l) (e := tpost) rfl (Nat.le_refl _) rfl fun x _ => gr_g
end Go.Aw
namespace Go.Aw
open Go.Proofs
set_option maxRecDepth 100000

theorem no2 {a b c d : Int} (h : ¬ a < b ∨ ¬ c < d) : (decide (a < b) && decide (c < d)) = false := by
  rcases h with h | h
  · rw [decide_eq_false h]; rfl
  · rw [decide_eq_false h, Bool.and_false]

theorem c_law06_Few (l : List Po) (hl : l.length < 9223372036854775808) : CG Try.prog 19 [tposts l] (.b (decide (l.length ≤ 70) && l.all fun p => decide (p.2.length ≤ 130))) := by
  refine ⟨k_law06_Few.calls ?_⟩
  have hm : (l.map tpost).length = l.length := by simp
  conv => whnf
  refine Br.dec (fun h => ?_) (fun h => ?_)
  · conv => whnf
    rw [decide_eq_false (p := l.length ≤ 70) (by omega)]
    exact ⟨Ends.keep ⟨rfl, rfl⟩⟩
  conv => whnf
  have hlen : l.length ≤ 70 := by omega
  rw [decide_eq_true hlen, Bool.true_and]
  refine SW.loop (α := Nat) (fun k => tm 20 [(0, posts l), (3, .g (.i k))]) (fun _ => []) (fun k => k ≤ l.length ∧ (l.take k).all (fun p => decide (p.2.length ≤ 130)) = true) (fun k => l.length - k) 0 ?_ ?_ ?_ ?_
  · simp
  · rfl
  · simp [subT, subV, tm, tmGo, posts, tposts]
  · rintro k ⟨hk, hr⟩
    dsimp only at hk hr ⊢
    conv => whnf
    refine Br.dec (fun h => ?_) (fun h => ?_)
    · conv => whnf
      refine ⟨by simp; omega, rfl, ?_⟩
      conv => whnf
      refine ⟨_, getZ (by omega), ?_⟩
      conv => whnf
      have hk' : k < l.length := by omega
      have hmp : (l[k].2.map T.i).length = l[k].2.length := by simp
      refine Br.dec (fun h2 => ?_) (fun h2 => ?_)
      · conv => whnf
        have : (l.all fun p => decide (p.2.length ≤ 130)) = false := by rw [List.all_eq_false]; exact ⟨l[k], List.getElem_mem _, by simp; omega⟩
        rw [this]
        exact ⟨Ends.keep ⟨rfl, rfl⟩⟩
      · conv => whnf
        refine ⟨in64 (by omega) (by omega), ?_⟩
        conv => whnf
        refine ⟨⟨k + 1, ⟨hk', all_take hk' hr (by simp; omega)⟩, by omega, rfl, by simp [subT, subV, tm, tmGo, posts]⟩⟩
    · conv => whnf
      have : k = l.length := by omega
      subst this
      rw [List.take_length] at hr
      rw [hr]
      exact ⟨Ends.keep ⟨rfl, rfl⟩⟩

theorem c_ref06_rising (xs : List Int) (e : Int) (hl : xs.length < 9223372036854775808) : CG Try.prog 62 [tints xs, .i e] (.b (risE e (-1) xs)) := by
  refine ⟨k_ref06_rising.calls ?_⟩
  have hm : (xs.map T.i).length = xs.length := by simp
  conv => whnf
  refine SW.loop (α := Nat × Int) (fun a => tm 41 [(0, ints xs), (1, .g (.i e)), (5, .g (.i a.1))]) (fun _ => []) (fun a => a.1 ≤ xs.length ∧ -1 ≤ a.2 ∧ (a.1 = 0 → a.2 = -1) ∧ (∀ h : a.1 - 1 < xs.length, 0 < a.1 → xs[a.1 - 1] = a.2) ∧ risE e (-1) xs = risE e a.2 (xs.drop a.1)) (fun a => xs.length - a.1) (0, -1) ?_ ?_ ?_ ?_
  · simp
  · rfl
  · simp [subT, subV, tm, tmGo, ints, tints]
  · rintro ⟨k, l⟩ ⟨hk, hl1, hl0, hlk, hr⟩
    dsimp only at hk hl1 hl0 hlk hr ⊢
    conv => whnf
    refine Br.dec (fun h => ?_) (fun h => ?_)
    · conv => whnf
      refine ⟨by simp; omega, rfl, ?_⟩
      conv => whnf
      refine ⟨_, getZ (by omega), ?_⟩
      conv => whnf
      have hk' : k < xs.length := by omega
      rw [risE_drop hk'] at hr
      have bad : (xs[k] ≤ l ∨ e ≤ xs[k]) → Fin [] (fun r h => r = V.g (T.b (risE e (-1) xs)) ∧ h = []) (V.g (T.sc (Value.bool false))) [] := fun h2 => by
        have : (decide (l < xs[k]) && decide (xs[k] < e)) = false := no2 (by omega)
        rw [hr, this]
        exact ⟨Ends.keep ⟨rfl, rfl⟩⟩
      have good : (l < xs[k] ∧ xs[k] < e) → risE e (-1) xs = risE e xs[k] (xs.drop (k + 1)) := fun h2 => by
        rw [hr, decide_eq_true h2.1, decide_eq_true h2.2]; rfl
      refine Br.dec (fun h2 => ?_) (fun h2 => ?_)
      · conv => whnf
        exact bad (by omega)
      · conv => whnf
        refine ⟨by simp; omega, rfl, ?_⟩
        conv => whnf
        refine ⟨_, getZ (by omega), ?_⟩
        conv => whnf
        refine Br.dec (fun h3 => ?_) (fun h3 => ?_)
        · conv => whnf
          exact bad (by omega)
        · conv => whnf
          refine Br.dec (fun h4 => ?_) (fun h4 => ?_)
          · conv => whnf
            refine ⟨by simp; omega, rfl, ?_⟩
            conv => whnf
            refine ⟨_, getZ (by omega), ?_⟩
            conv => whnf
            refine ⟨in64 (by omega) (by omega), ?_⟩
            conv => whnf
            refine ⟨by simp; omega, rfl, ?_⟩
            conv => whnf
            refine ⟨_, getI (by omega) (by omega), ?_⟩
            conv => whnf
            have e1 : xs[((k : Int) - 1).toNat]'(by omega) = l := by
              have := hlk (by omega) (by omega)
              rw [← this]; congr 1; omega
            refine Br.dec (fun h5 => ?_) (fun h5 => ?_)
            · conv => whnf
              exact bad (by rw [e1] at h5; omega)
            · conv => whnf
              refine ⟨in64 (by omega) (by omega), ?_⟩
              conv => whnf
              rw [e1] at h5
              exact ⟨⟨(k + 1, xs[k]), ⟨hk', by dsimp only; omega, fun h => by simp at h, fun _ _ => rfl, good (by omega)⟩, by show xs.length - (k + 1) < xs.length - k; omega, rfl, by simp [subT, subV, tm, tmGo, ints]⟩⟩
          · conv => whnf
            refine ⟨in64 (by omega) (by omega), ?_⟩
            conv => whnf
            have hk0 : k = 0 := by omega
            subst hk0
            have := hl0 rfl
            subst this
            exact ⟨⟨(1, xs[0]), ⟨hk', by dsimp only; omega, fun h => by simp at h, fun _ _ => rfl, good (by omega)⟩, by show xs.length - 1 < xs.length - 0; omega, rfl, by simp [subT, subV, tm, tmGo, ints]⟩⟩
    · conv => whnf
      have : k = xs.length := by omega
      subst this
      rw [List.drop_length] at hr
      rw [hr]
      exact ⟨Ends.keep ⟨rfl, rfl⟩⟩

theorem risE_len : ∀ {e l : Int} {xs : List Int}, l < e → risE e l xs = true → (xs.length : Int) ≤ e - 1 - l
  | e, l, [], h, _ => by simp; omega
  | e, l, x :: xs, h, hr => by
    simp only [risE, Bool.and_eq_true, decide_eq_true_eq] at hr
    have := risE_len (e := e) (l := x) (xs := xs) hr.1.2 hr.2
    simp; omega
theorem okP_iff {p : Po} : okP p = (decide (0 < p.2.length) && risE 120 (-1) p.2) := by
  cases h : risE 120 (-1) p.2 with
  | false => simp [okP, h]
  | true =>
    have := risE_len (by omega) h
    have h2 : p.2.length ≤ 120 := by omega
    simp [okP, h, h2]

theorem c_ref06_May (l : List Po) (hl : l.length < 1000000000) (hp : ∀ p ∈ l, p.2.length < 1000000000) : CG Try.prog 45 [tposts l] (.b (mayP l)) := by
  refine ⟨k_ref06_May.calls ?_⟩
  have hm : (l.map tpost).length = l.length := by simp
  have hd : (docsL l).length = l.length := docs_len
  have hget : ∀ (k : Nat) (h : k < l.length), (docsL l)[k]'(by rw [hd]; exact h) = l[k].1 := fun k h => by simp [docsL]
  conv => whnf
  refine Br.dec (fun h => ?_) (fun h => ?_)
  · conv => whnf
    rw [mayP_eq, decide_eq_false (p := l.length ≤ 64) (by omega), Bool.and_false, Bool.false_and]
    exact ⟨Ends.keep ⟨rfl, rfl⟩⟩
  conv => whnf
  have hlen : l.length ≤ 64 := by omega
  refine SW.loop (α := Nat × Int) (fun a => tm 65 [(0, posts l), (3, .g (.i a.1))]) (fun _ => []) (fun a => a.1 ≤ l.length ∧ (l.take a.1).all okP = true ∧ -1 ≤ a.2 ∧ (a.1 = 0 → a.2 = -1) ∧ (∀ h : a.1 - 1 < l.length, 0 < a.1 → l[a.1 - 1].1 = a.2) ∧ risE 64 (-1) (docsL l) = risE 64 a.2 ((docsL l).drop a.1)) (fun a => l.length - a.1) (0, -1) ?_ ?_ ?_ ?_
  · simp
  · rfl
  · simp [subT, subV, tm, tmGo, posts, tposts]
  · rintro ⟨k, x⟩ ⟨hk, hall, hl1, hl0, hlk, hr⟩
    dsimp only at hk hall hl1 hl0 hlk hr ⊢
    conv => whnf
    refine Br.dec (fun h => ?_) (fun h => ?_)
    · conv => whnf
      refine ⟨by simp; omega, rfl, ?_⟩
      conv => whnf
      refine ⟨_, getZ (by omega), ?_⟩
      conv => whnf
      have hk' : k < l.length := by omega
      have hpk := hp _ (List.getElem_mem hk')
      have hmp : (l[k].2.map T.i).length = l[k].2.length := by simp
      rw [risE_drop (by omega), hget k hk'] at hr
      have bad0 : okP l[k] = false → Fin [] (fun r h => r = V.g (T.b (mayP l)) ∧ h = []) (V.g (T.sc (Value.bool false))) [] := fun h2 => by
        rw [mayP_eq, all_no hk' h2]
        exact ⟨Ends.keep ⟨rfl, rfl⟩⟩
      have bad : (l[k].1 ≤ x ∨ 64 ≤ l[k].1) → Fin [] (fun r h => r = V.g (T.b (mayP l)) ∧ h = []) (V.g (T.sc (Value.bool false))) [] := fun h2 => by
        have : (decide (x < l[k].1) && decide (l[k].1 < 64)) = false := no2 (by omega)
        rw [mayP_eq, hr, this, Bool.false_and, Bool.and_false]
        exact ⟨Ends.keep ⟨rfl, rfl⟩⟩
      have good : (x < l[k].1 ∧ l[k].1 < 64) → risE 64 (-1) (docsL l) = risE 64 l[k].1 ((docsL l).drop (k + 1)) := fun h2 => by
        rw [hr, decide_eq_true h2.1, decide_eq_true h2.2]; rfl
      refine (c_ref06_rising l[k].2 120 (by omega)).go rfl ?_
      conv => whnf
      refine Br.not (fun h2 => ?_) (fun h2 => ?_)
      · conv => whnf
        exact bad0 (by rw [okP_iff, h2, Bool.and_false])
      · conv => whnf
        refine ⟨by simp; omega, rfl, ?_⟩
        conv => whnf
        refine ⟨_, getZ (by omega), ?_⟩
        conv => whnf
        refine Br.dec (fun h3 => ?_) (fun h3 => ?_)
        · conv => whnf
          exact bad0 (by rw [okP_iff, decide_eq_false (by omega)]; rfl)
        · have hok : okP l[k] = true := by rw [okP_iff, h2, decide_eq_true (by omega)]; rfl
          conv => whnf
          refine ⟨by simp; omega, rfl, ?_⟩
          conv => whnf
          refine ⟨_, getZ (by omega), ?_⟩
          conv => whnf
          refine Br.dec (fun h4 => ?_) (fun h4 => ?_)
          · conv => whnf
            exact bad (by omega)
          · conv => whnf
            refine ⟨by simp; omega, rfl, ?_⟩
            conv => whnf
            refine ⟨_, getZ (by omega), ?_⟩
            conv => whnf
            refine Br.dec (fun h5 => ?_) (fun h5 => ?_)
            · conv => whnf
              exact bad (by omega)
            · conv => whnf
              refine Br.dec (fun h6 => ?_) (fun h6 => ?_)
              · conv => whnf
                refine ⟨by simp; omega, rfl, ?_⟩
                conv => whnf
                refine ⟨_, getZ (by omega), ?_⟩
                conv => whnf
                refine ⟨in64 (by omega) (by omega), ?_⟩
                conv => whnf
                refine ⟨by simp; omega, rfl, ?_⟩
                conv => whnf
                refine ⟨_, getI (by omega) (by omega), ?_⟩
                conv => whnf
                have e1 : (l[((k : Int) - 1).toNat]'(by omega)).1 = x := by
                  have := hlk (by omega) (by omega)
                  rw [← this]; congr 2; omega
                refine Br.dec (fun h7 => ?_) (fun h7 => ?_)
                · conv => whnf
                  exact bad (by rw [e1] at h7; omega)
                · conv => whnf
                  refine ⟨in64 (by omega) (by omega), ?_⟩
                  conv => whnf
                  rw [e1] at h7
                  exact ⟨⟨(k + 1, l[k].1), ⟨hk', all_take hk' hall hok, by dsimp only; omega, fun h => by simp at h, fun _ _ => rfl, good (by omega)⟩, by show l.length - (k + 1) < l.length - k; omega, rfl, by simp [subT, subV, tm, tmGo, posts]⟩⟩
              · conv => whnf
                refine ⟨in64 (by omega) (by omega), ?_⟩
                conv => whnf
                have hk0 : k = 0 := by omega
                subst hk0
                have := hl0 rfl
                subst this
                exact ⟨⟨(1, l[0].1), ⟨hk', all_take hk' hall hok, by dsimp only; omega, fun h => by simp at h, fun _ _ => rfl, good (by omega)⟩, by show l.length - 1 < l.length - 0; omega, rfl, by simp [subT, subV, tm, tmGo, posts]⟩⟩
    · conv => whnf
      have : k = l.length := by omega
      subst this
      rw [List.take_length] at hall
      rw [← hd, List.drop_length] at hr
      rw [mayP_eq, hall, decide_eq_true hlen, hr]
      exact ⟨Ends.keep ⟨rfl, rfl⟩⟩

theorem c_ref06_Same (a b : List Po) (hl : a.length < 1000000000) (hp : ∀ p ∈ a, p.2.length < 1000000000) : CG Try.prog 16 [tposts a, tposts b] (.b (decide (a = b))) := by
  refine ⟨k_ref06_Same.calls ?_⟩
  have hm : (a.map tpost).length = a.length := by simp
  have hm2 : (b.map tpost).length = b.length := by simp
  conv => whnf
  refine Br.ne (fun h => ?_) (fun h => ?_)
  · conv => whnf
    rw [decide_eq_false (fun e => h (by rw [hm, hm2, e]))]
    exact ⟨Ends.keep ⟨rfl, rfl⟩⟩
  conv => whnf
  have he : a.length = b.length := by omega
  refine SW.loop (α := Nat) (fun k => tm 44 [(0, posts a), (1, posts b), (5, .g (.i k))]) (fun _ => []) (fun k => k ≤ a.length ∧ a.take k = b.take k) (fun k => a.length - k) 0 ?_ ?_ ?_ ?_
  · simp
  · rfl
  · simp [subT, subV, tm, tmGo, posts, tposts]
  · rintro k ⟨hk, hr⟩
    dsimp only at hk hr ⊢
    conv => whnf
    refine Br.dec (fun h => ?_) (fun h => ?_)
    · conv => whnf
      refine ⟨by simp; omega, rfl, ?_⟩
      conv => whnf
      refine ⟨_, getZ (by omega), ?_⟩
      conv => whnf
      refine ⟨by simp; omega, rfl, ?_⟩
      conv => whnf
      refine ⟨_, getZ (by omega), ?_⟩
      conv => whnf
      have hk' : k < a.length := by omega
      have hk2 : k < b.length := by omega
      have hpk := hp _ (List.getElem_mem hk')
      refine (c_ref01_Ints a[k].2 b[k].2 (by omega)).go rfl ?_
      conv => whnf
      by_cases h2 : a[k].2 = b[k].2
      · rw [decide_eq_true h2]
        conv => whnf
        refine ⟨by simp; omega, rfl, ?_⟩
        conv => whnf
        refine ⟨_, getZ (by omega), ?_⟩
        conv => whnf
        refine ⟨by simp; omega, rfl, ?_⟩
        conv => whnf
        refine ⟨_, getZ (by omega), ?_⟩
        conv => whnf
        refine Br.ne (fun h3 => ?_) (fun h3 => ?_)
        · conv => whnf
          rw [decide_eq_false (fun e => h3 (by subst e; rfl))]
          exact ⟨Ends.keep ⟨rfl, rfl⟩⟩
        · conv => whnf
          refine ⟨in64 (by omega) (by omega), ?_⟩
          conv => whnf
          refine ⟨⟨k + 1, ⟨hk', ?_⟩, by omega, rfl, by simp [subT, subV, tm, tmGo, posts]⟩⟩
          rw [List.take_succ_eq_append_getElem hk', List.take_succ_eq_append_getElem hk2, hr]
          congr 2
          exact Prod.ext h3 h2
      · rw [decide_eq_false h2]
        conv => whnf
        rw [decide_eq_false (fun e => h2 (by subst e; rfl))]
        exact ⟨Ends.keep ⟨rfl, rfl⟩⟩
    · conv => whnf
      have : k = a.length := by omega
      subst this
      have e : a = b := by rw [List.take_length, he, List.take_length] at hr; exact hr
      rw [decide_eq_true e]
      exact ⟨Ends.keep ⟨rfl, rfl⟩⟩
end Go.Aw
