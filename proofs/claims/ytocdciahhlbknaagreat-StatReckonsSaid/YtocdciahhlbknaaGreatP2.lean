/- Contracts of functions of the given program, by the abstract walk, for law StatReckons: what each one hands back; no condition but those that each theorem states. -/
import Derived.Test.YtocdciahhlbknaaGreatP1
namespace Go.Aw
open Go.Sort
section
variable {α:Type} {lt:α→α→Bool}
theorem swp_a {f:Nat→α} {p q:Nat} (h:p≠q):swpF f p q p=f q:=by simp only [swpF,updF];rw [if_neg h,if_pos trivial]
theorem swp_b {f:Nat→α} {p q:Nat}:swpF f p q q=f p:=by simp only [swpF,updF];rw [if_pos trivial]
theorem swp_o {f:Nat→α} {p q k:Nat} (h:k≠p) (h2:k≠q):swpF f p q k=f k:=by simp only [swpF,updF];rw [if_neg h2,if_neg h]
def heapF (lt:α→α→Bool) (f:Nat→α) (n:Nat):Prop:=∀ j,0 < j→j < n→lt (f j) (f ((j-1) / 2))=false
def upF (lt:α→α→Bool) (f:Nat→α) (n i:Nat):Prop:=(∀ j,0 < j→j < n→j≠i→lt (f j) (f ((j-1) / 2))=false)∧∀ j,0 < j→j < n→(j-1) / 2=i→0 < i→lt (f j) (f ((i-1) / 2))=false
def downF (lt:α→α→Bool) (f:Nat→α) (n i:Nat):Prop:=(∀ j,0 < j→j < n→(j-1) / 2≠i→lt (f j) (f ((j-1) / 2))=false)∧∀ j,0 < j→j < n→(j-1) / 2=i→0 < i→lt (f j) (f ((i-1) / 2))=false
theorem upF_done {f:Nat→α} {n i:Nat} (h:upF lt f n i) (k:i=0∨lt (f i) (f ((i-1) / 2))=false):heapF lt f n:=fun j h1 h2=>by
 by_cases e:j=i
 ·subst e
  rcases k with k|k
  ·omega
  ·exact k
 ·exact h.1 j h1 h2 e
theorem upF_step (hO:SWO lt) {f:Nat→α} {n i:Nat} (h:upF lt f n i) (hi:0 < i) (hn:i < n) (k:lt (f i) (f ((i-1) / 2))=true):upF lt (swpF f i ((i-1) / 2)) n ((i-1) / 2):=by
 obtain ⟨h1,h2⟩:=h
 obtain ⟨u,hu⟩:∃ u,u=(i-1) / 2:=⟨_,rfl⟩
 have hui:i≠u:=by omega
 rw [← hu] at k h2 ⊢
 constructor
 ·intro j j1 j2 j3
  by_cases e:j=i
  ·subst e
   rw [swp_a hui,← hu,swp_b]
   exact swo_asym hO k
  ·rw [swp_o e j3]
   by_cases e2:(j-1) / 2=i
   ·rw [e2,swp_a hui]
    exact h2 j j1 j2 e2 hi
   ·by_cases e3:(j-1) / 2=u
    ·rw [e3,swp_b]
     have:=h1 j j1 j2 e
     rw [e3] at this
     cases q:lt (f j) (f i) with
     | false=>rfl
     | true=>rw [hO.trans _ _ _ q k] at this;cases this
    ·rw [swp_o e2 e3]
     exact h1 j j1 j2 e
 ·intro j j1 j2 j3 j4
  have h5:=h1 u j4 (by omega) (fun e=>hui e.symm)
  rw [swp_o (k:=(u-1) / 2) (by omega) (by omega)]
  by_cases e:j=i
  ·subst e
   rw [swp_a hui];exact h5
  ·rw [swp_o e (by omega)]
   have h6:=h1 j j1 j2 e
   rw [j3] at h6
   exact hO.ntrans _ _ _ h6 h5
theorem downF_done {f:Nat→α} {n i:Nat} (h:downF lt f n i) (k:∀ j,0 < j→j < n→(j-1) / 2=i→lt (f j) (f i)=false):heapF lt f n:=fun j h1 h2=>by
 by_cases e:(j-1) / 2=i
 ·rw [e];exact k j h1 h2 e
 ·exact h.1 j h1 h2 e
theorem downF_step (hO:SWO lt) {f:Nat→α} {n i m:Nat} (h:downF lt f n i) (hm:0 < m) (hn:m < n) (hp:(m-1) / 2=i) (k:lt (f m) (f i)=true) (hmin:∀ j,0 < j→j < n→(j-1) / 2=i→lt (f j) (f m)=false):downF lt (swpF f i m) n m:=by
 obtain ⟨h1,h2⟩:=h
 have him:i≠m:=by omega
 constructor
 ·intro j j1 j2 j3
  by_cases e:j=m
  ·subst e
   rw [hp,swp_a him,swp_b]
   exact swo_asym hO k
  ·by_cases e2:(j-1) / 2=i
   ·have hji:j≠i:=by omega
    rw [e2,swp_a him,swp_o hji e]
    exact hmin j j1 j2 e2
   ·by_cases e3:j=i
    ·subst e3
     rw [swp_a him,swp_o (by omega) (by omega)]
     exact h2 m hm hn hp j1
    ·rw [swp_o e3 e,swp_o e2 j3]
     exact h1 j j1 j2 e2
 ·intro j j1 j2 j3 _
  rw [hp,swp_a him,swp_o (by omega) (by omega)]
  have:=h1 j j1 j2 (by omega)
  rw [j3] at this
  exact this
theorem heap_min (hO:SWO lt) {f:Nat→α} {n:Nat} (h:heapF lt f n):∀ j,j < n→lt (f j) (f 0)=false:=by
 intro j
 induction j using Nat.strongRecOn with
 | _ j ih =>
  intro hj
  by_cases e:j=0
  ·subst e;exact hO.irrefl _
  ·exact hO.ntrans _ _ _ (h j (by omega) hj) (ih ((j-1) / 2) (by omega) (by omega))
theorem up_start {f:Nat→α} {n:Nat} {x:α} (h:heapF lt f n):upF lt (updF f n x) (n+1) n:=by
 constructor
 ·intro j j1 j2 j3
  simp only [updF]
  rw [if_neg j3,if_neg (by omega)]
  exact h j j1 (by omega)
 ·intro j j1 j2 j3 _
  omega
theorem down_start {f:Nat→α} {n:Nat} (h:heapF lt f (n+1)):downF lt (updF f 0 (f n)) n 0:=by
 constructor
 ·intro j j1 j2 j3
  simp only [updF]
  rw [if_neg (by omega),if_neg j3]
  exact h j j1 (by omega)
 ·intro j _ _ _ h0
  omega
end
end Go.Aw
