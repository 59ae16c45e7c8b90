/- Contracts of functions of the given program, by the abstract walk, for law PolicyKeepsUpto: what each one hands back; no condition but those that each theorem states. -/
import Derived.Test.YthpnnkoaomekfaaC5
namespace Go.Aw
open Go.Proofs
set_option maxRecDepth 100000
set_option maxHeartbeats 4000000

theorem getO {α β : Type} {f : α → β} {xs : List α} {n : Nat} (h : n < xs.length) : (xs.map f)[0 + ((n : Nat) : Int).toNat]? = some (f xs[n]) := by simp [h]
def vsz (l : List Sz) : List V := l.map fun s => V.g (tsize s)
theorem vsz_get {l : List Sz} {n : Nat} (h : n < l.length) : (vsz l)[0 + ((n : Nat) : Int).toNat]? = some (V.g (tsize l[n])) := getO (f := fun s => V.g (tsize s)) h
theorem vsz_set {l : List Sz} {n : Nat} {s : Sz} : (vsz l).set (0 + ((n : Nat) : Int).toNat) (V.g (tsize s)) = vsz (l.set n s) := by simp [vsz, List.map_set]
theorem vsz_getA {l j : List Sz} {n : Nat} (h : n < l.length) : (vsz (l ++ j))[0 + ((n : Nat) : Int).toNat]? = some (V.g (tsize l[n])) := by
  rw [vsz_get (by simp; omega), List.getElem_append_left h]
theorem vsz_setA {l j : List Sz} {n : Nat} {s : Sz} (h : n < l.length) : (vsz (l ++ j)).set (0 + ((n : Nat) : Int).toNat) (V.g (tsize s)) = vsz (l.set n s ++ j) := by
  rw [vsz_set, List.set_append_left _ _ h]
theorem vsz_app {a b : List Sz} : vsz (a ++ b) = vsz a ++ vsz b := by simp [vsz]
theorem vsz_rep {n : Nat} {s : Sz} : vsz (List.replicate n s) = List.replicate n (V.g (tsize s)) := by simp [vsz]
theorem vsz_lt {g n : Nat} {l : List Sz} : (Blk.arr g 4 (vsz l)).lt n := Blk.lt_g

theorem c_IndexFuncGB (l : List Sz) (hl : l.length < 1000000000) (q : Sz → Bool) (f : Nat) (C1 C2 : Blk) (hC1 : C1.lt 0) (hC2 : C2.lt 0)
    (hf : ∀ s ∈ l, ACalls Try.prog f [.g (tsize s), .pa 0 0 0 0, .pa 1 0 0 0] [C1, C2] (fun r h => r = .g (.b (q s)) ∧ h = [C1, C2])) :
    ACalls Try.prog 145 [sizes l, .fn f [.pa 0 0 0 0, .pa 1 0 0 0]] [C1, C2] (fun r h => (∃ i : Nat, r = .g (.i i) ∧ (∃ hi : i < l.length, q l[i] = true ∧ ∀ s ∈ l.take i, q s = false) ∧ h = [C1, C2]) ∨ (r = .g (.i (-1)) ∧ (∀ s ∈ l, q s = false) ∧ h = [C1, C2])) := by
  refine k_slices_IndexFunc_LSize_Size.calls ?_
  have hm : (l.map tsize).length = l.length := by simp
  (try conv => whnf); repeat ((first | refine And.intro (show cellsAll _ _ from by repeat (first | exact trivial | refine ⟨⟨rfl, rfl⟩, ?_⟩)) ?_ | refine ⟨_, getZ (by omega), ?_⟩ | refine ⟨_, getI (by omega) (by omega), ?_⟩ | refine ⟨by omega, rfl, ?_⟩ | refine ⟨by (simp; omega), rfl, ?_⟩ | refine ⟨rfl, _, rfl, ⟨rfl, rfl, by decide⟩, ?_⟩ | refine ⟨rfl, _, rfl, ?_⟩ | refine ⟨rfl, _, getO (by omega), ?_⟩ | refine ⟨rfl, ⟨by omega, by omega, by omega⟩, ?_⟩ | refine ⟨⟨rfl, rfl⟩, ?_⟩ | refine ⟨⟨rfl, rfl, rfl⟩, ?_⟩ | refine ⟨⟨rfl, rfl, by decide⟩, ?_⟩ | refine ⟨rfl, ?_⟩ | refine ⟨⟨by omega, by omega⟩, ⟨rfl, rfl⟩, ?_⟩ | refine ⟨in64 (by omega) (by omega), ?_⟩ | refine Br.dec (fun _ => ?_) (fun hh => absurd (by omega) hh) | refine Br.dec (fun hh => absurd hh (by omega)) (fun _ => ?_) | refine Br.eq (fun _ => ?_) (fun hh => absurd (by omega) hh) | refine Br.eq (fun hh => absurd hh (by omega)) (fun _ => ?_) | refine Br.ne (fun _ => ?_) (fun hh => absurd (by omega) hh) | refine Br.ne (fun hh => absurd hh (by omega)) (fun _ => ?_) | refine ⟨_, rfl, ?_⟩ | rw [← List.map_drop, ← List.map_take]); conv => whnf)
  refine SW.loopR (α := Nat) (fun k => tm 19 [(0, sizes l), (1, .fn f [.pa 0 0 0 0, .pa 1 0 0 0]), (6, sizes l), (7, .g (.i l.length)), (8, .g (.i k))]) (fun _ => [C1, C2]) (fun k => k ≤ l.length ∧ ∀ s ∈ l.take k, q s = false) (fun k => l.length - k) 0 ?_ ?_ ?_
  · simp
  · exact Refi.sub rfl (by simp [subT, subV, tm, tmGo, sizes, tsizes])
  · rintro k ⟨hk, hq⟩
    dsimp only at hk hq ⊢
    conv => whnf
    refine Br.dec (fun h1 => ?_) (fun h1 => ?_)
    · have hk' : k < l.length := by omega
      (try conv => whnf); repeat ((first | refine And.intro (show cellsAll _ _ from by repeat (first | exact trivial | refine ⟨⟨rfl, rfl⟩, ?_⟩)) ?_ | refine ⟨_, getZ (by omega), ?_⟩ | refine ⟨_, getI (by omega) (by omega), ?_⟩ | refine ⟨by omega, rfl, ?_⟩ | refine ⟨by (simp; omega), rfl, ?_⟩ | refine ⟨rfl, _, rfl, ⟨rfl, rfl, by decide⟩, ?_⟩ | refine ⟨rfl, _, rfl, ?_⟩ | refine ⟨rfl, _, getO (by omega), ?_⟩ | refine ⟨rfl, ⟨by omega, by omega, by omega⟩, ?_⟩ | refine ⟨⟨rfl, rfl⟩, ?_⟩ | refine ⟨⟨rfl, rfl, rfl⟩, ?_⟩ | refine ⟨⟨rfl, rfl, by decide⟩, ?_⟩ | refine ⟨rfl, ?_⟩ | refine ⟨⟨by omega, by omega⟩, ⟨rfl, rfl⟩, ?_⟩ | refine ⟨in64 (by omega) (by omega), ?_⟩ | refine Br.dec (fun _ => ?_) (fun hh => absurd (by omega) hh) | refine Br.dec (fun hh => absurd hh (by omega)) (fun _ => ?_) | refine Br.eq (fun _ => ?_) (fun hh => absurd (by omega) hh) | refine Br.eq (fun hh => absurd hh (by omega)) (fun _ => ?_) | refine Br.ne (fun _ => ?_) (fun hh => absurd (by omega) hh) | refine Br.ne (fun hh => absurd hh (by omega)) (fun _ => ?_) | refine ⟨_, rfl, ?_⟩ | rw [← List.map_drop, ← List.map_take]); conv => whnf)
      refine ACalls.fl (hf l[k] (List.getElem_mem hk')) [0, 1] rfl rfl rfl (flatH.cons hC1 (flatH.cons hC2 flatH.nil)) (by rintro r h ⟨_, rfl⟩; exact (flatH.cons hC1 (flatH.cons hC2 flatH.nil))) ?_
      rintro r h ⟨rfl, rfl⟩
      conv => whnf
      refine Br.intro (fun h2 => ?_) (fun h2 => ?_)
      · (try conv => whnf); repeat ((first | refine And.intro (show cellsAll _ _ from by repeat (first | exact trivial | refine ⟨⟨rfl, rfl⟩, ?_⟩)) ?_ | refine ⟨_, getZ (by omega), ?_⟩ | refine ⟨_, getI (by omega) (by omega), ?_⟩ | refine ⟨by omega, rfl, ?_⟩ | refine ⟨by (simp; omega), rfl, ?_⟩ | refine ⟨rfl, _, rfl, ⟨rfl, rfl, by decide⟩, ?_⟩ | refine ⟨rfl, _, rfl, ?_⟩ | refine ⟨rfl, _, getO (by omega), ?_⟩ | refine ⟨rfl, ⟨by omega, by omega, by omega⟩, ?_⟩ | refine ⟨⟨rfl, rfl⟩, ?_⟩ | refine ⟨⟨rfl, rfl, rfl⟩, ?_⟩ | refine ⟨⟨rfl, rfl, by decide⟩, ?_⟩ | refine ⟨rfl, ?_⟩ | refine ⟨⟨by omega, by omega⟩, ⟨rfl, rfl⟩, ?_⟩ | refine ⟨in64 (by omega) (by omega), ?_⟩ | refine Br.dec (fun _ => ?_) (fun hh => absurd (by omega) hh) | refine Br.dec (fun hh => absurd hh (by omega)) (fun _ => ?_) | refine Br.eq (fun _ => ?_) (fun hh => absurd (by omega) hh) | refine Br.eq (fun hh => absurd hh (by omega)) (fun _ => ?_) | refine Br.ne (fun _ => ?_) (fun hh => absurd (by omega) hh) | refine Br.ne (fun hh => absurd hh (by omega)) (fun _ => ?_) | refine ⟨_, rfl, ?_⟩ | rw [← List.map_drop, ← List.map_take]); conv => whnf)
        exact ⟨Ends.keep (.inl ⟨k, rfl, ⟨hk', h2, hq⟩, rfl⟩)⟩
      · (try conv => whnf); repeat ((first | refine And.intro (show cellsAll _ _ from by repeat (first | exact trivial | refine ⟨⟨rfl, rfl⟩, ?_⟩)) ?_ | refine ⟨_, getZ (by omega), ?_⟩ | refine ⟨_, getI (by omega) (by omega), ?_⟩ | refine ⟨by omega, rfl, ?_⟩ | refine ⟨by (simp; omega), rfl, ?_⟩ | refine ⟨rfl, _, rfl, ⟨rfl, rfl, by decide⟩, ?_⟩ | refine ⟨rfl, _, rfl, ?_⟩ | refine ⟨rfl, _, getO (by omega), ?_⟩ | refine ⟨rfl, ⟨by omega, by omega, by omega⟩, ?_⟩ | refine ⟨⟨rfl, rfl⟩, ?_⟩ | refine ⟨⟨rfl, rfl, rfl⟩, ?_⟩ | refine ⟨⟨rfl, rfl, by decide⟩, ?_⟩ | refine ⟨rfl, ?_⟩ | refine ⟨⟨by omega, by omega⟩, ⟨rfl, rfl⟩, ?_⟩ | refine ⟨in64 (by omega) (by omega), ?_⟩ | refine Br.dec (fun _ => ?_) (fun hh => absurd (by omega) hh) | refine Br.dec (fun hh => absurd hh (by omega)) (fun _ => ?_) | refine Br.eq (fun _ => ?_) (fun hh => absurd (by omega) hh) | refine Br.eq (fun hh => absurd hh (by omega)) (fun _ => ?_) | refine Br.ne (fun _ => ?_) (fun hh => absurd (by omega) hh) | refine Br.ne (fun hh => absurd hh (by omega)) (fun _ => ?_) | refine ⟨_, rfl, ?_⟩ | rw [← List.map_drop, ← List.map_take]); conv => whnf)
        refine ⟨⟨k + 1, ⟨hk', fun s hs => ?_⟩, by omega, Refi.sub rfl (by simp [subT, subV, tm, tmGo, sizes])⟩⟩
        rw [List.take_succ_eq_append_getElem hk', List.mem_append, List.mem_singleton] at hs
        rcases hs with hs | rfl
        · exact hq s hs
        · exact h2
    · (try conv => whnf); repeat ((first | refine And.intro (show cellsAll _ _ from by repeat (first | exact trivial | refine ⟨⟨rfl, rfl⟩, ?_⟩)) ?_ | refine ⟨_, getZ (by omega), ?_⟩ | refine ⟨_, getI (by omega) (by omega), ?_⟩ | refine ⟨by omega, rfl, ?_⟩ | refine ⟨by (simp; omega), rfl, ?_⟩ | refine ⟨rfl, _, rfl, ⟨rfl, rfl, by decide⟩, ?_⟩ | refine ⟨rfl, _, rfl, ?_⟩ | refine ⟨rfl, _, getO (by omega), ?_⟩ | refine ⟨rfl, ⟨by omega, by omega, by omega⟩, ?_⟩ | refine ⟨⟨rfl, rfl⟩, ?_⟩ | refine ⟨⟨rfl, rfl, rfl⟩, ?_⟩ | refine ⟨⟨rfl, rfl, by decide⟩, ?_⟩ | refine ⟨rfl, ?_⟩ | refine ⟨⟨by omega, by omega⟩, ⟨rfl, rfl⟩, ?_⟩ | refine ⟨in64 (by omega) (by omega), ?_⟩ | refine Br.dec (fun _ => ?_) (fun hh => absurd (by omega) hh) | refine Br.dec (fun hh => absurd hh (by omega)) (fun _ => ?_) | refine Br.eq (fun _ => ?_) (fun hh => absurd (by omega) hh) | refine Br.eq (fun hh => absurd hh (by omega)) (fun _ => ?_) | refine Br.ne (fun _ => ?_) (fun hh => absurd (by omega) hh) | refine Br.ne (fun hh => absurd hh (by omega)) (fun _ => ?_) | refine ⟨_, rfl, ?_⟩ | rw [← List.map_drop, ← List.map_take]); conv => whnf)
      have : k = l.length := by omega
      subst this
      rw [List.take_length] at hq
      exact ⟨Ends.keep (.inr ⟨rfl, hq, rfl⟩)⟩

theorem c_IndexFuncOA (l j0 : List Sz) (g : Nat) (hl : l.length < 1000000000) (q : Sz → Bool) (f : Nat)
    (hf : ∀ s ∈ l, ACalls Try.prog f [.g (tsize s)] [] (fun r h => r = .g (.b (q s)) ∧ h = [])) :
    ACalls Try.prog 145 [.own 0 g 0 l.length, .fn f []] [.arr g 4 (vsz (l ++ j0))] (fun r h => (∃ i : Nat, r = .g (.i i) ∧ (∃ hi : i < l.length, q l[i] = true ∧ ∀ s ∈ l.take i, q s = false) ∧ h = [.arr g 4 (vsz (l ++ j0))]) ∨ (r = .g (.i (-1)) ∧ (∀ s ∈ l, q s = false) ∧ h = [.arr g 4 (vsz (l ++ j0))])) := by
  refine k_slices_IndexFunc_LSize_Size.calls ?_
  (try conv => whnf); repeat ((first | refine And.intro (show cellsAll _ _ from by repeat (first | exact trivial | refine ⟨⟨rfl, rfl⟩, ?_⟩)) ?_ | refine ⟨_, getZ (by omega), ?_⟩ | refine ⟨_, getI (by omega) (by omega), ?_⟩ | refine ⟨by omega, rfl, ?_⟩ | refine ⟨by (simp; omega), rfl, ?_⟩ | refine ⟨rfl, _, rfl, ⟨rfl, rfl, by decide⟩, ?_⟩ | refine ⟨rfl, _, rfl, ?_⟩ | refine ⟨rfl, _, getO (by omega), ?_⟩ | refine ⟨rfl, ⟨by omega, by omega, by omega⟩, ?_⟩ | refine ⟨⟨rfl, rfl⟩, ?_⟩ | refine ⟨⟨rfl, rfl, rfl⟩, ?_⟩ | refine ⟨⟨rfl, rfl, by decide⟩, ?_⟩ | refine ⟨rfl, ?_⟩ | refine ⟨⟨by omega, by omega⟩, ⟨rfl, rfl⟩, ?_⟩ | refine ⟨in64 (by omega) (by omega), ?_⟩ | refine Br.dec (fun _ => ?_) (fun hh => absurd (by omega) hh) | refine Br.dec (fun hh => absurd hh (by omega)) (fun _ => ?_) | refine Br.eq (fun _ => ?_) (fun hh => absurd (by omega) hh) | refine Br.eq (fun hh => absurd hh (by omega)) (fun _ => ?_) | refine Br.ne (fun _ => ?_) (fun hh => absurd (by omega) hh) | refine Br.ne (fun hh => absurd hh (by omega)) (fun _ => ?_) | refine ⟨_, rfl, ?_⟩ | rw [← List.map_drop, ← List.map_take]); conv => whnf)
  refine SW.loopR (α := Nat) (fun k => tm 19 [(0, .own 0 g 0 l.length), (1, .fn f []), (6, .own 0 g 0 l.length), (7, .g (.i l.length)), (8, .g (.i k))]) (fun _ => [.arr g 4 (vsz (l ++ j0))]) (fun k => k ≤ l.length ∧ ∀ s ∈ l.take k, q s = false) (fun k => l.length - k) 0 ?_ ?_ ?_
  · simp
  · exact Refi.sub rfl (by simp [subT, subV, tm, tmGo, sizes, tsizes])
  · rintro k ⟨hk, hq⟩
    dsimp only at hk hq ⊢
    conv => whnf
    refine Br.dec (fun h1 => ?_) (fun h1 => ?_)
    · have hk' : k < l.length := by omega
      conv => whnf
      refine ⟨⟨by omega, by omega⟩, ⟨rfl, rfl⟩, ?_⟩
      conv => whnf
      refine ⟨rfl, _, vsz_getA (by omega), ?_⟩
      (try conv => whnf); repeat ((first | refine And.intro (show cellsAll _ _ from by repeat (first | exact trivial | refine ⟨⟨rfl, rfl⟩, ?_⟩)) ?_ | refine ⟨_, getZ (by omega), ?_⟩ | refine ⟨_, getI (by omega) (by omega), ?_⟩ | refine ⟨by omega, rfl, ?_⟩ | refine ⟨by (simp; omega), rfl, ?_⟩ | refine ⟨rfl, _, rfl, ⟨rfl, rfl, by decide⟩, ?_⟩ | refine ⟨rfl, _, rfl, ?_⟩ | refine ⟨rfl, _, getO (by omega), ?_⟩ | refine ⟨rfl, ⟨by omega, by omega, by omega⟩, ?_⟩ | refine ⟨⟨rfl, rfl⟩, ?_⟩ | refine ⟨⟨rfl, rfl, rfl⟩, ?_⟩ | refine ⟨⟨rfl, rfl, by decide⟩, ?_⟩ | refine ⟨rfl, ?_⟩ | refine ⟨⟨by omega, by omega⟩, ⟨rfl, rfl⟩, ?_⟩ | refine ⟨in64 (by omega) (by omega), ?_⟩ | refine Br.dec (fun _ => ?_) (fun hh => absurd (by omega) hh) | refine Br.dec (fun hh => absurd hh (by omega)) (fun _ => ?_) | refine Br.eq (fun _ => ?_) (fun hh => absurd (by omega) hh) | refine Br.eq (fun hh => absurd hh (by omega)) (fun _ => ?_) | refine Br.ne (fun _ => ?_) (fun hh => absurd (by omega) hh) | refine Br.ne (fun hh => absurd hh (by omega)) (fun _ => ?_) | refine ⟨_, rfl, ?_⟩ | rw [← List.map_drop, ← List.map_take]); conv => whnf)
      refine ACalls.fl (hf l[k] (List.getElem_mem hk')) [] rfl rfl rfl flatH.nil (by rintro r h ⟨_, rfl⟩; exact flatH.nil) ?_
      rintro r h ⟨rfl, rfl⟩
      conv => whnf
      refine Br.intro (fun h2 => ?_) (fun h2 => ?_)
      · (try conv => whnf); repeat ((first | refine And.intro (show cellsAll _ _ from by repeat (first | exact trivial | refine ⟨⟨rfl, rfl⟩, ?_⟩)) ?_ | refine ⟨_, getZ (by omega), ?_⟩ | refine ⟨_, getI (by omega) (by omega), ?_⟩ | refine ⟨by omega, rfl, ?_⟩ | refine ⟨by (simp; omega), rfl, ?_⟩ | refine ⟨rfl, _, rfl, ⟨rfl, rfl, by decide⟩, ?_⟩ | refine ⟨rfl, _, rfl, ?_⟩ | refine ⟨rfl, _, getO (by omega), ?_⟩ | refine ⟨rfl, ⟨by omega, by omega, by omega⟩, ?_⟩ | refine ⟨⟨rfl, rfl⟩, ?_⟩ | refine ⟨⟨rfl, rfl, rfl⟩, ?_⟩ | refine ⟨⟨rfl, rfl, by decide⟩, ?_⟩ | refine ⟨rfl, ?_⟩ | refine ⟨⟨by omega, by omega⟩, ⟨rfl, rfl⟩, ?_⟩ | refine ⟨in64 (by omega) (by omega), ?_⟩ | refine Br.dec (fun _ => ?_) (fun hh => absurd (by omega) hh) | refine Br.dec (fun hh => absurd hh (by omega)) (fun _ => ?_) | refine Br.eq (fun _ => ?_) (fun hh => absurd (by omega) hh) | refine Br.eq (fun hh => absurd hh (by omega)) (fun _ => ?_) | refine Br.ne (fun _ => ?_) (fun hh => absurd (by omega) hh) | refine Br.ne (fun hh => absurd hh (by omega)) (fun _ => ?_) | refine ⟨_, rfl, ?_⟩ | rw [← List.map_drop, ← List.map_take]); conv => whnf)
        exact ⟨Ends.keep (.inl ⟨k, rfl, ⟨hk', h2, hq⟩, rfl⟩)⟩
      · (try conv => whnf); repeat ((first | refine And.intro (show cellsAll _ _ from by repeat (first | exact trivial | refine ⟨⟨rfl, rfl⟩, ?_⟩)) ?_ | refine ⟨_, getZ (by omega), ?_⟩ | refine ⟨_, getI (by omega) (by omega), ?_⟩ | refine ⟨by omega, rfl, ?_⟩ | refine ⟨by (simp; omega), rfl, ?_⟩ | refine ⟨rfl, _, rfl, ⟨rfl, rfl, by decide⟩, ?_⟩ | refine ⟨rfl, _, rfl, ?_⟩ | refine ⟨rfl, _, getO (by omega), ?_⟩ | refine ⟨rfl, ⟨by omega, by omega, by omega⟩, ?_⟩ | refine ⟨⟨rfl, rfl⟩, ?_⟩ | refine ⟨⟨rfl, rfl, rfl⟩, ?_⟩ | refine ⟨⟨rfl, rfl, by decide⟩, ?_⟩ | refine ⟨rfl, ?_⟩ | refine ⟨⟨by omega, by omega⟩, ⟨rfl, rfl⟩, ?_⟩ | refine ⟨in64 (by omega) (by omega), ?_⟩ | refine Br.dec (fun _ => ?_) (fun hh => absurd (by omega) hh) | refine Br.dec (fun hh => absurd hh (by omega)) (fun _ => ?_) | refine Br.eq (fun _ => ?_) (fun hh => absurd (by omega) hh) | refine Br.eq (fun hh => absurd hh (by omega)) (fun _ => ?_) | refine Br.ne (fun _ => ?_) (fun hh => absurd (by omega) hh) | refine Br.ne (fun hh => absurd hh (by omega)) (fun _ => ?_) | refine ⟨_, rfl, ?_⟩ | rw [← List.map_drop, ← List.map_take]); conv => whnf)
        refine ⟨⟨k + 1, ⟨hk', fun s hs => ?_⟩, by omega, Refi.sub rfl (by simp [subT, subV, tm, tmGo, sizes])⟩⟩
        rw [List.take_succ_eq_append_getElem hk', List.mem_append, List.mem_singleton] at hs
        rcases hs with hs | rfl
        · exact hq s hs
        · exact h2
    · (try conv => whnf); repeat ((first | refine And.intro (show cellsAll _ _ from by repeat (first | exact trivial | refine ⟨⟨rfl, rfl⟩, ?_⟩)) ?_ | refine ⟨_, getZ (by omega), ?_⟩ | refine ⟨_, getI (by omega) (by omega), ?_⟩ | refine ⟨by omega, rfl, ?_⟩ | refine ⟨by (simp; omega), rfl, ?_⟩ | refine ⟨rfl, _, rfl, ⟨rfl, rfl, by decide⟩, ?_⟩ | refine ⟨rfl, _, rfl, ?_⟩ | refine ⟨rfl, _, getO (by omega), ?_⟩ | refine ⟨rfl, ⟨by omega, by omega, by omega⟩, ?_⟩ | refine ⟨⟨rfl, rfl⟩, ?_⟩ | refine ⟨⟨rfl, rfl, rfl⟩, ?_⟩ | refine ⟨⟨rfl, rfl, by decide⟩, ?_⟩ | refine ⟨rfl, ?_⟩ | refine ⟨⟨by omega, by omega⟩, ⟨rfl, rfl⟩, ?_⟩ | refine ⟨in64 (by omega) (by omega), ?_⟩ | refine Br.dec (fun _ => ?_) (fun hh => absurd (by omega) hh) | refine Br.dec (fun hh => absurd hh (by omega)) (fun _ => ?_) | refine Br.eq (fun _ => ?_) (fun hh => absurd (by omega) hh) | refine Br.eq (fun hh => absurd hh (by omega)) (fun _ => ?_) | refine Br.ne (fun _ => ?_) (fun hh => absurd (by omega) hh) | refine Br.ne (fun hh => absurd hh (by omega)) (fun _ => ?_) | refine ⟨_, rfl, ?_⟩ | rw [← List.map_drop, ← List.map_take]); conv => whnf)
      have : k = l.length := by omega
      subst this
      rw [List.take_length] at hq
      exact ⟨Ends.keep (.inr ⟨rfl, hq, rfl⟩)⟩

theorem c_IndexFuncOB (l j0 : List Sz) (g : Nat) (hl : l.length < 1000000000) (q : Sz → Bool) (f : Nat) (C1 C2 : Blk) (hC1 : C1.lt 0) (hC2 : C2.lt 0)
    (hf : ∀ s ∈ l, ACalls Try.prog f [.g (tsize s), .pa 0 0 0 0, .pa 1 0 0 0] [C1, C2] (fun r h => r = .g (.b (q s)) ∧ h = [C1, C2])) :
    ACalls Try.prog 145 [.own 0 g 0 l.length, .fn f [.pa 1 0 0 0, .pa 2 0 0 0]] [.arr g 4 (vsz (l ++ j0)), C1, C2] (fun r h => (∃ i : Nat, r = .g (.i i) ∧ (∃ hi : i < l.length, q l[i] = true ∧ ∀ s ∈ l.take i, q s = false) ∧ h = [.arr g 4 (vsz (l ++ j0)), C1, C2]) ∨ (r = .g (.i (-1)) ∧ (∀ s ∈ l, q s = false) ∧ h = [.arr g 4 (vsz (l ++ j0)), C1, C2])) := by
  refine k_slices_IndexFunc_LSize_Size.calls ?_
  (try conv => whnf); repeat ((first | refine And.intro (show cellsAll _ _ from by repeat (first | exact trivial | refine ⟨⟨rfl, rfl⟩, ?_⟩)) ?_ | refine ⟨_, getZ (by omega), ?_⟩ | refine ⟨_, getI (by omega) (by omega), ?_⟩ | refine ⟨by omega, rfl, ?_⟩ | refine ⟨by (simp; omega), rfl, ?_⟩ | refine ⟨rfl, _, rfl, ⟨rfl, rfl, by decide⟩, ?_⟩ | refine ⟨rfl, _, rfl, ?_⟩ | refine ⟨rfl, _, getO (by omega), ?_⟩ | refine ⟨rfl, ⟨by omega, by omega, by omega⟩, ?_⟩ | refine ⟨⟨rfl, rfl⟩, ?_⟩ | refine ⟨⟨rfl, rfl, rfl⟩, ?_⟩ | refine ⟨⟨rfl, rfl, by decide⟩, ?_⟩ | refine ⟨rfl, ?_⟩ | refine ⟨⟨by omega, by omega⟩, ⟨rfl, rfl⟩, ?_⟩ | refine ⟨in64 (by omega) (by omega), ?_⟩ | refine Br.dec (fun _ => ?_) (fun hh => absurd (by omega) hh) | refine Br.dec (fun hh => absurd hh (by omega)) (fun _ => ?_) | refine Br.eq (fun _ => ?_) (fun hh => absurd (by omega) hh) | refine Br.eq (fun hh => absurd hh (by omega)) (fun _ => ?_) | refine Br.ne (fun _ => ?_) (fun hh => absurd (by omega) hh) | refine Br.ne (fun hh => absurd hh (by omega)) (fun _ => ?_) | refine ⟨_, rfl, ?_⟩ | rw [← List.map_drop, ← List.map_take]); conv => whnf)
  refine SW.loopR (α := Nat) (fun k => tm 19 [(0, .own 0 g 0 l.length), (1, .fn f [.pa 1 0 0 0, .pa 2 0 0 0]), (6, .own 0 g 0 l.length), (7, .g (.i l.length)), (8, .g (.i k))]) (fun _ => [.arr g 4 (vsz (l ++ j0)), C1, C2]) (fun k => k ≤ l.length ∧ ∀ s ∈ l.take k, q s = false) (fun k => l.length - k) 0 ?_ ?_ ?_
  · simp
  · exact Refi.sub rfl (by simp [subT, subV, tm, tmGo, sizes, tsizes])
  · rintro k ⟨hk, hq⟩
    dsimp only at hk hq ⊢
    conv => whnf
    refine Br.dec (fun h1 => ?_) (fun h1 => ?_)
    · have hk' : k < l.length := by omega
      conv => whnf
      refine ⟨⟨by omega, by omega⟩, ⟨rfl, rfl⟩, ?_⟩
      conv => whnf
      refine ⟨rfl, _, vsz_getA (by omega), ?_⟩
      (try conv => whnf); repeat ((first | refine And.intro (show cellsAll _ _ from by repeat (first | exact trivial | refine ⟨⟨rfl, rfl⟩, ?_⟩)) ?_ | refine ⟨_, getZ (by omega), ?_⟩ | refine ⟨_, getI (by omega) (by omega), ?_⟩ | refine ⟨by omega, rfl, ?_⟩ | refine ⟨by (simp; omega), rfl, ?_⟩ | refine ⟨rfl, _, rfl, ⟨rfl, rfl, by decide⟩, ?_⟩ | refine ⟨rfl, _, rfl, ?_⟩ | refine ⟨rfl, _, getO (by omega), ?_⟩ | refine ⟨rfl, ⟨by omega, by omega, by omega⟩, ?_⟩ | refine ⟨⟨rfl, rfl⟩, ?_⟩ | refine ⟨⟨rfl, rfl, rfl⟩, ?_⟩ | refine ⟨⟨rfl, rfl, by decide⟩, ?_⟩ | refine ⟨rfl, ?_⟩ | refine ⟨⟨by omega, by omega⟩, ⟨rfl, rfl⟩, ?_⟩ | refine ⟨in64 (by omega) (by omega), ?_⟩ | refine Br.dec (fun _ => ?_) (fun hh => absurd (by omega) hh) | refine Br.dec (fun hh => absurd hh (by omega)) (fun _ => ?_) | refine Br.eq (fun _ => ?_) (fun hh => absurd (by omega) hh) | refine Br.eq (fun hh => absurd hh (by omega)) (fun _ => ?_) | refine Br.ne (fun _ => ?_) (fun hh => absurd (by omega) hh) | refine Br.ne (fun hh => absurd hh (by omega)) (fun _ => ?_) | refine ⟨_, rfl, ?_⟩ | rw [← List.map_drop, ← List.map_take]); conv => whnf)
      refine ACalls.fl (hf l[k] (List.getElem_mem hk')) [1, 2] rfl rfl rfl (flatH.cons hC1 (flatH.cons hC2 flatH.nil)) (by rintro r h ⟨_, rfl⟩; exact (flatH.cons hC1 (flatH.cons hC2 flatH.nil))) ?_
      rintro r h ⟨rfl, rfl⟩
      conv => whnf
      refine Br.intro (fun h2 => ?_) (fun h2 => ?_)
      · (try conv => whnf); repeat ((first | refine And.intro (show cellsAll _ _ from by repeat (first | exact trivial | refine ⟨⟨rfl, rfl⟩, ?_⟩)) ?_ | refine ⟨_, getZ (by omega), ?_⟩ | refine ⟨_, getI (by omega) (by omega), ?_⟩ | refine ⟨by omega, rfl, ?_⟩ | refine ⟨by (simp; omega), rfl, ?_⟩ | refine ⟨rfl, _, rfl, ⟨rfl, rfl, by decide⟩, ?_⟩ | refine ⟨rfl, _, rfl, ?_⟩ | refine ⟨rfl, _, getO (by omega), ?_⟩ | refine ⟨rfl, ⟨by omega, by omega, by omega⟩, ?_⟩ | refine ⟨⟨rfl, rfl⟩, ?_⟩ | refine ⟨⟨rfl, rfl, rfl⟩, ?_⟩ | refine ⟨⟨rfl, rfl, by decide⟩, ?_⟩ | refine ⟨rfl, ?_⟩ | refine ⟨⟨by omega, by omega⟩, ⟨rfl, rfl⟩, ?_⟩ | refine ⟨in64 (by omega) (by omega), ?_⟩ | refine Br.dec (fun _ => ?_) (fun hh => absurd (by omega) hh) | refine Br.dec (fun hh => absurd hh (by omega)) (fun _ => ?_) | refine Br.eq (fun _ => ?_) (fun hh => absurd (by omega) hh) | refine Br.eq (fun hh => absurd hh (by omega)) (fun _ => ?_) | refine Br.ne (fun _ => ?_) (fun hh => absurd (by omega) hh) | refine Br.ne (fun hh => absurd hh (by omega)) (fun _ => ?_) | refine ⟨_, rfl, ?_⟩ | rw [← List.map_drop, ← List.map_take]); conv => whnf)
        exact ⟨Ends.keep (.inl ⟨k, rfl, ⟨hk', h2, hq⟩, rfl⟩)⟩
      · (try conv => whnf); repeat ((first | refine And.intro (show cellsAll _ _ from by repeat (first | exact trivial | refine ⟨⟨rfl, rfl⟩, ?_⟩)) ?_ | refine ⟨_, getZ (by omega), ?_⟩ | refine ⟨_, getI (by omega) (by omega), ?_⟩ | refine ⟨by omega, rfl, ?_⟩ | refine ⟨by (simp; omega), rfl, ?_⟩ | refine ⟨rfl, _, rfl, ⟨rfl, rfl, by decide⟩, ?_⟩ | refine ⟨rfl, _, rfl, ?_⟩ | refine ⟨rfl, _, getO (by omega), ?_⟩ | refine ⟨rfl, ⟨by omega, by omega, by omega⟩, ?_⟩ | refine ⟨⟨rfl, rfl⟩, ?_⟩ | refine ⟨⟨rfl, rfl, rfl⟩, ?_⟩ | refine ⟨⟨rfl, rfl, by decide⟩, ?_⟩ | refine ⟨rfl, ?_⟩ | refine ⟨⟨by omega, by omega⟩, ⟨rfl, rfl⟩, ?_⟩ | refine ⟨in64 (by omega) (by omega), ?_⟩ | refine Br.dec (fun _ => ?_) (fun hh => absurd (by omega) hh) | refine Br.dec (fun hh => absurd hh (by omega)) (fun _ => ?_) | refine Br.eq (fun _ => ?_) (fun hh => absurd (by omega) hh) | refine Br.eq (fun hh => absurd hh (by omega)) (fun _ => ?_) | refine Br.ne (fun _ => ?_) (fun hh => absurd (by omega) hh) | refine Br.ne (fun hh => absurd hh (by omega)) (fun _ => ?_) | refine ⟨_, rfl, ?_⟩ | rw [← List.map_drop, ← List.map_take]); conv => whnf)
        refine ⟨⟨k + 1, ⟨hk', fun s hs => ?_⟩, by omega, Refi.sub rfl (by simp [subT, subV, tm, tmGo, sizes])⟩⟩
        rw [List.take_succ_eq_append_getElem hk', List.mem_append, List.mem_singleton] at hs
        rcases hs with hs | rfl
        · exact hq s hs
        · exact h2
    · (try conv => whnf); repeat ((first | refine And.intro (show cellsAll _ _ from by repeat (first | exact trivial | refine ⟨⟨rfl, rfl⟩, ?_⟩)) ?_ | refine ⟨_, getZ (by omega), ?_⟩ | refine ⟨_, getI (by omega) (by omega), ?_⟩ | refine ⟨by omega, rfl, ?_⟩ | refine ⟨by (simp; omega), rfl, ?_⟩ | refine ⟨rfl, _, rfl, ⟨rfl, rfl, by decide⟩, ?_⟩ | refine ⟨rfl, _, rfl, ?_⟩ | refine ⟨rfl, _, getO (by omega), ?_⟩ | refine ⟨rfl, ⟨by omega, by omega, by omega⟩, ?_⟩ | refine ⟨⟨rfl, rfl⟩, ?_⟩ | refine ⟨⟨rfl, rfl, rfl⟩, ?_⟩ | refine ⟨⟨rfl, rfl, by decide⟩, ?_⟩ | refine ⟨rfl, ?_⟩ | refine ⟨⟨by omega, by omega⟩, ⟨rfl, rfl⟩, ?_⟩ | refine ⟨in64 (by omega) (by omega), ?_⟩ | refine Br.dec (fun _ => ?_) (fun hh => absurd (by omega) hh) | refine Br.dec (fun hh => absurd hh (by omega)) (fun _ => ?_) | refine Br.eq (fun _ => ?_) (fun hh => absurd (by omega) hh) | refine Br.eq (fun hh => absurd hh (by omega)) (fun _ => ?_) | refine Br.ne (fun _ => ?_) (fun hh => absurd (by omega) hh) | refine Br.ne (fun hh => absurd hh (by omega)) (fun _ => ?_) | refine ⟨_, rfl, ?_⟩ | rw [← List.map_drop, ← List.map_take]); conv => whnf)
      have : k = l.length := by omega
      subst this
      rw [List.take_length] at hq
      exact ⟨Ends.keep (.inr ⟨rfl, hq, rfl⟩)⟩

theorem c_DeleteFuncA (l j0 : List Sz) (g : Nat) (hl : l.length < 1000000000) (q : Sz → Bool) (f : Nat)
    (hf : ∀ s ∈ l, ACalls Try.prog f [.g (tsize s)] [] (fun r h => r = .g (.b (q s)) ∧ h = [])) :
    ACalls Try.prog 106 [.own 0 g 0 l.length, .fn f []] [.arr g 4 (vsz (l ++ j0))] (fun r h => ∃ j : List Sz, r = .own 0 g 0 (l.filter fun s => !q s).length ∧ h = [.arr g 4 (vsz ((l.filter fun s => !q s) ++ j))]) := by
  refine k_slices_DeleteFunc_LSize_Size.calls ?_
  conv => whnf
  refine (c_IndexFuncOA l j0 g hl q f hf).mono ?_
  rintro r h (⟨i0, rfl, ⟨hi, hqi, hpre⟩, rfl⟩ | ⟨rfl, hno, rfl⟩)
  · conv => whnf
    skip
    have hf0 : (l.take (i0 + 1)).filter (fun s => !q s) = l.take i0 := by
      rw [List.take_succ_eq_append_getElem hi, List.filter_append, List.filter_eq_self.2 (fun s hs => by rw [hpre s hs]; rfl)]
      simp [hqi]
    (try conv => whnf); repeat ((first | refine And.intro (show cellsAll _ _ from by repeat (first | exact trivial | refine ⟨⟨rfl, rfl⟩, ?_⟩)) ?_ | refine ⟨_, getZ (by omega), ?_⟩ | refine ⟨_, getI (by omega) (by omega), ?_⟩ | refine ⟨by omega, rfl, ?_⟩ | refine ⟨by (simp; omega), rfl, ?_⟩ | refine ⟨rfl, _, rfl, ⟨rfl, rfl, by decide⟩, ?_⟩ | refine ⟨rfl, _, rfl, ?_⟩ | refine ⟨rfl, _, getO (by omega), ?_⟩ | refine ⟨rfl, ⟨by omega, by omega, by omega⟩, ?_⟩ | refine ⟨⟨rfl, rfl⟩, ?_⟩ | refine ⟨⟨rfl, rfl, rfl⟩, ?_⟩ | refine ⟨⟨rfl, rfl, by decide⟩, ?_⟩ | refine ⟨rfl, ?_⟩ | refine ⟨⟨by omega, by omega⟩, ⟨rfl, rfl⟩, ?_⟩ | refine ⟨in64 (by omega) (by omega), ?_⟩ | refine Br.dec (fun _ => ?_) (fun hh => absurd (by omega) hh) | refine Br.dec (fun hh => absurd hh (by omega)) (fun _ => ?_) | refine Br.eq (fun _ => ?_) (fun hh => absurd (by omega) hh) | refine Br.eq (fun hh => absurd hh (by omega)) (fun _ => ?_) | refine Br.ne (fun _ => ?_) (fun hh => absurd (by omega) hh) | refine Br.ne (fun hh => absurd hh (by omega)) (fun _ => ?_) | refine ⟨_, rfl, ?_⟩ | rw [← List.map_drop, ← List.map_take]); conv => whnf)
    refine SW.loopR (α := Nat × List Sz) (fun a => tm 42 [(0, .own 0 g 0 l.length), (1, .fn f []), (5, .g (.i ((l.take a.1).filter fun s => !q s).length)), (6, .g (.i a.1))]) (fun a => [.arr g 4 (vsz (a.2 ++ j0))])
      (fun a => a.1 ≤ l.length ∧ a.2.length = l.length ∧ a.2.take ((l.take a.1).filter fun s => !q s).length = (l.take a.1).filter (fun s => !q s) ∧ a.2.drop a.1 = l.drop a.1) (fun a => l.length - a.1) (i0 + 1, l) ?_ ?_ ?_
    · refine ⟨hi, rfl, ?_, rfl⟩
      dsimp only
      rw [hf0, List.length_take, Nat.min_eq_left (by omega)]
    · refine Refi.sub rfl ?_
      dsimp only
      rw [hf0, List.length_take, Nat.min_eq_left (by omega)]
      simp [subT, subV, tm, tmGo]
    · rintro ⟨k, E⟩ ⟨hk, hE, ht, hd⟩
      dsimp only at hk hE ht hd ⊢
      have hfl : ((l.take k).filter fun s => !q s).length ≤ k := Nat.le_trans (List.length_filter_le _ _) (by simp; omega)
      have hEl : (vsz (E ++ j0)).length = l.length + j0.length := by simp [vsz, hE]
      conv => whnf
      refine Br.dec (fun h1 => ?_) (fun h1 => ?_)
      · have hk' : k < l.length := by omega
        have hEk : E[k]'(by omega) = l[k] := by
          have h2 := congrArg (·[0]?) hd
          simpa [hk', hE] using h2
        have htk : l.take (k + 1) = l.take k ++ [l[k]] := List.take_succ_eq_append_getElem hk'
        conv => whnf
        refine ⟨⟨by omega, by omega⟩, ⟨rfl, rfl⟩, ?_⟩
        conv => whnf
        refine ⟨rfl, _, vsz_getA (by omega), ?_⟩
        rw [hEk]
        (try conv => whnf); repeat ((first | refine And.intro (show cellsAll _ _ from by repeat (first | exact trivial | refine ⟨⟨rfl, rfl⟩, ?_⟩)) ?_ | refine ⟨_, getZ (by omega), ?_⟩ | refine ⟨_, getI (by omega) (by omega), ?_⟩ | refine ⟨by omega, rfl, ?_⟩ | refine ⟨by (simp; omega), rfl, ?_⟩ | refine ⟨rfl, _, rfl, ⟨rfl, rfl, by decide⟩, ?_⟩ | refine ⟨rfl, _, rfl, ?_⟩ | refine ⟨rfl, _, getO (by omega), ?_⟩ | refine ⟨rfl, ⟨by omega, by omega, by omega⟩, ?_⟩ | refine ⟨⟨rfl, rfl⟩, ?_⟩ | refine ⟨⟨rfl, rfl, rfl⟩, ?_⟩ | refine ⟨⟨rfl, rfl, by decide⟩, ?_⟩ | refine ⟨rfl, ?_⟩ | refine ⟨⟨by omega, by omega⟩, ⟨rfl, rfl⟩, ?_⟩ | refine ⟨in64 (by omega) (by omega), ?_⟩ | refine Br.dec (fun _ => ?_) (fun hh => absurd (by omega) hh) | refine Br.dec (fun hh => absurd hh (by omega)) (fun _ => ?_) | refine Br.eq (fun _ => ?_) (fun hh => absurd (by omega) hh) | refine Br.eq (fun hh => absurd hh (by omega)) (fun _ => ?_) | refine Br.ne (fun _ => ?_) (fun hh => absurd (by omega) hh) | refine Br.ne (fun hh => absurd hh (by omega)) (fun _ => ?_) | refine ⟨_, rfl, ?_⟩ | rw [← List.map_drop, ← List.map_take]); conv => whnf)
        refine ACalls.fl (hf l[k] (List.getElem_mem hk')) [] rfl rfl rfl flatH.nil (by rintro r h ⟨_, rfl⟩; exact flatH.nil) ?_
        rintro r h ⟨rfl, rfl⟩
        conv => whnf
        refine Br.not (fun h2 => ?_) (fun h2 => ?_)
        · have e : (l.take (k + 1)).filter (fun s => !q s) = (l.take k).filter (fun s => !q s) ++ [l[k]] := by rw [htk, List.filter_append]; simp [h2]
          (try conv => whnf); repeat ((first | refine And.intro (show cellsAll _ _ from by repeat (first | exact trivial | refine ⟨⟨rfl, rfl⟩, ?_⟩)) ?_ | refine ⟨_, getZ (by omega), ?_⟩ | refine ⟨_, getI (by omega) (by omega), ?_⟩ | refine ⟨by omega, rfl, ?_⟩ | refine ⟨by (simp; omega), rfl, ?_⟩ | refine ⟨rfl, _, rfl, ⟨rfl, rfl, by decide⟩, ?_⟩ | refine ⟨rfl, _, rfl, ?_⟩ | refine ⟨rfl, _, getO (by omega), ?_⟩ | refine ⟨rfl, ⟨by omega, by omega, by omega⟩, ?_⟩ | refine ⟨⟨rfl, rfl⟩, ?_⟩ | refine ⟨⟨rfl, rfl, rfl⟩, ?_⟩ | refine ⟨⟨rfl, rfl, by decide⟩, ?_⟩ | refine ⟨rfl, ?_⟩ | refine ⟨⟨by omega, by omega⟩, ⟨rfl, rfl⟩, ?_⟩ | refine ⟨in64 (by omega) (by omega), ?_⟩ | refine Br.dec (fun _ => ?_) (fun hh => absurd (by omega) hh) | refine Br.dec (fun hh => absurd hh (by omega)) (fun _ => ?_) | refine Br.eq (fun _ => ?_) (fun hh => absurd (by omega) hh) | refine Br.eq (fun hh => absurd hh (by omega)) (fun _ => ?_) | refine Br.ne (fun _ => ?_) (fun hh => absurd (by omega) hh) | refine Br.ne (fun hh => absurd hh (by omega)) (fun _ => ?_) | refine ⟨_, rfl, ?_⟩ | rw [← List.map_drop, ← List.map_take]); conv => whnf)
          refine ⟨_, vsz_getA (by omega), ⟨rfl, rfl, by decide⟩, ?_⟩
          (try conv => whnf); repeat ((first | refine And.intro (show cellsAll _ _ from by repeat (first | exact trivial | refine ⟨⟨rfl, rfl⟩, ?_⟩)) ?_ | refine ⟨_, getZ (by omega), ?_⟩ | refine ⟨_, getI (by omega) (by omega), ?_⟩ | refine ⟨by omega, rfl, ?_⟩ | refine ⟨by (simp; omega), rfl, ?_⟩ | refine ⟨rfl, _, rfl, ⟨rfl, rfl, by decide⟩, ?_⟩ | refine ⟨rfl, _, rfl, ?_⟩ | refine ⟨rfl, _, getO (by omega), ?_⟩ | refine ⟨rfl, ⟨by omega, by omega, by omega⟩, ?_⟩ | refine ⟨⟨rfl, rfl⟩, ?_⟩ | refine ⟨⟨rfl, rfl, rfl⟩, ?_⟩ | refine ⟨⟨rfl, rfl, by decide⟩, ?_⟩ | refine ⟨rfl, ?_⟩ | refine ⟨⟨by omega, by omega⟩, ⟨rfl, rfl⟩, ?_⟩ | refine ⟨in64 (by omega) (by omega), ?_⟩ | refine Br.dec (fun _ => ?_) (fun hh => absurd (by omega) hh) | refine Br.dec (fun hh => absurd hh (by omega)) (fun _ => ?_) | refine Br.eq (fun _ => ?_) (fun hh => absurd (by omega) hh) | refine Br.eq (fun hh => absurd hh (by omega)) (fun _ => ?_) | refine Br.ne (fun _ => ?_) (fun hh => absurd (by omega) hh) | refine Br.ne (fun hh => absurd hh (by omega)) (fun _ => ?_) | refine ⟨_, rfl, ?_⟩ | rw [← List.map_drop, ← List.map_take]); conv => whnf)
          obtain ⟨F, hF⟩ : ∃ F, F = (l.take k).filter fun s => !q s := ⟨_, rfl⟩
          have hp : F.length < E.length := by rw [hF]; omega
          refine ⟨⟨(k + 1, E.set F.length l[k]), ⟨hk', by simp [hE], ?_, ?_⟩, by dsimp only; omega, Refi.back (L := [.arr 0 4 [.g (tsize l[k])]]) ?_ (Nat.le_refl _) (by
              intro x hx
              simp only [List.mem_cons, List.not_mem_nil, or_false] at hx
              rcases hx with rfl
              · exact Blk.lt_g) ?_⟩⟩
          · dsimp only
            rw [← hF] at ht
            rw [e, ← hF, List.length_append, List.length_singleton, List.take_set, List.take_succ_eq_append_getElem hp, ht, List.set_append_right _ _ (Nat.le_refl _)]
            simp
          · dsimp only
            rw [← hF] at hfl
            rw [List.drop_set_of_lt (by omega), ← List.drop_drop, hd]
            simp
          · subst hF
            simp only [List.cons_append, List.nil_append, List.cons.injEq, Blk.arr.injEq, true_and, and_true]
            first | exact ⟨vsz_setA hp, rfl⟩ | exact ⟨vsz_setA hp, rfl, rfl, rfl⟩ | exact ⟨vsz_setA hp, rfl, rfl⟩
          · dsimp only
            rw [e]
            simp [subT, subV, tm, tmGo, cutV, ltB, ltS]
        · have e : (l.take (k + 1)).filter (fun s => !q s) = (l.take k).filter (fun s => !q s) := by rw [htk, List.filter_append]; simp [h2]
          (try conv => whnf); repeat ((first | refine And.intro (show cellsAll _ _ from by repeat (first | exact trivial | refine ⟨⟨rfl, rfl⟩, ?_⟩)) ?_ | refine ⟨_, getZ (by omega), ?_⟩ | refine ⟨_, getI (by omega) (by omega), ?_⟩ | refine ⟨by omega, rfl, ?_⟩ | refine ⟨by (simp; omega), rfl, ?_⟩ | refine ⟨rfl, _, rfl, ⟨rfl, rfl, by decide⟩, ?_⟩ | refine ⟨rfl, _, rfl, ?_⟩ | refine ⟨rfl, _, getO (by omega), ?_⟩ | refine ⟨rfl, ⟨by omega, by omega, by omega⟩, ?_⟩ | refine ⟨⟨rfl, rfl⟩, ?_⟩ | refine ⟨⟨rfl, rfl, rfl⟩, ?_⟩ | refine ⟨⟨rfl, rfl, by decide⟩, ?_⟩ | refine ⟨rfl, ?_⟩ | refine ⟨⟨by omega, by omega⟩, ⟨rfl, rfl⟩, ?_⟩ | refine ⟨in64 (by omega) (by omega), ?_⟩ | refine Br.dec (fun _ => ?_) (fun hh => absurd (by omega) hh) | refine Br.dec (fun hh => absurd hh (by omega)) (fun _ => ?_) | refine Br.eq (fun _ => ?_) (fun hh => absurd (by omega) hh) | refine Br.eq (fun hh => absurd hh (by omega)) (fun _ => ?_) | refine Br.ne (fun _ => ?_) (fun hh => absurd (by omega) hh) | refine Br.ne (fun hh => absurd hh (by omega)) (fun _ => ?_) | refine ⟨_, rfl, ?_⟩ | rw [← List.map_drop, ← List.map_take]); conv => whnf)
          refine ⟨⟨(k + 1, E), ⟨hk', hE, by dsimp only; rw [e]; exact ht, by dsimp only; rw [← List.drop_drop, hd]; simp⟩, by dsimp only; omega, Refi.back (L := [.arr 0 4 [.g (tsize l[k])]]) rfl (Nat.le_refl _) (by
              intro x hx
              simp only [List.mem_cons, List.not_mem_nil, or_false] at hx
              rcases hx with rfl
              · exact Blk.lt_g) ?_⟩⟩
          dsimp only
          rw [e]
          simp [subT, subV, tm, tmGo, cutV, ltB, ltS]
      · have : k = l.length := by omega
        subst this
        rw [List.take_length] at ht hfl ⊢
        (try conv => whnf); repeat ((first | refine And.intro (show cellsAll _ _ from by repeat (first | exact trivial | refine ⟨⟨rfl, rfl⟩, ?_⟩)) ?_ | refine ⟨_, getZ (by omega), ?_⟩ | refine ⟨_, getI (by omega) (by omega), ?_⟩ | refine ⟨by omega, rfl, ?_⟩ | refine ⟨by (simp; omega), rfl, ?_⟩ | refine ⟨rfl, _, rfl, ⟨rfl, rfl, by decide⟩, ?_⟩ | refine ⟨rfl, _, rfl, ?_⟩ | refine ⟨rfl, _, getO (by omega), ?_⟩ | refine ⟨rfl, ⟨by omega, by omega, by omega⟩, ?_⟩ | refine ⟨⟨rfl, rfl⟩, ?_⟩ | refine ⟨⟨rfl, rfl, rfl⟩, ?_⟩ | refine ⟨⟨rfl, rfl, by decide⟩, ?_⟩ | refine ⟨rfl, ?_⟩ | refine ⟨⟨by omega, by omega⟩, ⟨rfl, rfl⟩, ?_⟩ | refine ⟨in64 (by omega) (by omega), ?_⟩ | refine Br.dec (fun _ => ?_) (fun hh => absurd (by omega) hh) | refine Br.dec (fun hh => absurd hh (by omega)) (fun _ => ?_) | refine Br.eq (fun _ => ?_) (fun hh => absurd (by omega) hh) | refine Br.eq (fun hh => absurd hh (by omega)) (fun _ => ?_) | refine Br.ne (fun _ => ?_) (fun hh => absurd (by omega) hh) | refine Br.ne (fun hh => absurd hh (by omega)) (fun _ => ?_) | refine ⟨_, rfl, ?_⟩ | rw [← List.map_drop, ← List.map_take]); conv => whnf)
        refine ⟨Ends.keep ⟨List.replicate (l.length - (l.filter fun s => !q s).length) ⟨0, 0, 0, false⟩ ++ j0, by simp, ?_⟩⟩
        simp only [Nat.zero_add, Int.toNat_natCast]
        have e1 : (vsz (E ++ j0)).take (l.filter fun s => !q s).length = vsz (l.filter fun s => !q s) := by rw [vsz, ← List.map_take, List.take_append_of_le_length (by omega), ht]; rfl
        have e2 : (vsz (E ++ j0)).drop ((l.filter fun s => !q s).length + (l.length - (l.filter fun s => !q s).length)) = vsz j0 := by
          rw [show (l.filter fun s => !q s).length + (l.length - (l.filter fun s => !q s).length) = E.length from by omega, vsz, ← List.map_drop, List.drop_left]; rfl
        rw [e1, e2, vsz_app, vsz_app, vsz_rep, List.append_assoc]
        rfl
  · conv => whnf
    have e : l.filter (fun s => !q s) = l := List.filter_eq_self.2 fun s hs => by rw [hno s hs]; rfl
    exact ⟨Ends.keep ⟨j0, by rw [e], by rw [e]⟩⟩

theorem c_DeleteFuncB (l j0 : List Sz) (g : Nat) (hl : l.length < 1000000000) (q : Sz → Bool) (f : Nat) (C1 C2 : Blk) (hC1 : C1.lt 0) (hC2 : C2.lt 0)
    (hf : ∀ s ∈ l, ACalls Try.prog f [.g (tsize s), .pa 0 0 0 0, .pa 1 0 0 0] [C1, C2] (fun r h => r = .g (.b (q s)) ∧ h = [C1, C2])) :
    ACalls Try.prog 106 [.own 0 g 0 l.length, .fn f [.pa 1 0 0 0, .pa 2 0 0 0]] [.arr g 4 (vsz (l ++ j0)), C1, C2] (fun r h => ∃ j : List Sz, r = .own 0 g 0 (l.filter fun s => !q s).length ∧ h = [.arr g 4 (vsz ((l.filter fun s => !q s) ++ j)), C1, C2]) := by
  refine k_slices_DeleteFunc_LSize_Size.calls ?_
  conv => whnf
  refine (c_IndexFuncOB l j0 g hl q f C1 C2 hC1 hC2 hf).mono ?_
  rintro r h (⟨i0, rfl, ⟨hi, hqi, hpre⟩, rfl⟩ | ⟨rfl, hno, rfl⟩)
  · conv => whnf
    skip
    have hf0 : (l.take (i0 + 1)).filter (fun s => !q s) = l.take i0 := by
      rw [List.take_succ_eq_append_getElem hi, List.filter_append, List.filter_eq_self.2 (fun s hs => by rw [hpre s hs]; rfl)]
      simp [hqi]
    (try conv => whnf); repeat ((first | refine And.intro (show cellsAll _ _ from by repeat (first | exact trivial | refine ⟨⟨rfl, rfl⟩, ?_⟩)) ?_ | refine ⟨_, getZ (by omega), ?_⟩ | refine ⟨_, getI (by omega) (by omega), ?_⟩ | refine ⟨by omega, rfl, ?_⟩ | refine ⟨by (simp; omega), rfl, ?_⟩ | refine ⟨rfl, _, rfl, ⟨rfl, rfl, by decide⟩, ?_⟩ | refine ⟨rfl, _, rfl, ?_⟩ | refine ⟨rfl, _, getO (by omega), ?_⟩ | refine ⟨rfl, ⟨by omega, by omega, by omega⟩, ?_⟩ | refine ⟨⟨rfl, rfl⟩, ?_⟩ | refine ⟨⟨rfl, rfl, rfl⟩, ?_⟩ | refine ⟨⟨rfl, rfl, by decide⟩, ?_⟩ | refine ⟨rfl, ?_⟩ | refine ⟨⟨by omega, by omega⟩, ⟨rfl, rfl⟩, ?_⟩ | refine ⟨in64 (by omega) (by omega), ?_⟩ | refine Br.dec (fun _ => ?_) (fun hh => absurd (by omega) hh) | refine Br.dec (fun hh => absurd hh (by omega)) (fun _ => ?_) | refine Br.eq (fun _ => ?_) (fun hh => absurd (by omega) hh) | refine Br.eq (fun hh => absurd hh (by omega)) (fun _ => ?_) | refine Br.ne (fun _ => ?_) (fun hh => absurd (by omega) hh) | refine Br.ne (fun hh => absurd hh (by omega)) (fun _ => ?_) | refine ⟨_, rfl, ?_⟩ | rw [← List.map_drop, ← List.map_take]); conv => whnf)
    refine SW.loopR (α := Nat × List Sz) (fun a => tm 42 [(0, .own 0 g 0 l.length), (1, .fn f [.pa 1 0 0 0, .pa 2 0 0 0]), (5, .g (.i ((l.take a.1).filter fun s => !q s).length)), (6, .g (.i a.1))]) (fun a => [.arr g 4 (vsz (a.2 ++ j0)), C1, C2])
      (fun a => a.1 ≤ l.length ∧ a.2.length = l.length ∧ a.2.take ((l.take a.1).filter fun s => !q s).length = (l.take a.1).filter (fun s => !q s) ∧ a.2.drop a.1 = l.drop a.1) (fun a => l.length - a.1) (i0 + 1, l) ?_ ?_ ?_
    · refine ⟨hi, rfl, ?_, rfl⟩
      dsimp only
      rw [hf0, List.length_take, Nat.min_eq_left (by omega)]
    · refine Refi.sub rfl ?_
      dsimp only
      rw [hf0, List.length_take, Nat.min_eq_left (by omega)]
      simp [subT, subV, tm, tmGo]
    · rintro ⟨k, E⟩ ⟨hk, hE, ht, hd⟩
      dsimp only at hk hE ht hd ⊢
      have hfl : ((l.take k).filter fun s => !q s).length ≤ k := Nat.le_trans (List.length_filter_le _ _) (by simp; omega)
      have hEl : (vsz (E ++ j0)).length = l.length + j0.length := by simp [vsz, hE]
      conv => whnf
      refine Br.dec (fun h1 => ?_) (fun h1 => ?_)
      · have hk' : k < l.length := by omega
        have hEk : E[k]'(by omega) = l[k] := by
          have h2 := congrArg (·[0]?) hd
          simpa [hk', hE] using h2
        have htk : l.take (k + 1) = l.take k ++ [l[k]] := List.take_succ_eq_append_getElem hk'
        conv => whnf
        refine ⟨⟨by omega, by omega⟩, ⟨rfl, rfl⟩, ?_⟩
        conv => whnf
        refine ⟨rfl, _, vsz_getA (by omega), ?_⟩
        rw [hEk]
        (try conv => whnf); repeat ((first | refine And.intro (show cellsAll _ _ from by repeat (first | exact trivial | refine ⟨⟨rfl, rfl⟩, ?_⟩)) ?_ | refine ⟨_, getZ (by omega), ?_⟩ | refine ⟨_, getI (by omega) (by omega), ?_⟩ | refine ⟨by omega, rfl, ?_⟩ | refine ⟨by (simp; omega), rfl, ?_⟩ | refine ⟨rfl, _, rfl, ⟨rfl, rfl, by decide⟩, ?_⟩ | refine ⟨rfl, _, rfl, ?_⟩ | refine ⟨rfl, _, getO (by omega), ?_⟩ | refine ⟨rfl, ⟨by omega, by omega, by omega⟩, ?_⟩ | refine ⟨⟨rfl, rfl⟩, ?_⟩ | refine ⟨⟨rfl, rfl, rfl⟩, ?_⟩ | refine ⟨⟨rfl, rfl, by decide⟩, ?_⟩ | refine ⟨rfl, ?_⟩ | refine ⟨⟨by omega, by omega⟩, ⟨rfl, rfl⟩, ?_⟩ | refine ⟨in64 (by omega) (by omega), ?_⟩ | refine Br.dec (fun _ => ?_) (fun hh => absurd (by omega) hh) | refine Br.dec (fun hh => absurd hh (by omega)) (fun _ => ?_) | refine Br.eq (fun _ => ?_) (fun hh => absurd (by omega) hh) | refine Br.eq (fun hh => absurd hh (by omega)) (fun _ => ?_) | refine Br.ne (fun _ => ?_) (fun hh => absurd (by omega) hh) | refine Br.ne (fun hh => absurd hh (by omega)) (fun _ => ?_) | refine ⟨_, rfl, ?_⟩ | rw [← List.map_drop, ← List.map_take]); conv => whnf)
        refine ACalls.fl (hf l[k] (List.getElem_mem hk')) [1, 2] rfl rfl rfl (flatH.cons hC1 (flatH.cons hC2 flatH.nil)) (by rintro r h ⟨_, rfl⟩; exact (flatH.cons hC1 (flatH.cons hC2 flatH.nil))) ?_
        rintro r h ⟨rfl, rfl⟩
        conv => whnf
        refine Br.not (fun h2 => ?_) (fun h2 => ?_)
        · have e : (l.take (k + 1)).filter (fun s => !q s) = (l.take k).filter (fun s => !q s) ++ [l[k]] := by rw [htk, List.filter_append]; simp [h2]
          (try conv => whnf); repeat ((first | refine And.intro (show cellsAll _ _ from by repeat (first | exact trivial | refine ⟨⟨rfl, rfl⟩, ?_⟩)) ?_ | refine ⟨_, getZ (by omega), ?_⟩ | refine ⟨_, getI (by omega) (by omega), ?_⟩ | refine ⟨by omega, rfl, ?_⟩ | refine ⟨by (simp; omega), rfl, ?_⟩ | refine ⟨rfl, _, rfl, ⟨rfl, rfl, by decide⟩, ?_⟩ | refine ⟨rfl, _, rfl, ?_⟩ | refine ⟨rfl, _, getO (by omega), ?_⟩ | refine ⟨rfl, ⟨by omega, by omega, by omega⟩, ?_⟩ | refine ⟨⟨rfl, rfl⟩, ?_⟩ | refine ⟨⟨rfl, rfl, rfl⟩, ?_⟩ | refine ⟨⟨rfl, rfl, by decide⟩, ?_⟩ | refine ⟨rfl, ?_⟩ | refine ⟨⟨by omega, by omega⟩, ⟨rfl, rfl⟩, ?_⟩ | refine ⟨in64 (by omega) (by omega), ?_⟩ | refine Br.dec (fun _ => ?_) (fun hh => absurd (by omega) hh) | refine Br.dec (fun hh => absurd hh (by omega)) (fun _ => ?_) | refine Br.eq (fun _ => ?_) (fun hh => absurd (by omega) hh) | refine Br.eq (fun hh => absurd hh (by omega)) (fun _ => ?_) | refine Br.ne (fun _ => ?_) (fun hh => absurd (by omega) hh) | refine Br.ne (fun hh => absurd hh (by omega)) (fun _ => ?_) | refine ⟨_, rfl, ?_⟩ | rw [← List.map_drop, ← List.map_take]); conv => whnf)
          refine ⟨_, vsz_getA (by omega), ⟨rfl, rfl, by decide⟩, ?_⟩
          (try conv => whnf); repeat ((first | refine And.intro (show cellsAll _ _ from by repeat (first | exact trivial | refine ⟨⟨rfl, rfl⟩, ?_⟩)) ?_ | refine ⟨_, getZ (by omega), ?_⟩ | refine ⟨_, getI (by omega) (by omega), ?_⟩ | refine ⟨by omega, rfl, ?_⟩ | refine ⟨by (simp; omega), rfl, ?_⟩ | refine ⟨rfl, _, rfl, ⟨rfl, rfl, by decide⟩, ?_⟩ | refine ⟨rfl, _, rfl, ?_⟩ | refine ⟨rfl, _, getO (by omega), ?_⟩ | refine ⟨rfl, ⟨by omega, by omega, by omega⟩, ?_⟩ | refine ⟨⟨rfl, rfl⟩, ?_⟩ | refine ⟨⟨rfl, rfl, rfl⟩, ?_⟩ | refine ⟨⟨rfl, rfl, by decide⟩, ?_⟩ | refine ⟨rfl, ?_⟩ | refine ⟨⟨by omega, by omega⟩, ⟨rfl, rfl⟩, ?_⟩ | refine ⟨in64 (by omega) (by omega), ?_⟩ | refine Br.dec (fun _ => ?_) (fun hh => absurd (by omega) hh) | refine Br.dec (fun hh => absurd hh (by omega)) (fun _ => ?_) | refine Br.eq (fun _ => ?_) (fun hh => absurd (by omega) hh) | refine Br.eq (fun hh => absurd hh (by omega)) (fun _ => ?_) | refine Br.ne (fun _ => ?_) (fun hh => absurd (by omega) hh) | refine Br.ne (fun hh => absurd hh (by omega)) (fun _ => ?_) | refine ⟨_, rfl, ?_⟩ | rw [← List.map_drop, ← List.map_take]); conv => whnf)
          obtain ⟨F, hF⟩ : ∃ F, F = (l.take k).filter fun s => !q s := ⟨_, rfl⟩
          have hp : F.length < E.length := by rw [hF]; omega
          refine ⟨⟨(k + 1, E.set F.length l[k]), ⟨hk', by simp [hE], ?_, ?_⟩, by dsimp only; omega, Refi.back (L := [.arr 0 4 [.g (tsize l[k])]]) ?_ (Nat.le_refl _) (by
              intro x hx
              simp only [List.mem_cons, List.not_mem_nil, or_false] at hx
              rcases hx with rfl | rfl | rfl
              · exact Blk.lt_g
              · exact Blk.lt_mono hC1
              · exact Blk.lt_mono hC2) ?_⟩⟩
          · dsimp only
            rw [← hF] at ht
            rw [e, ← hF, List.length_append, List.length_singleton, List.take_set, List.take_succ_eq_append_getElem hp, ht, List.set_append_right _ _ (Nat.le_refl _)]
            simp
          · dsimp only
            rw [← hF] at hfl
            rw [List.drop_set_of_lt (by omega), ← List.drop_drop, hd]
            simp
          · subst hF
            simp only [List.cons_append, List.nil_append, List.cons.injEq, Blk.arr.injEq, true_and, and_true]
            first | exact ⟨vsz_setA hp, rfl⟩ | exact ⟨vsz_setA hp, rfl, rfl, rfl⟩ | exact ⟨vsz_setA hp, rfl, rfl⟩
          · dsimp only
            rw [e]
            simp [subT, subV, tm, tmGo, cutV, ltB, ltS]
        · have e : (l.take (k + 1)).filter (fun s => !q s) = (l.take k).filter (fun s => !q s) := by rw [htk, List.filter_append]; simp [h2]
          (try conv => whnf); repeat ((first | refine And.intro (show cellsAll _ _ from by repeat (first | exact trivial | refine ⟨⟨rfl, rfl⟩, ?_⟩)) ?_ | refine ⟨_, getZ (by omega), ?_⟩ | refine ⟨_, getI (by omega) (by omega), ?_⟩ | refine ⟨by omega, rfl, ?_⟩ | refine ⟨by (simp; omega), rfl, ?_⟩ | refine ⟨rfl, _, rfl, ⟨rfl, rfl, by decide⟩, ?_⟩ | refine ⟨rfl, _, rfl, ?_⟩ | refine ⟨rfl, _, getO (by omega), ?_⟩ | refine ⟨rfl, ⟨by omega, by omega, by omega⟩, ?_⟩ | refine ⟨⟨rfl, rfl⟩, ?_⟩ | refine ⟨⟨rfl, rfl, rfl⟩, ?_⟩ | refine ⟨⟨rfl, rfl, by decide⟩, ?_⟩ | refine ⟨rfl, ?_⟩ | refine ⟨⟨by omega, by omega⟩, ⟨rfl, rfl⟩, ?_⟩ | refine ⟨in64 (by omega) (by omega), ?_⟩ | refine Br.dec (fun _ => ?_) (fun hh => absurd (by omega) hh) | refine Br.dec (fun hh => absurd hh (by omega)) (fun _ => ?_) | refine Br.eq (fun _ => ?_) (fun hh => absurd (by omega) hh) | refine Br.eq (fun hh => absurd hh (by omega)) (fun _ => ?_) | refine Br.ne (fun _ => ?_) (fun hh => absurd (by omega) hh) | refine Br.ne (fun hh => absurd hh (by omega)) (fun _ => ?_) | refine ⟨_, rfl, ?_⟩ | rw [← List.map_drop, ← List.map_take]); conv => whnf)
          refine ⟨⟨(k + 1, E), ⟨hk', hE, by dsimp only; rw [e]; exact ht, by dsimp only; rw [← List.drop_drop, hd]; simp⟩, by dsimp only; omega, Refi.back (L := [.arr 0 4 [.g (tsize l[k])]]) rfl (Nat.le_refl _) (by
              intro x hx
              simp only [List.mem_cons, List.not_mem_nil, or_false] at hx
              rcases hx with rfl | rfl | rfl
              · exact Blk.lt_g
              · exact Blk.lt_mono hC1
              · exact Blk.lt_mono hC2) ?_⟩⟩
          dsimp only
          rw [e]
          simp [subT, subV, tm, tmGo, cutV, ltB, ltS]
      · have : k = l.length := by omega
        subst this
        rw [List.take_length] at ht hfl ⊢
        (try conv => whnf); repeat ((first | refine And.intro (show cellsAll _ _ from by repeat (first | exact trivial | refine ⟨⟨rfl, rfl⟩, ?_⟩)) ?_ | refine ⟨_, getZ (by omega), ?_⟩ | refine ⟨_, getI (by omega) (by omega), ?_⟩ | refine ⟨by omega, rfl, ?_⟩ | refine ⟨by (simp; omega), rfl, ?_⟩ | refine ⟨rfl, _, rfl, ⟨rfl, rfl, by decide⟩, ?_⟩ | refine ⟨rfl, _, rfl, ?_⟩ | refine ⟨rfl, _, getO (by omega), ?_⟩ | refine ⟨rfl, ⟨by omega, by omega, by omega⟩, ?_⟩ | refine ⟨⟨rfl, rfl⟩, ?_⟩ | refine ⟨⟨rfl, rfl, rfl⟩, ?_⟩ | refine ⟨⟨rfl, rfl, by decide⟩, ?_⟩ | refine ⟨rfl, ?_⟩ | refine ⟨⟨by omega, by omega⟩, ⟨rfl, rfl⟩, ?_⟩ | refine ⟨in64 (by omega) (by omega), ?_⟩ | refine Br.dec (fun _ => ?_) (fun hh => absurd (by omega) hh) | refine Br.dec (fun hh => absurd hh (by omega)) (fun _ => ?_) | refine Br.eq (fun _ => ?_) (fun hh => absurd (by omega) hh) | refine Br.eq (fun hh => absurd hh (by omega)) (fun _ => ?_) | refine Br.ne (fun _ => ?_) (fun hh => absurd (by omega) hh) | refine Br.ne (fun hh => absurd hh (by omega)) (fun _ => ?_) | refine ⟨_, rfl, ?_⟩ | rw [← List.map_drop, ← List.map_take]); conv => whnf)
        refine ⟨Ends.keep ⟨List.replicate (l.length - (l.filter fun s => !q s).length) ⟨0, 0, 0, false⟩ ++ j0, by simp, ?_⟩⟩
        simp only [Nat.zero_add, Int.toNat_natCast]
        have e1 : (vsz (E ++ j0)).take (l.filter fun s => !q s).length = vsz (l.filter fun s => !q s) := by rw [vsz, ← List.map_take, List.take_append_of_le_length (by omega), ht]; rfl
        have e2 : (vsz (E ++ j0)).drop ((l.filter fun s => !q s).length + (l.length - (l.filter fun s => !q s).length)) = vsz j0 := by
          rw [show (l.filter fun s => !q s).length + (l.length - (l.filter fun s => !q s).length) = E.length from by omega, vsz, ← List.map_drop, List.drop_left]; rfl
        rw [e1, e2, vsz_app, vsz_app, vsz_rep, List.append_assoc]
        rfl
  · conv => whnf
    have e : l.filter (fun s => !q s) = l := List.filter_eq_self.2 fun s hs => by rw [hno s hs]; rfl
    exact ⟨Ends.keep ⟨j0, by rw [e], by rw [e]⟩⟩

theorem c_slices_ContainsFuncB (l : List Sz) (hl : l.length < 1000000000) (q : Sz → Bool) (f : Nat) (C1 C2 : Blk) (hC1 : C1.lt 0) (hC2 : C2.lt 0)
    (hf : ∀ s ∈ l, ACalls Try.prog f [.g (tsize s), .pa 0 0 0 0, .pa 1 0 0 0] [C1, C2] (fun r h => r = .g (.b (q s)) ∧ h = [C1, C2])) :
    ACalls Try.prog 144 [sizes l, .fn f [.pa 0 0 0 0, .pa 1 0 0 0]] [C1, C2] (fun r h => r = .g (.b (l.any q)) ∧ h = [C1, C2]) := by
  refine k_slices_ContainsFunc_LSize_Size.calls ?_
  conv => whnf
  refine (c_IndexFuncGB l hl q f C1 C2 hC1 hC2 hf).mono ?_
  rintro r h (⟨i, rfl, ⟨hi, hq, _⟩, rfl⟩ | ⟨rfl, hno, rfl⟩)
  · (try conv => whnf); repeat ((first | refine And.intro (show cellsAll _ _ from by repeat (first | exact trivial | refine ⟨⟨rfl, rfl⟩, ?_⟩)) ?_ | refine ⟨_, getZ (by omega), ?_⟩ | refine ⟨_, getI (by omega) (by omega), ?_⟩ | refine ⟨by omega, rfl, ?_⟩ | refine ⟨by (simp; omega), rfl, ?_⟩ | refine ⟨rfl, _, rfl, ⟨rfl, rfl, by decide⟩, ?_⟩ | refine ⟨rfl, _, rfl, ?_⟩ | refine ⟨rfl, _, getO (by omega), ?_⟩ | refine ⟨rfl, ⟨by omega, by omega, by omega⟩, ?_⟩ | refine ⟨⟨rfl, rfl⟩, ?_⟩ | refine ⟨⟨rfl, rfl, rfl⟩, ?_⟩ | refine ⟨⟨rfl, rfl, by decide⟩, ?_⟩ | refine ⟨rfl, ?_⟩ | refine ⟨⟨by omega, by omega⟩, ⟨rfl, rfl⟩, ?_⟩ | refine ⟨in64 (by omega) (by omega), ?_⟩ | refine Br.dec (fun _ => ?_) (fun hh => absurd (by omega) hh) | refine Br.dec (fun hh => absurd hh (by omega)) (fun _ => ?_) | refine Br.eq (fun _ => ?_) (fun hh => absurd (by omega) hh) | refine Br.eq (fun hh => absurd hh (by omega)) (fun _ => ?_) | refine Br.ne (fun _ => ?_) (fun hh => absurd (by omega) hh) | refine Br.ne (fun hh => absurd hh (by omega)) (fun _ => ?_) | refine ⟨_, rfl, ?_⟩ | rw [← List.map_drop, ← List.map_take]); conv => whnf)
    have : l.any q = true := List.any_eq_true.2 ⟨_, List.getElem_mem hi, hq⟩
    rw [this]
    exact ⟨Ends.keep ⟨rfl, rfl⟩⟩
  · (try conv => whnf); repeat ((first | refine And.intro (show cellsAll _ _ from by repeat (first | exact trivial | refine ⟨⟨rfl, rfl⟩, ?_⟩)) ?_ | refine ⟨_, getZ (by omega), ?_⟩ | refine ⟨_, getI (by omega) (by omega), ?_⟩ | refine ⟨by omega, rfl, ?_⟩ | refine ⟨by (simp; omega), rfl, ?_⟩ | refine ⟨rfl, _, rfl, ⟨rfl, rfl, by decide⟩, ?_⟩ | refine ⟨rfl, _, rfl, ?_⟩ | refine ⟨rfl, _, getO (by omega), ?_⟩ | refine ⟨rfl, ⟨by omega, by omega, by omega⟩, ?_⟩ | refine ⟨⟨rfl, rfl⟩, ?_⟩ | refine ⟨⟨rfl, rfl, rfl⟩, ?_⟩ | refine ⟨⟨rfl, rfl, by decide⟩, ?_⟩ | refine ⟨rfl, ?_⟩ | refine ⟨⟨by omega, by omega⟩, ⟨rfl, rfl⟩, ?_⟩ | refine ⟨in64 (by omega) (by omega), ?_⟩ | refine Br.dec (fun _ => ?_) (fun hh => absurd (by omega) hh) | refine Br.dec (fun hh => absurd hh (by omega)) (fun _ => ?_) | refine Br.eq (fun _ => ?_) (fun hh => absurd (by omega) hh) | refine Br.eq (fun hh => absurd hh (by omega)) (fun _ => ?_) | refine Br.ne (fun _ => ?_) (fun hh => absurd (by omega) hh) | refine Br.ne (fun hh => absurd hh (by omega)) (fun _ => ?_) | refine ⟨_, rfl, ?_⟩ | rw [← List.map_drop, ← List.map_take]); conv => whnf)
    have : l.any q = false := by rw [← Bool.not_eq_true, List.any_eq_true]; rintro ⟨s, hs, h⟩; rw [hno s hs] at h; cases h
    rw [this]
    exact ⟨Ends.keep ⟨rfl, rfl⟩⟩

/- A CLONE OF ITS OWN -/
theorem c_Clone_sizes (l : List Sz) (hl : l.length < 1000000000) : ACalls Try.prog 63 [sizes l] [] (fun r h => (∃ g, r = .own 0 g 0 l.length ∧ h = [.arr g 4 (vsz l)])) := by
  refine k_slices_Clone_LSize_Size.calls ?_
  conv => whnf
  intro r hr
  conv => whnf
  refine Br.intro (fun h => ?_) (fun h => ?_)
  · conv => whnf
    have : l = [] := by simpa using hr h
    subst this
    exact ⟨Ends.valloc ⟨0, rfl, rfl⟩⟩
  · conv => whnf
    refine ⟨rfl, ?_⟩
    conv => whnf
    refine ⟨by simp; omega, ⟨rfl, rfl, rfl⟩, [], ⟨[], rfl⟩, rfl, ?_⟩
    conv => whnf
    refine ⟨Ends.keep ⟨1, by simp, ?_⟩⟩
    simp [vsz]

def idleS (l : List Sz) : List Sz := l.filter fun s => !s.busy
theorem c_policy_idleS1 (s : Sz) : CG Try.prog 107 [tsize s] (.b s.busy) := by
  refine ⟨k_policy_idleS1.calls ?_⟩
  (try conv => whnf); repeat ((first | refine And.intro (show cellsAll _ _ from by repeat (first | exact trivial | refine ⟨⟨rfl, rfl⟩, ?_⟩)) ?_ | refine ⟨_, getZ (by omega), ?_⟩ | refine ⟨_, getI (by omega) (by omega), ?_⟩ | refine ⟨by omega, rfl, ?_⟩ | refine ⟨by (simp; omega), rfl, ?_⟩ | refine ⟨rfl, _, rfl, ⟨rfl, rfl, by decide⟩, ?_⟩ | refine ⟨rfl, _, rfl, ?_⟩ | refine ⟨rfl, _, getO (by omega), ?_⟩ | refine ⟨rfl, ⟨by omega, by omega, by omega⟩, ?_⟩ | refine ⟨⟨rfl, rfl⟩, ?_⟩ | refine ⟨⟨rfl, rfl, rfl⟩, ?_⟩ | refine ⟨⟨rfl, rfl, by decide⟩, ?_⟩ | refine ⟨rfl, ?_⟩ | refine ⟨⟨by omega, by omega⟩, ⟨rfl, rfl⟩, ?_⟩ | refine ⟨in64 (by omega) (by omega), ?_⟩ | refine Br.dec (fun _ => ?_) (fun hh => absurd (by omega) hh) | refine Br.dec (fun hh => absurd hh (by omega)) (fun _ => ?_) | refine Br.eq (fun _ => ?_) (fun hh => absurd (by omega) hh) | refine Br.eq (fun hh => absurd hh (by omega)) (fun _ => ?_) | refine Br.ne (fun _ => ?_) (fun hh => absurd (by omega) hh) | refine Br.ne (fun hh => absurd hh (by omega)) (fun _ => ?_) | refine ⟨_, rfl, ?_⟩ | rw [← List.map_drop, ← List.map_take]); conv => whnf)
  exact ⟨Ends.ground (H := []) (L := [_]) 0 rfl ⟨rfl, rfl⟩⟩
theorem c_idle_own (l : List Sz) (hl : l.length < 1000000000) : ACalls Try.prog 57 [sizes l] [] (fun r h => ∃ (g : Nat) (j : List Sz), r = .own 0 g 0 (idleS l).length ∧ h = [.arr g 4 (vsz (idleS l ++ j))]) := by
  refine k_policy_idle.calls ?_
  conv => whnf
  refine (c_Clone_sizes l hl).mono ?_
  rintro r h ⟨g, rfl, rfl⟩
  conv => whnf
  have hd := c_DeleteFuncA l [] g hl (fun s => s.busy) 107 fun s _ => (c_policy_idleS1 s).ok
  rw [List.append_nil] at hd
  refine hd.mono ?_
  rintro r h ⟨j, rfl, rfl⟩
  conv => whnf
  exact ⟨Ends.keep ⟨g, j, rfl, rfl⟩⟩

end Go.Aw
namespace Go.Aw
open Go.Proofs
set_option maxRecDepth 100000
set_option maxHeartbeats 4000000

/- A SEGMENT'S LEVEL -/
def lev (per : Nat) : Nat → Nat → Nat
  | 0, _ => 0
  | n + 1, k => if per ≤ k then lev per n (k / per) + 1 else 0
def levS (s : Sz) (per : Int) : Int := (lev per.toNat 64 s.live.toNat : Nat)
theorem lev_fuel {per : Nat} (hp : 2 ≤ per) : ∀ {n m k : Nat}, k ≤ n → k ≤ m → lev per n k = lev per m k
  | 0, 0, _, _, _ => rfl
  | 0, m + 1, k, h, _ => by
    have : k = 0 := by omega
    subst this
    rw [lev, lev, if_neg (by omega)]
  | n + 1, 0, k, _, h => by
    have : k = 0 := by omega
    subst this
    rw [lev, lev, if_neg (by omega)]
  | n + 1, m + 1, k, h1, h2 => by
    rw [lev, lev]
    split
    · rename_i h
      have : k / per < k := Nat.div_lt_self (by omega) (by omega)
      rw [lev_fuel hp (n := n) (m := m) (by omega) (by omega)]
    · rfl
theorem lev_le {per : Nat} (hp : 2 ≤ per) : ∀ {n k : Nat}, k < 2 ^ (n + 1) → ∀ f, lev per f k ≤ n
  | n, k, h, 0 => by simp [lev]
  | 0, k, h, f + 1 => by rw [lev, if_neg (by omega)]; omega
  | n + 1, k, h, f + 1 => by
    rw [lev]
    split
    · have : k / per < 2 ^ (n + 1) := by
        rw [Nat.div_lt_iff_lt_mul (by omega)]
        calc k < 2 ^ (n + 1) * 2 := by rw [← Nat.pow_succ]; exact h
          _ ≤ 2 ^ (n + 1) * per := Nat.mul_le_mul_left _ hp
      have := lev_le hp this f
      omega
    · omega
theorem levS_range {s : Sz} (h : sane s) {per : Int} (hp : 2 ≤ per) : 0 ≤ levS s per ∧ levS s per ≤ 6 := by
  have := sane_live h
  have := lev_le (per := per.toNat) (by omega) (n := 6) (k := s.live.toNat) (by omega) 64
  unfold levS; omega

theorem tdiv_nat (a b : Nat) : (a : Int).tdiv b = ((a / b : Nat) : Int) := by
  rw [Int.tdiv_eq_ediv_of_nonneg (by omega)]; rfl

theorem c_policy_level (s : Sz) (per : Int) (h : sane s) (hp : 2 ≤ per) (hp2 : per ≤ 9223372036854775807) : CG Try.prog 142 [tsize s, .i per] (.i (levS s per)) := by
  refine ⟨k_policy_level.calls ?_⟩
  have hs := sane_live h
  have hc := c_policy_live s h
  obtain ⟨p, rfl⟩ : ∃ p : Nat, per = p := ⟨per.toNat, by omega⟩
  obtain ⟨v, hv⟩ : ∃ v : Nat, s.live = v := ⟨s.live.toNat, by omega⟩
  have hlv : levS s p = (lev p 64 v : Nat) := by simp [levS, hv]
  rw [hlv]
  rw [hv] at hc hs
  (try conv => whnf); repeat ((first | refine (hc).go rfl ?_ | refine ⟨_, (hc).go rfl ⟨rfl, rfl⟩, ?_⟩ | refine And.intro (show cellsAll _ _ from by repeat (first | exact trivial | refine ⟨⟨rfl, rfl⟩, ?_⟩)) ?_ | refine ⟨_, getZ (by omega), ?_⟩ | refine ⟨_, getI (by omega) (by omega), ?_⟩ | refine ⟨by omega, rfl, ?_⟩ | refine ⟨by (simp; omega), rfl, ?_⟩ | refine ⟨rfl, _, rfl, ⟨rfl, rfl, by decide⟩, ?_⟩ | refine ⟨rfl, _, rfl, ?_⟩ | refine ⟨rfl, _, getO (by omega), ?_⟩ | refine ⟨rfl, ⟨by omega, by omega, by omega⟩, ?_⟩ | refine ⟨⟨rfl, rfl⟩, ?_⟩ | refine ⟨⟨rfl, rfl, rfl⟩, ?_⟩ | refine ⟨⟨rfl, rfl, by decide⟩, ?_⟩ | refine ⟨rfl, ?_⟩ | refine ⟨⟨by omega, by omega⟩, ⟨rfl, rfl⟩, ?_⟩ | refine ⟨in64 (by omega) (by omega), ?_⟩ | refine Br.dec (fun _ => ?_) (fun hh => absurd (by omega) hh) | refine Br.dec (fun hh => absurd hh (by omega)) (fun _ => ?_) | refine Br.eq (fun _ => ?_) (fun hh => absurd (by omega) hh) | refine Br.eq (fun hh => absurd hh (by omega)) (fun _ => ?_) | refine Br.ne (fun _ => ?_) (fun hh => absurd (by omega) hh) | refine Br.ne (fun hh => absurd hh (by omega)) (fun _ => ?_) | refine ⟨_, rfl, ?_⟩ | rw [← List.map_drop, ← List.map_take]); conv => whnf)
  refine SW.loop (α := Nat × Nat) (fun a => tm 18 [(1, .g (.i (p : Nat))), (5, .g (.i (a.1 : Nat))), (6, .g (.i (a.2 : Nat)))]) (fun _ => [.arr 0 4 [.g (tsize s)]]) (fun a => a.2 ≤ 64 ∧ a.1 + lev p 64 a.2 = lev p 64 v ∧ a.1 + a.2 ≤ 64) (fun a => a.2) (0, v) ?_ ?_ ?_ ?_
  · dsimp only; omega
  · rfl
  · simp [subT, subV, tm, tmGo]
  · rintro ⟨n, k⟩ ⟨hk, hn, hnk⟩
    dsimp only at hk hn hnk ⊢
    conv => whnf
    refine Br.dec (fun h1 => ?_) (fun h1 => ?_)
    · have h1' : p ≤ k := by omega
      have hd : k / p < k := Nat.div_lt_self (by omega) (by omega)
      have hl : lev p 64 k = lev p 64 (k / p) + 1 := by
        rw [show (64 : Nat) = 63 + 1 from rfl, lev, if_pos h1', lev_fuel (by omega) (n := 63) (m := 63 + 1) (by omega) (by omega)]
      obtain ⟨m, hkp⟩ : ∃ m, k / p = m := ⟨_, rfl⟩
      rw [hkp] at hd hl
      (try conv => whnf); repeat ((first | refine And.intro (show cellsAll _ _ from by repeat (first | exact trivial | refine ⟨⟨rfl, rfl⟩, ?_⟩)) ?_ | refine ⟨_, getZ (by omega), ?_⟩ | refine ⟨_, getI (by omega) (by omega), ?_⟩ | refine ⟨by omega, rfl, ?_⟩ | refine ⟨by (simp; omega), rfl, ?_⟩ | refine ⟨rfl, _, rfl, ⟨rfl, rfl, by decide⟩, ?_⟩ | refine ⟨rfl, _, rfl, ?_⟩ | refine ⟨rfl, _, getO (by omega), ?_⟩ | refine ⟨rfl, ⟨by omega, by omega, by omega⟩, ?_⟩ | refine ⟨⟨rfl, rfl⟩, ?_⟩ | refine ⟨⟨rfl, rfl, rfl⟩, ?_⟩ | refine ⟨⟨rfl, rfl, by decide⟩, ?_⟩ | refine ⟨rfl, ?_⟩ | refine ⟨⟨by omega, by omega⟩, ⟨rfl, rfl⟩, ?_⟩ | refine ⟨in64 (by omega) (by omega), ?_⟩ | refine Br.dec (fun _ => ?_) (fun hh => absurd (by omega) hh) | refine Br.dec (fun hh => absurd hh (by omega)) (fun _ => ?_) | refine Br.eq (fun _ => ?_) (fun hh => absurd (by omega) hh) | refine Br.eq (fun hh => absurd hh (by omega)) (fun _ => ?_) | refine Br.ne (fun _ => ?_) (fun hh => absurd (by omega) hh) | refine Br.ne (fun hh => absurd hh (by omega)) (fun _ => ?_) | refine ⟨_, rfl, ?_⟩ | rw [← List.map_drop, ← List.map_take]); conv => whnf)
      refine ⟨by omega, ?_⟩
      rw [tdiv_nat, hkp]
      (try conv => whnf); repeat ((first | refine And.intro (show cellsAll _ _ from by repeat (first | exact trivial | refine ⟨⟨rfl, rfl⟩, ?_⟩)) ?_ | refine ⟨_, getZ (by omega), ?_⟩ | refine ⟨_, getI (by omega) (by omega), ?_⟩ | refine ⟨by omega, rfl, ?_⟩ | refine ⟨by (simp; omega), rfl, ?_⟩ | refine ⟨rfl, _, rfl, ⟨rfl, rfl, by decide⟩, ?_⟩ | refine ⟨rfl, _, rfl, ?_⟩ | refine ⟨rfl, _, getO (by omega), ?_⟩ | refine ⟨rfl, ⟨by omega, by omega, by omega⟩, ?_⟩ | refine ⟨⟨rfl, rfl⟩, ?_⟩ | refine ⟨⟨rfl, rfl, rfl⟩, ?_⟩ | refine ⟨⟨rfl, rfl, by decide⟩, ?_⟩ | refine ⟨rfl, ?_⟩ | refine ⟨⟨by omega, by omega⟩, ⟨rfl, rfl⟩, ?_⟩ | refine ⟨in64 (by omega) (by omega), ?_⟩ | refine Br.dec (fun _ => ?_) (fun hh => absurd (by omega) hh) | refine Br.dec (fun hh => absurd hh (by omega)) (fun _ => ?_) | refine Br.eq (fun _ => ?_) (fun hh => absurd (by omega) hh) | refine Br.eq (fun hh => absurd hh (by omega)) (fun _ => ?_) | refine Br.ne (fun _ => ?_) (fun hh => absurd (by omega) hh) | refine Br.ne (fun hh => absurd hh (by omega)) (fun _ => ?_) | refine ⟨_, rfl, ?_⟩ | rw [← List.map_drop, ← List.map_take]); conv => whnf)
      exact ⟨⟨(n + 1, m), ⟨by dsimp only; omega, by dsimp only; omega, by dsimp only; omega⟩, hd, rfl, by simp [subT, subV, tm, tmGo]⟩⟩
    · have hl : lev p 64 k = 0 := by rw [show (64 : Nat) = 63 + 1 from rfl, lev, if_neg (by omega)]
      (try conv => whnf); repeat ((first | refine And.intro (show cellsAll _ _ from by repeat (first | exact trivial | refine ⟨⟨rfl, rfl⟩, ?_⟩)) ?_ | refine ⟨_, getZ (by omega), ?_⟩ | refine ⟨_, getI (by omega) (by omega), ?_⟩ | refine ⟨by omega, rfl, ?_⟩ | refine ⟨by (simp; omega), rfl, ?_⟩ | refine ⟨rfl, _, rfl, ⟨rfl, rfl, by decide⟩, ?_⟩ | refine ⟨rfl, _, rfl, ?_⟩ | refine ⟨rfl, _, getO (by omega), ?_⟩ | refine ⟨rfl, ⟨by omega, by omega, by omega⟩, ?_⟩ | refine ⟨⟨rfl, rfl⟩, ?_⟩ | refine ⟨⟨rfl, rfl, rfl⟩, ?_⟩ | refine ⟨⟨rfl, rfl, by decide⟩, ?_⟩ | refine ⟨rfl, ?_⟩ | refine ⟨⟨by omega, by omega⟩, ⟨rfl, rfl⟩, ?_⟩ | refine ⟨in64 (by omega) (by omega), ?_⟩ | refine Br.dec (fun _ => ?_) (fun hh => absurd (by omega) hh) | refine Br.dec (fun hh => absurd hh (by omega)) (fun _ => ?_) | refine Br.eq (fun _ => ?_) (fun hh => absurd (by omega) hh) | refine Br.eq (fun hh => absurd hh (by omega)) (fun _ => ?_) | refine Br.ne (fun _ => ?_) (fun hh => absurd (by omega) hh) | refine Br.ne (fun hh => absurd hh (by omega)) (fun _ => ?_) | refine ⟨_, rfl, ?_⟩ | rw [← List.map_drop, ← List.map_take]); conv => whnf)
      have : n = lev p 64 v := by omega
      subst this
      exact ⟨Ends.ground (H := []) (L := [_]) 0 rfl ⟨rfl, rfl⟩⟩

/- CLOSURES -/
theorem c_policy_tiersS1 (s : Sz) (c : Int × Int) (n : Int) (h : sane s) (hp : 2 ≤ c.1) (hp2 : c.1 ≤ 8) : ACalls Try.prog 141 [.g (tsize s), .pa 0 0 0 0, .pa 1 0 0 0] [.arr 0 2 [.g (ttier c)], .arr 0 1 [.g (.i n)]]
    (fun r h => r = .g (.b (levS s c.1 != n)) ∧ h = [.arr 0 2 [.g (ttier c)], .arr 0 1 [.g (.i n)]]) := by
  refine k_policy_tiersS1.calls ?_
  obtain ⟨c1, c2⟩ := c
  have hc := c_policy_level s c1 h hp (by omega)
  (try conv => whnf); repeat ((first | refine (hc).go rfl ?_ | refine ⟨_, (hc).go rfl ⟨rfl, rfl⟩, ?_⟩ | refine And.intro (show cellsAll _ _ from by repeat (first | exact trivial | refine ⟨⟨rfl, rfl⟩, ?_⟩)) ?_ | refine ⟨_, getZ (by omega), ?_⟩ | refine ⟨_, getI (by omega) (by omega), ?_⟩ | refine ⟨by omega, rfl, ?_⟩ | refine ⟨by (simp; omega), rfl, ?_⟩ | refine ⟨rfl, _, rfl, ⟨rfl, rfl, by decide⟩, ?_⟩ | refine ⟨rfl, _, rfl, ?_⟩ | refine ⟨rfl, _, getO (by omega), ?_⟩ | refine ⟨rfl, ⟨by omega, by omega, by omega⟩, ?_⟩ | refine ⟨⟨rfl, rfl⟩, ?_⟩ | refine ⟨⟨rfl, rfl, rfl⟩, ?_⟩ | refine ⟨⟨rfl, rfl, by decide⟩, ?_⟩ | refine ⟨rfl, ?_⟩ | refine ⟨⟨by omega, by omega⟩, ⟨rfl, rfl⟩, ?_⟩ | refine ⟨in64 (by omega) (by omega), ?_⟩ | refine Br.dec (fun _ => ?_) (fun hh => absurd (by omega) hh) | refine Br.dec (fun hh => absurd hh (by omega)) (fun _ => ?_) | refine Br.eq (fun _ => ?_) (fun hh => absurd (by omega) hh) | refine Br.eq (fun hh => absurd hh (by omega)) (fun _ => ?_) | refine Br.ne (fun _ => ?_) (fun hh => absurd (by omega) hh) | refine Br.ne (fun hh => absurd hh (by omega)) (fun _ => ?_) | refine ⟨_, rfl, ?_⟩ | rw [← List.map_drop, ← List.map_take]); conv => whnf)
  exact ⟨Ends.drop (H := [.arr 0 2 [.g (ttier (c1, c2))], .arr 0 1 [.g (.i n)]]) (H2 := [.arr 0 2 [.g (ttier (c1, c2))], .arr 0 1 [.g (.i n)]]) (L := [_]) rfl (fun _ _ h => .inr h) (fun _ _ _ _ x r hI hL hx => .g (gr_sound r hI hL 0 _ _ x rfl hx)) ⟨rfl, rfl⟩⟩
theorem c_policy_runsS1 (s : Sz) (c : Int × Int) (l : List Sz) (hl : 0 < l.length) (h : sane s) (h0 : sane l[0]) (hp : 2 ≤ c.1) (hp2 : c.1 ≤ 8) : ACalls Try.prog 143 [.g (tsize s), .pa 0 0 0 0, .pa 1 0 0 0] [.arr 0 2 [.g (ttier c)], .arr 0 1 [sizes l]]
    (fun r h => r = .g (.b (s.busy || levS s c.1 != levS l[0] c.1)) ∧ h = [.arr 0 2 [.g (ttier c)], .arr 0 1 [sizes l]]) := by
  refine k_policy_runsS1.calls ?_
  obtain ⟨c1, c2⟩ := c
  have hm : (l.map tsize).length = l.length := by simp
  have hc := c_policy_level s c1 h hp (by omega)
  have hc2 := c_policy_level l[0] c1 h0 hp (by omega)
  obtain ⟨sg, sd, sx, sb⟩ := s
  cases sb
  · (try conv => whnf); repeat ((first | refine (hc).go rfl ?_ | refine ⟨_, (hc).go rfl ⟨rfl, rfl⟩, ?_⟩ | refine (hc2).go rfl ?_ | refine ⟨_, (hc2).go rfl ⟨rfl, rfl⟩, ?_⟩ | refine And.intro (show cellsAll _ _ from by repeat (first | exact trivial | refine ⟨⟨rfl, rfl⟩, ?_⟩)) ?_ | refine ⟨_, getZ (by omega), ?_⟩ | refine ⟨_, getI (by omega) (by omega), ?_⟩ | refine ⟨by omega, rfl, ?_⟩ | refine ⟨by (simp; omega), rfl, ?_⟩ | refine ⟨rfl, _, rfl, ⟨rfl, rfl, by decide⟩, ?_⟩ | refine ⟨rfl, _, rfl, ?_⟩ | refine ⟨rfl, _, getO (by omega), ?_⟩ | refine ⟨rfl, ⟨by omega, by omega, by omega⟩, ?_⟩ | refine ⟨⟨rfl, rfl⟩, ?_⟩ | refine ⟨⟨rfl, rfl, rfl⟩, ?_⟩ | refine ⟨⟨rfl, rfl, by decide⟩, ?_⟩ | refine ⟨rfl, ?_⟩ | refine ⟨⟨by omega, by omega⟩, ⟨rfl, rfl⟩, ?_⟩ | refine ⟨in64 (by omega) (by omega), ?_⟩ | refine Br.dec (fun _ => ?_) (fun hh => absurd (by omega) hh) | refine Br.dec (fun hh => absurd hh (by omega)) (fun _ => ?_) | refine Br.eq (fun _ => ?_) (fun hh => absurd (by omega) hh) | refine Br.eq (fun hh => absurd hh (by omega)) (fun _ => ?_) | refine Br.ne (fun _ => ?_) (fun hh => absurd (by omega) hh) | refine Br.ne (fun hh => absurd hh (by omega)) (fun _ => ?_) | refine ⟨_, rfl, ?_⟩ | rw [← List.map_drop, ← List.map_take]); conv => whnf)
    exact ⟨Ends.drop (H := [.arr 0 2 [.g (ttier (c1, c2))], .arr 0 1 [sizes l]]) (H2 := [.arr 0 2 [.g (ttier (c1, c2))], .arr 0 1 [sizes l]]) (L := [_]) rfl (fun _ _ h => .inr h) (fun _ _ _ _ x r hI hL hx => .g (gr_sound r hI hL 0 _ _ x rfl hx)) ⟨rfl, rfl⟩⟩
  · (try conv => whnf); repeat ((first | refine (hc).go rfl ?_ | refine ⟨_, (hc).go rfl ⟨rfl, rfl⟩, ?_⟩ | refine (hc2).go rfl ?_ | refine ⟨_, (hc2).go rfl ⟨rfl, rfl⟩, ?_⟩ | refine And.intro (show cellsAll _ _ from by repeat (first | exact trivial | refine ⟨⟨rfl, rfl⟩, ?_⟩)) ?_ | refine ⟨_, getZ (by omega), ?_⟩ | refine ⟨_, getI (by omega) (by omega), ?_⟩ | refine ⟨by omega, rfl, ?_⟩ | refine ⟨by (simp; omega), rfl, ?_⟩ | refine ⟨rfl, _, rfl, ⟨rfl, rfl, by decide⟩, ?_⟩ | refine ⟨rfl, _, rfl, ?_⟩ | refine ⟨rfl, _, getO (by omega), ?_⟩ | refine ⟨rfl, ⟨by omega, by omega, by omega⟩, ?_⟩ | refine ⟨⟨rfl, rfl⟩, ?_⟩ | refine ⟨⟨rfl, rfl, rfl⟩, ?_⟩ | refine ⟨⟨rfl, rfl, by decide⟩, ?_⟩ | refine ⟨rfl, ?_⟩ | refine ⟨⟨by omega, by omega⟩, ⟨rfl, rfl⟩, ?_⟩ | refine ⟨in64 (by omega) (by omega), ?_⟩ | refine Br.dec (fun _ => ?_) (fun hh => absurd (by omega) hh) | refine Br.dec (fun hh => absurd hh (by omega)) (fun _ => ?_) | refine Br.eq (fun _ => ?_) (fun hh => absurd (by omega) hh) | refine Br.eq (fun hh => absurd hh (by omega)) (fun _ => ?_) | refine Br.ne (fun _ => ?_) (fun hh => absurd (by omega) hh) | refine Br.ne (fun hh => absurd hh (by omega)) (fun _ => ?_) | refine ⟨_, rfl, ?_⟩ | rw [← List.map_drop, ← List.map_take]); conv => whnf)
    exact ⟨Ends.drop (H := [.arr 0 2 [.g (ttier (c1, c2))], .arr 0 1 [sizes l]]) (H2 := [.arr 0 2 [.g (ttier (c1, c2))], .arr 0 1 [sizes l]]) (L := [_]) rfl (fun _ _ h => .inr h) (fun _ _ _ _ x r hI hL hx => .g (gr_sound r hI hL 0 _ _ x rfl hx)) ⟨rfl, rfl⟩⟩
end Go.Aw
namespace Go.Aw
open Go.Proofs
set_option maxRecDepth 100000
set_option maxHeartbeats 4000000

/- WHAT LIES IN THE CALL'S OWN MEMORY -/
theorem vsz_getD {E : List Sz} {d n : Nat} (h : d + n < E.length) : (vsz E)[d + ((n : Nat) : Int).toNat]? = some (V.g (tsize E[d + n])) := by simp [vsz, h]
theorem gr_vsz {n d b g off len : Nat} {h : List Blk} {E : List Sz} (hb : h[b]? = some (.arr g 4 (vsz E))) (hn : n ≤ b) (hl : off + len ≤ E.length) : gr n h (d + 1) (.own b g off len) = some (tsizes ((E.drop off).take len)) := by
  have hc : n ≤ b ∧ g = g ∧ off + len ≤ (vsz E).length := ⟨hn, rfl, by simpa [vsz] using hl⟩
  rw [gr, hb]
  dsimp only
  rw [if_pos hc]
  have : ((vsz E).drop off).take len = vsz ((E.drop off).take len) := by simp [vsz, List.map_drop, List.map_take]
  rw [this]
  have h2 : (vsz ((E.drop off).take len)).map (gr n h d) = (((E.drop off).take len).map tsize).map some := by
    simp only [vsz, List.map_map]
    refine List.map_congr_left fun x _ => ?_
    cases d <;> rfl
  rw [h2, optL_map_some]; rfl
theorem optL1 {α : Type} {a : Option α} {x : α} (h : a = some x) : optL [a] = some [x] := by rw [h]; rfl
theorem optL2 {α : Type} {a b : Option α} {x y : α} (h : a = some x) (k : b = some y) : optL [a, b] = some [x, y] := by rw [h, k]; rfl

theorem c_gens_own (E : List Sz) (g d m : Nat) (hl : m < 1000000000) (hd : d + m ≤ E.length) :
    ACalls Try.prog 58 [.own 0 g d m] [.arr g 4 (vsz E)] (fun r h => r = .g (tints (gensS ((E.drop d).take m))) ∧ h = [.arr g 4 (vsz E)]) := by
  refine k_policy_gens.calls ?_
  obtain ⟨S, hS⟩ : ∃ S, S = (E.drop d).take m := ⟨_, rfl⟩
  have hSl : S.length = m := by rw [hS]; simp; omega
  have hget : ∀ (k : Nat) (hk : k < m), E[d + k]'(by omega) = S[k]'(by omega) := fun k hk => by subst hS; simp
  rw [← hS]
  (try conv => whnf); repeat ((first | refine And.intro (show cellsAll _ _ from by repeat (first | exact trivial | refine ⟨⟨rfl, rfl⟩, ?_⟩)) ?_ | refine ⟨_, getZ (by omega), ?_⟩ | refine ⟨_, getI (by omega) (by omega), ?_⟩ | refine ⟨by omega, rfl, ?_⟩ | refine ⟨by (simp; omega), rfl, ?_⟩ | refine ⟨rfl, _, rfl, ⟨rfl, rfl, by decide⟩, ?_⟩ | refine ⟨rfl, _, rfl, ?_⟩ | refine ⟨rfl, _, getO (by omega), ?_⟩ | refine ⟨rfl, ⟨by omega, by omega, by omega⟩, ?_⟩ | refine ⟨⟨rfl, rfl⟩, ?_⟩ | refine ⟨⟨rfl, rfl, rfl⟩, ?_⟩ | refine ⟨⟨rfl, rfl, by decide⟩, ?_⟩ | refine ⟨rfl, ?_⟩ | refine ⟨⟨by omega, by omega⟩, ⟨rfl, rfl⟩, ?_⟩ | refine ⟨in64 (by omega) (by omega), ?_⟩ | refine Br.dec (fun _ => ?_) (fun hh => absurd (by omega) hh) | refine Br.dec (fun hh => absurd hh (by omega)) (fun _ => ?_) | refine Br.eq (fun _ => ?_) (fun hh => absurd (by omega) hh) | refine Br.eq (fun hh => absurd hh (by omega)) (fun _ => ?_) | refine Br.ne (fun _ => ?_) (fun hh => absurd (by omega) hh) | refine Br.ne (fun hh => absurd hh (by omega)) (fun _ => ?_) | refine ⟨_, rfl, ?_⟩ | rw [← List.map_drop, ← List.map_take]); conv => whnf)
  refine SW.loopR (α := Nat) (fun k => tm 19 [(3, .own 1 k 0 k), (6, .own 0 g d m), (7, .g (.i m)), (8, .g (.i k))]) (fun k => [.arr g 4 (vsz E), .arr k 1 (vintl (gensS (S.take k)))]) (fun k => k ≤ m) (fun k => m - k) 0 ?_ ?_ ?_
  · exact Nat.zero_le _
  · exact (Refi.valloc 3 1 rfl).trans (Refi.sub rfl (by simp [subT, subV, tm, tmGo, setT]))
  · intro k hk
    dsimp only at hk ⊢
    conv => whnf
    refine Br.dec (fun h => ?_) (fun h => ?_)
    · have hk' : k < m := by omega
      conv => whnf
      refine ⟨⟨by omega, by omega⟩, ⟨rfl, rfl⟩, ?_⟩
      conv => whnf
      refine ⟨rfl, _, vsz_getD (by omega), ?_⟩
      rw [hget k hk']
      (try conv => whnf); repeat ((first | refine And.intro (show cellsAll _ _ from by repeat (first | exact trivial | refine ⟨⟨rfl, rfl⟩, ?_⟩)) ?_ | refine ⟨_, getZ (by omega), ?_⟩ | refine ⟨_, getI (by omega) (by omega), ?_⟩ | refine ⟨by omega, rfl, ?_⟩ | refine ⟨by (simp; omega), rfl, ?_⟩ | refine ⟨rfl, _, rfl, ⟨rfl, rfl, by decide⟩, ?_⟩ | refine ⟨rfl, _, rfl, ?_⟩ | refine ⟨rfl, _, getO (by omega), ?_⟩ | refine ⟨rfl, ⟨by omega, by omega, by omega⟩, ?_⟩ | refine ⟨⟨rfl, rfl⟩, ?_⟩ | refine ⟨⟨rfl, rfl, rfl⟩, ?_⟩ | refine ⟨⟨rfl, rfl, by decide⟩, ?_⟩ | refine ⟨rfl, ?_⟩ | refine ⟨⟨by omega, by omega⟩, ⟨rfl, rfl⟩, ?_⟩ | refine ⟨in64 (by omega) (by omega), ?_⟩ | refine Br.dec (fun _ => ?_) (fun hh => absurd (by omega) hh) | refine Br.dec (fun hh => absurd hh (by omega)) (fun _ => ?_) | refine Br.eq (fun _ => ?_) (fun hh => absurd (by omega) hh) | refine Br.eq (fun hh => absurd hh (by omega)) (fun _ => ?_) | refine Br.ne (fun _ => ?_) (fun hh => absurd (by omega) hh) | refine Br.ne (fun hh => absurd hh (by omega)) (fun _ => ?_) | refine ⟨_, rfl, ?_⟩ | rw [← List.map_drop, ← List.map_take]); conv => whnf)
      refine ⟨by simp; omega, ⟨rfl, rfl, rfl⟩, _, ⟨[], (List.append_nil _).symm⟩, by simp [vintl, gensS, hSl]; omega, ?_⟩
      (try conv => whnf); repeat ((first | refine And.intro (show cellsAll _ _ from by repeat (first | exact trivial | refine ⟨⟨rfl, rfl⟩, ?_⟩)) ?_ | refine ⟨_, getZ (by omega), ?_⟩ | refine ⟨_, getI (by omega) (by omega), ?_⟩ | refine ⟨by omega, rfl, ?_⟩ | refine ⟨by (simp; omega), rfl, ?_⟩ | refine ⟨rfl, _, rfl, ⟨rfl, rfl, by decide⟩, ?_⟩ | refine ⟨rfl, _, rfl, ?_⟩ | refine ⟨rfl, _, getO (by omega), ?_⟩ | refine ⟨rfl, ⟨by omega, by omega, by omega⟩, ?_⟩ | refine ⟨⟨rfl, rfl⟩, ?_⟩ | refine ⟨⟨rfl, rfl, rfl⟩, ?_⟩ | refine ⟨⟨rfl, rfl, by decide⟩, ?_⟩ | refine ⟨rfl, ?_⟩ | refine ⟨⟨by omega, by omega⟩, ⟨rfl, rfl⟩, ?_⟩ | refine ⟨in64 (by omega) (by omega), ?_⟩ | refine Br.dec (fun _ => ?_) (fun hh => absurd (by omega) hh) | refine Br.dec (fun hh => absurd hh (by omega)) (fun _ => ?_) | refine Br.eq (fun _ => ?_) (fun hh => absurd (by omega) hh) | refine Br.eq (fun hh => absurd hh (by omega)) (fun _ => ?_) | refine Br.ne (fun _ => ?_) (fun hh => absurd (by omega) hh) | refine Br.ne (fun hh => absurd hh (by omega)) (fun _ => ?_) | refine ⟨_, rfl, ?_⟩ | rw [← List.map_drop, ← List.map_take]); conv => whnf)
      refine ⟨⟨k + 1, hk', by omega, Refi.back (L := [.arr 0 4 [.g (tsize S[k])]]) ?_ (by simp) (lt_all2 Blk.lt_g Blk.lt_g) ?_⟩⟩
      · rw [gens_take (by omega), vintl_app]; rfl
      · simp [subT, subV, tm, tmGo, cutV, ltB, ltS]
    · (try conv => whnf); repeat ((first | refine And.intro (show cellsAll _ _ from by repeat (first | exact trivial | refine ⟨⟨rfl, rfl⟩, ?_⟩)) ?_ | refine ⟨_, getZ (by omega), ?_⟩ | refine ⟨_, getI (by omega) (by omega), ?_⟩ | refine ⟨by omega, rfl, ?_⟩ | refine ⟨by (simp; omega), rfl, ?_⟩ | refine ⟨rfl, _, rfl, ⟨rfl, rfl, by decide⟩, ?_⟩ | refine ⟨rfl, _, rfl, ?_⟩ | refine ⟨rfl, _, getO (by omega), ?_⟩ | refine ⟨rfl, ⟨by omega, by omega, by omega⟩, ?_⟩ | refine ⟨⟨rfl, rfl⟩, ?_⟩ | refine ⟨⟨rfl, rfl, rfl⟩, ?_⟩ | refine ⟨⟨rfl, rfl, by decide⟩, ?_⟩ | refine ⟨rfl, ?_⟩ | refine ⟨⟨by omega, by omega⟩, ⟨rfl, rfl⟩, ?_⟩ | refine ⟨in64 (by omega) (by omega), ?_⟩ | refine Br.dec (fun _ => ?_) (fun hh => absurd (by omega) hh) | refine Br.dec (fun hh => absurd hh (by omega)) (fun _ => ?_) | refine Br.eq (fun _ => ?_) (fun hh => absurd (by omega) hh) | refine Br.eq (fun hh => absurd hh (by omega)) (fun _ => ?_) | refine Br.ne (fun _ => ?_) (fun hh => absurd (by omega) hh) | refine Br.ne (fun hh => absurd hh (by omega)) (fun _ => ?_) | refine ⟨_, rfl, ?_⟩ | rw [← List.map_drop, ← List.map_take]); conv => whnf)
      have : k = m := by omega
      subst this
      rw [List.take_of_length_le (by omega)]
      refine ⟨Ends.ground (H := [_]) (L := [_]) (t := tints (gensS S)) 1 ?_ ⟨rfl, rfl⟩⟩
      exact gr_vintl rfl (by simp) (by simp [gensS, hSl])

def vls (ls : List (List Int)) : List V := ls.map fun l => V.g (tints l)
theorem vls_app {a b : List (List Int)} : vls (a ++ b) = vls a ++ vls b := by simp [vls]
theorem gr_vls {n d b g len : Nat} {h : List Blk} {ls : List (List Int)} (hb : h[b]? = some (.arr g 1 (vls ls))) (hn : n ≤ b) (hl : len = ls.length) : gr n h (d + 1) (.own b g 0 len) = some (intss ls) :=
  gr_own hb hn hl fun _ _ => gr_g

/- TIERS -/
def chunksS (c : Int × Int) : Nat → List Sz → List (List Int)
  | 0, _ => []
  | f + 1, s => if c.1 ≤ s.length then (if allS (s.take c.1.toNat) ≤ c.2 then [gensS (s.take c.1.toNat)] else []) ++ chunksS c f (s.drop c.1.toNat) else []
theorem chunks_fuel {c : Int × Int} (hc : 1 ≤ c.1) : ∀ {n m : Nat} {s : List Sz}, s.length ≤ n → s.length ≤ m → chunksS c n s = chunksS c m s
  | 0, 0, _, _, _ => rfl
  | 0, m + 1, s, h, _ => by rw [chunksS, chunksS, if_neg (by omega)]
  | n + 1, 0, s, _, h => by rw [chunksS, chunksS, if_neg (by omega)]
  | n + 1, m + 1, s, h1, h2 => by
    rw [chunksS, chunksS]
    split
    · rw [chunks_fuel hc (n := n) (m := m) (by simp; omega) (by simp; omega)]
    · rfl
theorem chunks_len {c : Int × Int} (hc : 1 ≤ c.1) : ∀ {n : Nat} {s : List Sz}, (chunksS c n s).length ≤ s.length
  | 0, s => by simp [chunksS]
  | n + 1, s => by
    rw [chunksS]
    split
    · have := chunks_len hc (n := n) (s := s.drop c.1.toNat)
      rw [List.length_drop] at this
      rw [List.length_append]
      split <;> simp <;> omega
    · simp
def tierN (l : List Sz) (c : Int × Int) (n : Nat) : List (List Int) := chunksS c l.length ((idleS l).filter fun s => decide (levS s c.1 = (n : Int)))
def tiersS (l : List Sz) (c : Int × Int) (n : Nat) : List (List Int) := (List.range n).flatMap (tierN l c)
theorem tiersS_succ {l : List Sz} {c : Int × Int} {n : Nat} : tiersS l c (n + 1) = tiersS l c n ++ tierN l c n := by simp [tiersS, List.range_succ]
theorem idle_len {l : List Sz} : (idleS l).length ≤ l.length := List.length_filter_le _ _
theorem tierN_len {l : List Sz} {c : Int × Int} (hc : 1 ≤ c.1) {n : Nat} : (tierN l c n).length ≤ l.length := Nat.le_trans (chunks_len hc) (Nat.le_trans (List.length_filter_le _ _) idle_len)
theorem tiersS_len {l : List Sz} {c : Int × Int} (hc : 1 ≤ c.1) {n : Nat} : (tiersS l c n).length ≤ n * l.length := by
  induction n with
  | zero => simp [tiersS]
  | succ n ih => rw [tiersS_succ, List.length_append, Nat.succ_mul]; have := tierN_len (l := l) hc (n := n); omega

theorem c_policy_tiers (l : List Sz) (c : Int × Int) (hl : l.length ≤ 1000) (hs : ∀ s ∈ l, sane s) (hp : 2 ≤ c.1) (hp2 : c.1 ≤ 8) (hc2 : -9223372036854775808 ≤ c.2 ∧ c.2 ≤ 9223372036854775807) :
    ACalls Try.prog 103 [sizes l, .g (ttier c)] [] (fun r h => ∃ g : Nat, r = .own 1 g 0 (tiersS l c 64).length ∧ h = [.arr 0 2 [.g (ttier c)], .arr g 1 (vls (tiersS l c 64))]) := by
  refine k_policy_tiers.calls ?_
  obtain ⟨c1, q⟩ := c
  obtain ⟨p, rfl⟩ : ∃ p : Nat, c1 = p := ⟨c1.toNat, by dsimp only at hp; omega⟩
  dsimp only at hp hp2 hc2
  (try conv => whnf); repeat ((first | refine And.intro (show cellsAll _ _ from by repeat (first | exact trivial | refine ⟨⟨rfl, rfl⟩, ?_⟩)) ?_ | refine ⟨_, getZ (by omega), ?_⟩ | refine ⟨_, getI (by omega) (by omega), ?_⟩ | refine ⟨by omega, rfl, ?_⟩ | refine ⟨by (simp; omega), rfl, ?_⟩ | refine ⟨rfl, _, rfl, ⟨rfl, rfl, by decide⟩, ?_⟩ | refine ⟨rfl, _, rfl, ?_⟩ | refine ⟨rfl, _, getO (by omega), ?_⟩ | refine ⟨rfl, ⟨by omega, by omega, by omega⟩, ?_⟩ | refine ⟨⟨rfl, rfl⟩, ?_⟩ | refine ⟨⟨rfl, rfl, rfl⟩, ?_⟩ | refine ⟨⟨rfl, rfl, by decide⟩, ?_⟩ | refine ⟨rfl, ?_⟩ | refine ⟨⟨by omega, by omega⟩, ⟨rfl, rfl⟩, ?_⟩ | refine ⟨in64 (by omega) (by omega), ?_⟩ | refine Br.dec (fun _ => ?_) (fun hh => absurd (by omega) hh) | refine Br.dec (fun hh => absurd hh (by omega)) (fun _ => ?_) | refine Br.eq (fun _ => ?_) (fun hh => absurd (by omega) hh) | refine Br.eq (fun hh => absurd hh (by omega)) (fun _ => ?_) | refine Br.ne (fun _ => ?_) (fun hh => absurd (by omega) hh) | refine Br.ne (fun hh => absurd hh (by omega)) (fun _ => ?_) | refine ⟨_, rfl, ?_⟩ | rw [← List.map_drop, ← List.map_take]); conv => whnf)
  refine SW.loopR (α := Nat) (fun n => tm 41 [(0, sizes l), (3, .pa 0 0 0 0), (5, .own 1 (tiersS l (p, q) n).length 0 (tiersS l (p, q) n).length), (9, .g (.i n))]) (fun n => [.arr 0 2 [.g (ttier (p, q))], .arr (tiersS l (p, q) n).length 1 (vls (tiersS l (p, q) n))]) (fun n => n ≤ 64) (fun n => 64 - n) 0 ?_ ?_ ?_
  · exact Nat.zero_le _
  · exact (Refi.valloc 5 1 rfl).trans (Refi.sub rfl (by simp [subT, subV, tm, tmGo, setT, sizes, tiersS]))
  · intro n hn
    dsimp only at hn ⊢
    conv => whnf
    refine Br.dec (fun h => ?_) (fun h => ?_)
    · have hn' : n < 64 := by omega
      have hbound := tiersS_len (l := l) (c := (p, q)) (by omega) (n := n)
      have hb64 : n * l.length ≤ 64 * 1000 := Nat.mul_le_mul hn hl
      (try conv => whnf); repeat ((first | refine And.intro (show cellsAll _ _ from by repeat (first | exact trivial | refine ⟨⟨rfl, rfl⟩, ?_⟩)) ?_ | refine ⟨_, getZ (by omega), ?_⟩ | refine ⟨_, getI (by omega) (by omega), ?_⟩ | refine ⟨by omega, rfl, ?_⟩ | refine ⟨by (simp; omega), rfl, ?_⟩ | refine ⟨rfl, _, rfl, ⟨rfl, rfl, by decide⟩, ?_⟩ | refine ⟨rfl, _, rfl, ?_⟩ | refine ⟨rfl, _, getO (by omega), ?_⟩ | refine ⟨rfl, ⟨by omega, by omega, by omega⟩, ?_⟩ | refine ⟨⟨rfl, rfl⟩, ?_⟩ | refine ⟨⟨rfl, rfl, rfl⟩, ?_⟩ | refine ⟨⟨rfl, rfl, by decide⟩, ?_⟩ | refine ⟨rfl, ?_⟩ | refine ⟨⟨by omega, by omega⟩, ⟨rfl, rfl⟩, ?_⟩ | refine ⟨in64 (by omega) (by omega), ?_⟩ | refine Br.dec (fun _ => ?_) (fun hh => absurd (by omega) hh) | refine Br.dec (fun hh => absurd hh (by omega)) (fun _ => ?_) | refine Br.eq (fun _ => ?_) (fun hh => absurd (by omega) hh) | refine Br.eq (fun hh => absurd hh (by omega)) (fun _ => ?_) | refine Br.ne (fun _ => ?_) (fun hh => absurd (by omega) hh) | refine Br.ne (fun hh => absurd hh (by omega)) (fun _ => ?_) | refine ⟨_, rfl, ?_⟩ | rw [← List.map_drop, ← List.map_take]); conv => whnf)
      refine ACalls.fl (c_idle_own l (by omega)) [] rfl rfl rfl flatH.nil (by rintro r h ⟨g, j, _, rfl⟩; exact flatH.cons vsz_lt flatH.nil) ?_
      rintro r h ⟨g, j, rfl, rfl⟩
      conv => whnf
      refine ACalls.fl (c_DeleteFuncB (idleS l) j g (by have := idle_len (l := l); omega) (fun s => levS s p != (n : Int)) 141 (.arr 0 2 [.g (ttier (p, q))]) (.arr 0 1 [.g (.i n)]) Blk.lt_g1 Blk.lt_g1 (fun s hsl => c_policy_tiersS1 s (p, q) n (hs s ((List.mem_filter.1 hsl).1)) hp hp2)) [3, 0, 2] rfl rfl rfl
        (flatH.cons vsz_lt (flatH.cons Blk.lt_g1 (flatH.cons Blk.lt_g1 flatH.nil))) (by rintro r h ⟨j, _, rfl⟩; exact flatH.cons vsz_lt (flatH.cons Blk.lt_g1 (flatH.cons Blk.lt_g1 flatH.nil))) ?_
      rintro r h ⟨j, rfl, rfl⟩
      have hfe : ((idleS l).filter fun s => !(levS s p != (n : Int))) = (idleS l).filter fun s => decide (levS s p = (n : Int)) := List.filter_congr fun s _ => by
        by_cases e : levS s p = n
        · simp [e]
        · simp [e]
      rw [hfe]
      have hml : ((idleS l).filter fun s => decide (levS s p = (n : Int))).length ≤ l.length := Nat.le_trans (List.length_filter_le _ _) idle_len
      have hms : ∀ s ∈ (idleS l).filter fun s => decide (levS s p = (n : Int)), sane s := fun s h => hs s ((List.mem_filter.1 (List.mem_filter.1 h).1).1)
      have hT : tiersS l (p, q) (n + 1) = tiersS l (p, q) n ++ chunksS (p, q) l.length ((idleS l).filter fun s => decide (levS s p = (n : Int))) := tiersS_succ
      generalize (idleS l).filter (fun s => decide (levS s p = (n : Int))) = M at hml hms hT
      generalize tiersS l (p, q) n = O at hbound hT
      (try conv => whnf); repeat ((first | refine And.intro (show cellsAll _ _ from by repeat (first | exact trivial | refine ⟨⟨rfl, rfl⟩, ?_⟩)) ?_ | refine ⟨_, getZ (by omega), ?_⟩ | refine ⟨_, getI (by omega) (by omega), ?_⟩ | refine ⟨by omega, rfl, ?_⟩ | refine ⟨by (simp; omega), rfl, ?_⟩ | refine ⟨rfl, _, rfl, ⟨rfl, rfl, by decide⟩, ?_⟩ | refine ⟨rfl, _, rfl, ?_⟩ | refine ⟨rfl, _, getO (by omega), ?_⟩ | refine ⟨rfl, ⟨by omega, by omega, by omega⟩, ?_⟩ | refine ⟨⟨rfl, rfl⟩, ?_⟩ | refine ⟨⟨rfl, rfl, rfl⟩, ?_⟩ | refine ⟨⟨rfl, rfl, by decide⟩, ?_⟩ | refine ⟨rfl, ?_⟩ | refine ⟨⟨by omega, by omega⟩, ⟨rfl, rfl⟩, ?_⟩ | refine ⟨in64 (by omega) (by omega), ?_⟩ | refine Br.dec (fun _ => ?_) (fun hh => absurd (by omega) hh) | refine Br.dec (fun hh => absurd hh (by omega)) (fun _ => ?_) | refine Br.eq (fun _ => ?_) (fun hh => absurd (by omega) hh) | refine Br.eq (fun hh => absurd hh (by omega)) (fun _ => ?_) | refine Br.ne (fun _ => ?_) (fun hh => absurd (by omega) hh) | refine Br.ne (fun hh => absurd hh (by omega)) (fun _ => ?_) | refine ⟨_, rfl, ?_⟩ | rw [← List.map_drop, ← List.map_take]); conv => whnf)
      refine SW.loopR (α := Nat × List (List Int)) (fun a => tm 41 [(0, sizes l), (3, .pa 0 0 0 0), (5, .own 1 a.2.length 0 a.2.length), (7, .own 3 g a.1 (M.length - a.1)), (9, .g (.i n))]) (fun a => [.arr 0 2 [.g (ttier (p, q))], .arr a.2.length 1 (vls a.2), .arr 0 1 [.g (.i n)], .arr g 4 (vsz (M ++ j))])
        (fun a => a.1 ≤ M.length ∧ a.2 ++ chunksS (p, q) l.length (M.drop a.1) = O ++ chunksS (p, q) l.length M ∧ a.2.length ≤ O.length + a.1) (fun a => M.length - a.1) (0, O) ?_ ?_ ?_
      · exact ⟨Nat.zero_le _, rfl, Nat.le_refl _⟩
      · exact Refi.sub rfl (by simp [subT, subV, tm, tmGo, sizes, sig])
      · rintro ⟨d, o⟩ ⟨hd, ho, hol⟩
        dsimp only at hd ho hol ⊢
        (try conv => whnf); repeat ((first | refine And.intro (show cellsAll _ _ from by repeat (first | exact trivial | refine ⟨⟨rfl, rfl⟩, ?_⟩)) ?_ | refine ⟨_, getZ (by omega), ?_⟩ | refine ⟨_, getI (by omega) (by omega), ?_⟩ | refine ⟨by omega, rfl, ?_⟩ | refine ⟨by (simp; omega), rfl, ?_⟩ | refine ⟨rfl, _, rfl, ⟨rfl, rfl, by decide⟩, ?_⟩ | refine ⟨rfl, _, rfl, ?_⟩ | refine ⟨rfl, _, getO (by omega), ?_⟩ | refine ⟨rfl, ⟨by omega, by omega, by omega⟩, ?_⟩ | refine ⟨⟨rfl, rfl⟩, ?_⟩ | refine ⟨⟨rfl, rfl, rfl⟩, ?_⟩ | refine ⟨⟨rfl, rfl, by decide⟩, ?_⟩ | refine ⟨rfl, ?_⟩ | refine ⟨⟨by omega, by omega⟩, ⟨rfl, rfl⟩, ?_⟩ | refine ⟨in64 (by omega) (by omega), ?_⟩ | refine Br.dec (fun _ => ?_) (fun hh => absurd (by omega) hh) | refine Br.dec (fun hh => absurd hh (by omega)) (fun _ => ?_) | refine Br.eq (fun _ => ?_) (fun hh => absurd (by omega) hh) | refine Br.eq (fun hh => absurd hh (by omega)) (fun _ => ?_) | refine Br.ne (fun _ => ?_) (fun hh => absurd (by omega) hh) | refine Br.ne (fun hh => absurd hh (by omega)) (fun _ => ?_) | refine ⟨_, rfl, ?_⟩ | rw [← List.map_drop, ← List.map_take]); conv => whnf)
        refine Br.dec (fun h1 => ?_) (fun h1 => ?_)
        · have hdp : d + p ≤ M.length := by omega
          have hch : chunksS (p, q) l.length (M.drop d) = (if allS ((M.drop d).take p) ≤ q then [gensS ((M.drop d).take p)] else []) ++ chunksS (p, q) l.length (M.drop (d + p)) := by
            rw [chunks_fuel (by dsimp only; omega) (n := l.length) (m := l.length + 1) (by simp; omega) (by simp; omega), chunksS, if_pos (by simp; omega)]
            simp only [Int.toNat_natCast, List.drop_drop]
          have hS : ((M ++ j).drop d).take p = (M.drop d).take p := by rw [List.drop_append_of_le_length hd, List.take_append_of_le_length (by simp; omega)]
          rw [hch] at ho
          have hall := c_policy_all ((M.drop d).take p) (by simp; omega) (fun s h => hms s (List.mem_of_mem_drop (List.mem_of_mem_take h)))
          (try conv => whnf); repeat ((first | refine And.intro (show cellsAll _ _ from by repeat (first | exact trivial | refine ⟨⟨rfl, rfl⟩, ?_⟩)) ?_ | refine ⟨_, getZ (by omega), ?_⟩ | refine ⟨_, getI (by omega) (by omega), ?_⟩ | refine ⟨by omega, rfl, ?_⟩ | refine ⟨by (simp; omega), rfl, ?_⟩ | refine ⟨rfl, _, rfl, ⟨rfl, rfl, by decide⟩, ?_⟩ | refine ⟨rfl, _, rfl, ?_⟩ | refine ⟨rfl, _, getO (by omega), ?_⟩ | refine ⟨rfl, ⟨by omega, by omega, by omega⟩, ?_⟩ | refine ⟨⟨rfl, rfl⟩, ?_⟩ | refine ⟨⟨rfl, rfl, rfl⟩, ?_⟩ | refine ⟨⟨rfl, rfl, by decide⟩, ?_⟩ | refine ⟨rfl, ?_⟩ | refine ⟨⟨by omega, by omega⟩, ⟨rfl, rfl⟩, ?_⟩ | refine ⟨in64 (by omega) (by omega), ?_⟩ | refine Br.dec (fun _ => ?_) (fun hh => absurd (by omega) hh) | refine Br.dec (fun hh => absurd hh (by omega)) (fun _ => ?_) | refine Br.eq (fun _ => ?_) (fun hh => absurd (by omega) hh) | refine Br.eq (fun hh => absurd hh (by omega)) (fun _ => ?_) | refine Br.ne (fun _ => ?_) (fun hh => absurd (by omega) hh) | refine Br.ne (fun hh => absurd hh (by omega)) (fun _ => ?_) | refine ⟨_, rfl, ?_⟩ | rw [← List.map_drop, ← List.map_take]); conv => whnf)
          have hg : gr 0 [.arr 0 2 [.g (ttier (p, q))], .arr o.length 1 (vls o), .arr 0 1 [.g (.i n)], .arr g 4 (vsz (M ++ j))] 1 (.own 3 g d p) = some (tsizes ((M.drop d).take p)) := by
            rw [← hS]; exact gr_vsz rfl (Nat.zero_le _) (by simp; omega)
          refine ⟨_, CG.lend (args := [.own 3 g d p]) hall trivial 1 (optL1 hg) ⟨rfl, rfl⟩, ?_⟩
          (try conv => whnf); repeat ((first | refine And.intro (show cellsAll _ _ from by repeat (first | exact trivial | refine ⟨⟨rfl, rfl⟩, ?_⟩)) ?_ | refine ⟨_, getZ (by omega), ?_⟩ | refine ⟨_, getI (by omega) (by omega), ?_⟩ | refine ⟨by omega, rfl, ?_⟩ | refine ⟨by (simp; omega), rfl, ?_⟩ | refine ⟨rfl, _, rfl, ⟨rfl, rfl, by decide⟩, ?_⟩ | refine ⟨rfl, _, rfl, ?_⟩ | refine ⟨rfl, _, getO (by omega), ?_⟩ | refine ⟨rfl, ⟨by omega, by omega, by omega⟩, ?_⟩ | refine ⟨⟨rfl, rfl⟩, ?_⟩ | refine ⟨⟨rfl, rfl, rfl⟩, ?_⟩ | refine ⟨⟨rfl, rfl, by decide⟩, ?_⟩ | refine ⟨rfl, ?_⟩ | refine ⟨⟨by omega, by omega⟩, ⟨rfl, rfl⟩, ?_⟩ | refine ⟨in64 (by omega) (by omega), ?_⟩ | refine Br.dec (fun _ => ?_) (fun hh => absurd (by omega) hh) | refine Br.dec (fun hh => absurd hh (by omega)) (fun _ => ?_) | refine Br.eq (fun _ => ?_) (fun hh => absurd (by omega) hh) | refine Br.eq (fun hh => absurd hh (by omega)) (fun _ => ?_) | refine Br.ne (fun _ => ?_) (fun hh => absurd (by omega) hh) | refine Br.ne (fun hh => absurd hh (by omega)) (fun _ => ?_) | refine ⟨_, rfl, ?_⟩ | rw [← List.map_drop, ← List.map_take]); conv => whnf)
          refine Br.dec (fun h2 => ?_) (fun h2 => ?_)
          · rw [if_pos h2] at ho
            (try conv => whnf); repeat ((first | refine And.intro (show cellsAll _ _ from by repeat (first | exact trivial | refine ⟨⟨rfl, rfl⟩, ?_⟩)) ?_ | refine ⟨_, getZ (by omega), ?_⟩ | refine ⟨_, getI (by omega) (by omega), ?_⟩ | refine ⟨by omega, rfl, ?_⟩ | refine ⟨by (simp; omega), rfl, ?_⟩ | refine ⟨rfl, _, rfl, ⟨rfl, rfl, by decide⟩, ?_⟩ | refine ⟨rfl, _, rfl, ?_⟩ | refine ⟨rfl, _, getO (by omega), ?_⟩ | refine ⟨rfl, ⟨by omega, by omega, by omega⟩, ?_⟩ | refine ⟨⟨rfl, rfl⟩, ?_⟩ | refine ⟨⟨rfl, rfl, rfl⟩, ?_⟩ | refine ⟨⟨rfl, rfl, by decide⟩, ?_⟩ | refine ⟨rfl, ?_⟩ | refine ⟨⟨by omega, by omega⟩, ⟨rfl, rfl⟩, ?_⟩ | refine ⟨in64 (by omega) (by omega), ?_⟩ | refine Br.dec (fun _ => ?_) (fun hh => absurd (by omega) hh) | refine Br.dec (fun hh => absurd hh (by omega)) (fun _ => ?_) | refine Br.eq (fun _ => ?_) (fun hh => absurd (by omega) hh) | refine Br.eq (fun hh => absurd hh (by omega)) (fun _ => ?_) | refine Br.ne (fun _ => ?_) (fun hh => absurd (by omega) hh) | refine Br.ne (fun hh => absurd hh (by omega)) (fun _ => ?_) | refine ⟨_, rfl, ?_⟩ | rw [← List.map_drop, ← List.map_take]); conv => whnf)
            refine ACalls.fl (c_gens_own (M ++ j) g d p (by omega) (by simp; omega)) [3] rfl rfl rfl (flatH.cons vsz_lt flatH.nil) (by rintro r h ⟨_, rfl⟩; exact flatH.cons vsz_lt flatH.nil) ?_
            rintro r h ⟨rfl, rfl⟩
            rw [hS]
            (try conv => whnf); repeat ((first | refine And.intro (show cellsAll _ _ from by repeat (first | exact trivial | refine ⟨⟨rfl, rfl⟩, ?_⟩)) ?_ | refine ⟨_, getZ (by omega), ?_⟩ | refine ⟨_, getI (by omega) (by omega), ?_⟩ | refine ⟨by omega, rfl, ?_⟩ | refine ⟨by (simp; omega), rfl, ?_⟩ | refine ⟨rfl, _, rfl, ⟨rfl, rfl, by decide⟩, ?_⟩ | refine ⟨rfl, _, rfl, ?_⟩ | refine ⟨rfl, _, getO (by omega), ?_⟩ | refine ⟨rfl, ⟨by omega, by omega, by omega⟩, ?_⟩ | refine ⟨⟨rfl, rfl⟩, ?_⟩ | refine ⟨⟨rfl, rfl, rfl⟩, ?_⟩ | refine ⟨⟨rfl, rfl, by decide⟩, ?_⟩ | refine ⟨rfl, ?_⟩ | refine ⟨⟨by omega, by omega⟩, ⟨rfl, rfl⟩, ?_⟩ | refine ⟨in64 (by omega) (by omega), ?_⟩ | refine Br.dec (fun _ => ?_) (fun hh => absurd (by omega) hh) | refine Br.dec (fun hh => absurd hh (by omega)) (fun _ => ?_) | refine Br.eq (fun _ => ?_) (fun hh => absurd (by omega) hh) | refine Br.eq (fun hh => absurd hh (by omega)) (fun _ => ?_) | refine Br.ne (fun _ => ?_) (fun hh => absurd (by omega) hh) | refine Br.ne (fun hh => absurd hh (by omega)) (fun _ => ?_) | refine ⟨_, rfl, ?_⟩ | rw [← List.map_drop, ← List.map_take]); conv => whnf)
            refine ⟨by simp; omega, ⟨rfl, rfl, rfl⟩, _, ⟨[], (List.append_nil _).symm⟩, by simp [vls], ?_⟩
            (try conv => whnf); repeat ((first | refine And.intro (show cellsAll _ _ from by repeat (first | exact trivial | refine ⟨⟨rfl, rfl⟩, ?_⟩)) ?_ | refine ⟨_, getZ (by omega), ?_⟩ | refine ⟨_, getI (by omega) (by omega), ?_⟩ | refine ⟨by omega, rfl, ?_⟩ | refine ⟨by (simp; omega), rfl, ?_⟩ | refine ⟨rfl, _, rfl, ⟨rfl, rfl, by decide⟩, ?_⟩ | refine ⟨rfl, _, rfl, ?_⟩ | refine ⟨rfl, _, getO (by omega), ?_⟩ | refine ⟨rfl, ⟨by omega, by omega, by omega⟩, ?_⟩ | refine ⟨⟨rfl, rfl⟩, ?_⟩ | refine ⟨⟨rfl, rfl, rfl⟩, ?_⟩ | refine ⟨⟨rfl, rfl, by decide⟩, ?_⟩ | refine ⟨rfl, ?_⟩ | refine ⟨⟨by omega, by omega⟩, ⟨rfl, rfl⟩, ?_⟩ | refine ⟨in64 (by omega) (by omega), ?_⟩ | refine Br.dec (fun _ => ?_) (fun hh => absurd (by omega) hh) | refine Br.dec (fun hh => absurd hh (by omega)) (fun _ => ?_) | refine Br.eq (fun _ => ?_) (fun hh => absurd (by omega) hh) | refine Br.eq (fun hh => absurd hh (by omega)) (fun _ => ?_) | refine Br.ne (fun _ => ?_) (fun hh => absurd (by omega) hh) | refine Br.ne (fun hh => absurd hh (by omega)) (fun _ => ?_) | refine ⟨_, rfl, ?_⟩ | rw [← List.map_drop, ← List.map_take]); conv => whnf)
            refine ⟨⟨(d + p, o ++ [gensS ((M.drop d).take p)]), ⟨by dsimp only; omega, by dsimp only; rw [← ho, List.append_assoc], by simp; omega⟩, by dsimp only; omega, Refi.sub ?_ ?_⟩⟩
            · simp [vls]; rfl
            · simp [subT, subV, tm, tmGo, sizes, sig]; omega
          · rw [if_neg h2, List.nil_append] at ho
            (try conv => whnf); repeat ((first | refine And.intro (show cellsAll _ _ from by repeat (first | exact trivial | refine ⟨⟨rfl, rfl⟩, ?_⟩)) ?_ | refine ⟨_, getZ (by omega), ?_⟩ | refine ⟨_, getI (by omega) (by omega), ?_⟩ | refine ⟨by omega, rfl, ?_⟩ | refine ⟨by (simp; omega), rfl, ?_⟩ | refine ⟨rfl, _, rfl, ⟨rfl, rfl, by decide⟩, ?_⟩ | refine ⟨rfl, _, rfl, ?_⟩ | refine ⟨rfl, _, getO (by omega), ?_⟩ | refine ⟨rfl, ⟨by omega, by omega, by omega⟩, ?_⟩ | refine ⟨⟨rfl, rfl⟩, ?_⟩ | refine ⟨⟨rfl, rfl, rfl⟩, ?_⟩ | refine ⟨⟨rfl, rfl, by decide⟩, ?_⟩ | refine ⟨rfl, ?_⟩ | refine ⟨⟨by omega, by omega⟩, ⟨rfl, rfl⟩, ?_⟩ | refine ⟨in64 (by omega) (by omega), ?_⟩ | refine Br.dec (fun _ => ?_) (fun hh => absurd (by omega) hh) | refine Br.dec (fun hh => absurd hh (by omega)) (fun _ => ?_) | refine Br.eq (fun _ => ?_) (fun hh => absurd (by omega) hh) | refine Br.eq (fun hh => absurd hh (by omega)) (fun _ => ?_) | refine Br.ne (fun _ => ?_) (fun hh => absurd (by omega) hh) | refine Br.ne (fun hh => absurd hh (by omega)) (fun _ => ?_) | refine ⟨_, rfl, ?_⟩ | rw [← List.map_drop, ← List.map_take]); conv => whnf)
            refine ⟨⟨(d + p, o), ⟨by dsimp only; omega, ho, by dsimp only; omega⟩, by dsimp only; omega, Refi.sub rfl ?_⟩⟩
            simp [subT, subV, tm, tmGo, sizes, sig]; omega
        · have hch : chunksS (p, q) l.length (M.drop d) = [] := by
            cases hll : l.length with
            | zero => rfl
            | succ f => rw [chunksS, if_neg (by simp; omega)]
          rw [hch, List.append_nil] at ho
          (try conv => whnf); repeat ((first | refine And.intro (show cellsAll _ _ from by repeat (first | exact trivial | refine ⟨⟨rfl, rfl⟩, ?_⟩)) ?_ | refine ⟨_, getZ (by omega), ?_⟩ | refine ⟨_, getI (by omega) (by omega), ?_⟩ | refine ⟨by omega, rfl, ?_⟩ | refine ⟨by (simp; omega), rfl, ?_⟩ | refine ⟨rfl, _, rfl, ⟨rfl, rfl, by decide⟩, ?_⟩ | refine ⟨rfl, _, rfl, ?_⟩ | refine ⟨rfl, _, getO (by omega), ?_⟩ | refine ⟨rfl, ⟨by omega, by omega, by omega⟩, ?_⟩ | refine ⟨⟨rfl, rfl⟩, ?_⟩ | refine ⟨⟨rfl, rfl, rfl⟩, ?_⟩ | refine ⟨⟨rfl, rfl, by decide⟩, ?_⟩ | refine ⟨rfl, ?_⟩ | refine ⟨⟨by omega, by omega⟩, ⟨rfl, rfl⟩, ?_⟩ | refine ⟨in64 (by omega) (by omega), ?_⟩ | refine Br.dec (fun _ => ?_) (fun hh => absurd (by omega) hh) | refine Br.dec (fun hh => absurd hh (by omega)) (fun _ => ?_) | refine Br.eq (fun _ => ?_) (fun hh => absurd (by omega) hh) | refine Br.eq (fun hh => absurd hh (by omega)) (fun _ => ?_) | refine Br.ne (fun _ => ?_) (fun hh => absurd (by omega) hh) | refine Br.ne (fun hh => absurd hh (by omega)) (fun _ => ?_) | refine ⟨_, rfl, ?_⟩ | rw [← List.map_drop, ← List.map_take]); conv => whnf)
          rw [← hT] at ho
          subst ho
          refine ⟨⟨n + 1, hn', by omega, Refi.back (L := [.arr 0 1 [.g (.i n)], .arr g 4 (vsz (M ++ j))]) rfl (Nat.zero_le _) (lt_all2 Blk.lt_g1 Blk.lt_g) ?_⟩⟩
          simp [subT, subV, tm, tmGo, cutV, ltB, ltS, sizes]
    · (try conv => whnf); repeat ((first | refine And.intro (show cellsAll _ _ from by repeat (first | exact trivial | refine ⟨⟨rfl, rfl⟩, ?_⟩)) ?_ | refine ⟨_, getZ (by omega), ?_⟩ | refine ⟨_, getI (by omega) (by omega), ?_⟩ | refine ⟨by omega, rfl, ?_⟩ | refine ⟨by (simp; omega), rfl, ?_⟩ | refine ⟨rfl, _, rfl, ⟨rfl, rfl, by decide⟩, ?_⟩ | refine ⟨rfl, _, rfl, ?_⟩ | refine ⟨rfl, _, getO (by omega), ?_⟩ | refine ⟨rfl, ⟨by omega, by omega, by omega⟩, ?_⟩ | refine ⟨⟨rfl, rfl⟩, ?_⟩ | refine ⟨⟨rfl, rfl, rfl⟩, ?_⟩ | refine ⟨⟨rfl, rfl, by decide⟩, ?_⟩ | refine ⟨rfl, ?_⟩ | refine ⟨⟨by omega, by omega⟩, ⟨rfl, rfl⟩, ?_⟩ | refine ⟨in64 (by omega) (by omega), ?_⟩ | refine Br.dec (fun _ => ?_) (fun hh => absurd (by omega) hh) | refine Br.dec (fun hh => absurd hh (by omega)) (fun _ => ?_) | refine Br.eq (fun _ => ?_) (fun hh => absurd (by omega) hh) | refine Br.eq (fun hh => absurd hh (by omega)) (fun _ => ?_) | refine Br.ne (fun _ => ?_) (fun hh => absurd (by omega) hh) | refine Br.ne (fun hh => absurd hh (by omega)) (fun _ => ?_) | refine ⟨_, rfl, ?_⟩ | rw [← List.map_drop, ← List.map_take]); conv => whnf)
      have : n = 64 := by omega
      subst this
      exact ⟨Ends.keep ⟨_, rfl, rfl⟩⟩
end Go.Aw
namespace Go.Aw
open Go.Proofs
set_option maxRecDepth 100000
set_option maxHeartbeats 4000000

/- RUNS -/
def likeS (c : Int × Int) (S : List Sz) (x : Sz) : Bool := match S with
  | [] => true
  | h :: _ => x.busy || levS x c.1 != levS h c.1
def runOk (c : Int × Int) (S : List Sz) : Bool := !S.any (likeS c S) && decide (allS S ≤ c.2)
def runsS (c : Int × Int) : Nat → List Sz → List (List Int)
  | 0, _ => []
  | f + 1, s => if c.1 ≤ s.length then (if runOk c (s.take c.1.toNat) = true then gensS (s.take c.1.toNat) :: runsS c f (s.drop c.1.toNat) else runsS c f (s.drop 1)) else []
theorem runs_fuel {c : Int × Int} (hc : 1 ≤ c.1) : ∀ {n m : Nat} {s : List Sz}, s.length ≤ n → s.length ≤ m → runsS c n s = runsS c m s
  | 0, 0, _, _, _ => rfl
  | 0, m + 1, s, h, _ => by rw [runsS, runsS, if_neg (by omega)]
  | n + 1, 0, s, _, h => by rw [runsS, runsS, if_neg (by omega)]
  | n + 1, m + 1, s, h1, h2 => by
    rw [runsS, runsS]
    split
    · split
      · rw [runs_fuel hc (n := n) (m := m) (by simp; omega) (by simp; omega)]
      · rw [runs_fuel hc (n := n) (m := m) (by simp; omega) (by simp; omega)]
    · rfl
theorem runs_len {c : Int × Int} (hc : 1 ≤ c.1) : ∀ {n : Nat} {s : List Sz}, (runsS c n s).length ≤ s.length
  | 0, s => by simp [runsS]
  | n + 1, s => by
    rw [runsS]
    split
    · split
      · have := runs_len hc (n := n) (s := s.drop c.1.toNat)
        rw [List.length_drop] at this
        rw [List.length_cons]; omega
      · have := runs_len hc (n := n) (s := s.drop 1)
        rw [List.length_drop] at this; omega
    · simp

theorem c_policy_runs (l : List Sz) (c : Int × Int) (hl : l.length ≤ 1000) (hs : ∀ s ∈ l, sane s) (hp : 2 ≤ c.1) (hp2 : c.1 ≤ 8) (hc2 : -9223372036854775808 ≤ c.2 ∧ c.2 ≤ 9223372036854775807) :
    ACalls Try.prog 104 [sizes l, .g (ttier c)] [] (fun r h => ∃ g : Nat, r = .own 1 g 0 (runsS c l.length l).length ∧ h = [.arr 0 2 [.g (ttier c)], .arr g 1 (vls (runsS c l.length l))]) := by
  refine k_policy_runs.calls ?_
  have hm : (l.map tsize).length = l.length := by simp
  obtain ⟨c1, q⟩ := c
  obtain ⟨p, rfl⟩ : ∃ p : Nat, c1 = p := ⟨c1.toNat, by dsimp only at hp; omega⟩
  dsimp only at hp hp2 hc2
  (try conv => whnf); repeat ((first | refine And.intro (show cellsAll _ _ from by repeat (first | exact trivial | refine ⟨⟨rfl, rfl⟩, ?_⟩)) ?_ | refine ⟨_, getZ (by omega), ?_⟩ | refine ⟨_, getI (by omega) (by omega), ?_⟩ | refine ⟨by omega, rfl, ?_⟩ | refine ⟨by (simp; omega), rfl, ?_⟩ | refine ⟨rfl, _, rfl, ⟨rfl, rfl, by decide⟩, ?_⟩ | refine ⟨rfl, _, rfl, ?_⟩ | refine ⟨rfl, _, getO (by omega), ?_⟩ | refine ⟨rfl, ⟨by omega, by omega, by omega⟩, ?_⟩ | refine ⟨⟨rfl, rfl⟩, ?_⟩ | refine ⟨⟨rfl, rfl, rfl⟩, ?_⟩ | refine ⟨⟨rfl, rfl, by decide⟩, ?_⟩ | refine ⟨rfl, ?_⟩ | refine ⟨⟨by omega, by omega⟩, ⟨rfl, rfl⟩, ?_⟩ | refine ⟨in64 (by omega) (by omega), ?_⟩ | refine Br.dec (fun _ => ?_) (fun hh => absurd (by omega) hh) | refine Br.dec (fun hh => absurd hh (by omega)) (fun _ => ?_) | refine Br.eq (fun _ => ?_) (fun hh => absurd (by omega) hh) | refine Br.eq (fun hh => absurd hh (by omega)) (fun _ => ?_) | refine Br.ne (fun _ => ?_) (fun hh => absurd (by omega) hh) | refine Br.ne (fun hh => absurd hh (by omega)) (fun _ => ?_) | refine ⟨_, rfl, ?_⟩ | rw [← List.map_drop, ← List.map_take]); conv => whnf)
  refine SW.loopR (α := Nat × List (List Int)) (fun a => tm 48 [(0, sizes l), (3, .pa 0 0 0 0), (5, .own 1 a.2.length 0 a.2.length), (6, .g (.i a.1))]) (fun a => [.arr 0 2 [.g (ttier (p, q))], .arr a.2.length 1 (vls a.2)])
    (fun a => a.1 ≤ l.length ∧ a.2 ++ runsS (p, q) l.length (l.drop a.1) = runsS (p, q) l.length l ∧ a.2.length ≤ a.1) (fun a => l.length - a.1) (0, []) ?_ ?_ ?_
  · exact ⟨Nat.zero_le _, rfl, Nat.le_refl _⟩
  · exact (Refi.valloc 5 1 rfl).trans (Refi.sub rfl (by simp [subT, subV, tm, tmGo, setT, sizes]))
  · rintro ⟨i, o⟩ ⟨hi, ho, hol⟩
    dsimp only at hi ho hol ⊢
    (try conv => whnf); repeat ((first | refine And.intro (show cellsAll _ _ from by repeat (first | exact trivial | refine ⟨⟨rfl, rfl⟩, ?_⟩)) ?_ | refine ⟨_, getZ (by omega), ?_⟩ | refine ⟨_, getI (by omega) (by omega), ?_⟩ | refine ⟨by omega, rfl, ?_⟩ | refine ⟨by (simp; omega), rfl, ?_⟩ | refine ⟨rfl, _, rfl, ⟨rfl, rfl, by decide⟩, ?_⟩ | refine ⟨rfl, _, rfl, ?_⟩ | refine ⟨rfl, _, getO (by omega), ?_⟩ | refine ⟨rfl, ⟨by omega, by omega, by omega⟩, ?_⟩ | refine ⟨⟨rfl, rfl⟩, ?_⟩ | refine ⟨⟨rfl, rfl, rfl⟩, ?_⟩ | refine ⟨⟨rfl, rfl, by decide⟩, ?_⟩ | refine ⟨rfl, ?_⟩ | refine ⟨⟨by omega, by omega⟩, ⟨rfl, rfl⟩, ?_⟩ | refine ⟨in64 (by omega) (by omega), ?_⟩ | refine Br.dec (fun _ => ?_) (fun hh => absurd (by omega) hh) | refine Br.dec (fun hh => absurd hh (by omega)) (fun _ => ?_) | refine Br.eq (fun _ => ?_) (fun hh => absurd (by omega) hh) | refine Br.eq (fun hh => absurd hh (by omega)) (fun _ => ?_) | refine Br.ne (fun _ => ?_) (fun hh => absurd (by omega) hh) | refine Br.ne (fun hh => absurd hh (by omega)) (fun _ => ?_) | refine ⟨_, rfl, ?_⟩ | rw [← List.map_drop, ← List.map_take]); conv => whnf)
    refine Br.dec (fun h1 => ?_) (fun h1 => ?_)
    · have hip : i + p ≤ l.length := by omega
      obtain ⟨S, hS⟩ : ∃ S, S = (l.drop i).take p := ⟨_, rfl⟩
      have hSl : S.length = p := by rw [hS]; simp; omega
      have hss : ∀ s ∈ S, sane s := fun s h => hs s (List.mem_of_mem_drop (List.mem_of_mem_take (hS ▸ h)))
      have hr : runsS (p, q) l.length (l.drop i) = if runOk (p, q) S = true then gensS S :: runsS (p, q) l.length (l.drop (i + p)) else runsS (p, q) l.length (l.drop (i + 1)) := by
        rw [runs_fuel (by dsimp only; omega) (n := l.length) (m := l.length + 1) (by simp) (by simp; omega), runsS, if_pos (by simp; omega)]
        simp only [Int.toNat_natCast, List.drop_drop, ← hS]
      rw [hr] at ho
      have eS : (l.drop ((i : Int)).toNat).take (((i : Int) + (p : Int)).toNat - (i : Int).toNat) = S := by
        rw [hS]; congr 1; omega
      have hlike : ∀ s, (s.busy || levS s p != levS (S[0]'(by omega)) p) = likeS (p, q) S s := fun s => by
        cases S with
        | nil => simp at hSl; omega
        | cons h r => rfl
      have hany := c_slices_ContainsFuncB S (by omega) (likeS (p, q) S) 143 (.arr 0 2 [.g (ttier (p, q))]) (.arr 0 1 [sizes S]) Blk.lt_g1 Blk.lt_g1 (fun s h => by
        rw [← hlike]; exact c_policy_runsS1 s (p, q) S (by omega) (hss s h) (hss _ (List.getElem_mem _)) hp hp2)
      have hall := c_policy_all S (by omega) hss
      (try conv => whnf); repeat ((first | refine And.intro (show cellsAll _ _ from by repeat (first | exact trivial | refine ⟨⟨rfl, rfl⟩, ?_⟩)) ?_ | refine ⟨_, getZ (by omega), ?_⟩ | refine ⟨_, getI (by omega) (by omega), ?_⟩ | refine ⟨by omega, rfl, ?_⟩ | refine ⟨by (simp; omega), rfl, ?_⟩ | refine ⟨rfl, _, rfl, ⟨rfl, rfl, by decide⟩, ?_⟩ | refine ⟨rfl, _, rfl, ?_⟩ | refine ⟨rfl, _, getO (by omega), ?_⟩ | refine ⟨rfl, ⟨by omega, by omega, by omega⟩, ?_⟩ | refine ⟨⟨rfl, rfl⟩, ?_⟩ | refine ⟨⟨rfl, rfl, rfl⟩, ?_⟩ | refine ⟨⟨rfl, rfl, by decide⟩, ?_⟩ | refine ⟨rfl, ?_⟩ | refine ⟨⟨by omega, by omega⟩, ⟨rfl, rfl⟩, ?_⟩ | refine ⟨in64 (by omega) (by omega), ?_⟩ | refine Br.dec (fun _ => ?_) (fun hh => absurd (by omega) hh) | refine Br.dec (fun hh => absurd hh (by omega)) (fun _ => ?_) | refine Br.eq (fun _ => ?_) (fun hh => absurd (by omega) hh) | refine Br.eq (fun hh => absurd hh (by omega)) (fun _ => ?_) | refine Br.ne (fun _ => ?_) (fun hh => absurd (by omega) hh) | refine Br.ne (fun hh => absurd hh (by omega)) (fun _ => ?_) | refine ⟨_, rfl, ?_⟩ | rw [← List.map_drop, ← List.map_take]); conv => whnf)
      rw [eS]
      refine ⟨_, ACalls.fl hany [0, 2] rfl rfl rfl (flatH.cons Blk.lt_g1 (flatH.cons Blk.lt_g1 flatH.nil)) (by rintro r h ⟨_, rfl⟩; exact flatH.cons Blk.lt_g1 (flatH.cons Blk.lt_g1 flatH.nil)) (by rintro r h ⟨rfl, rfl⟩; exact ⟨rfl, rfl⟩), ?_⟩
      conv => whnf
      refine Br.not (fun h2 => ?_) (fun h2 => ?_)
      · (try conv => whnf); repeat ((first | refine (hall).go rfl ?_ | refine ⟨_, (hall).go rfl ⟨rfl, rfl⟩, ?_⟩ | refine And.intro (show cellsAll _ _ from by repeat (first | exact trivial | refine ⟨⟨rfl, rfl⟩, ?_⟩)) ?_ | refine ⟨_, getZ (by omega), ?_⟩ | refine ⟨_, getI (by omega) (by omega), ?_⟩ | refine ⟨by omega, rfl, ?_⟩ | refine ⟨by (simp; omega), rfl, ?_⟩ | refine ⟨rfl, _, rfl, ⟨rfl, rfl, by decide⟩, ?_⟩ | refine ⟨rfl, _, rfl, ?_⟩ | refine ⟨rfl, _, getO (by omega), ?_⟩ | refine ⟨rfl, ⟨by omega, by omega, by omega⟩, ?_⟩ | refine ⟨⟨rfl, rfl⟩, ?_⟩ | refine ⟨⟨rfl, rfl, rfl⟩, ?_⟩ | refine ⟨⟨rfl, rfl, by decide⟩, ?_⟩ | refine ⟨rfl, ?_⟩ | refine ⟨⟨by omega, by omega⟩, ⟨rfl, rfl⟩, ?_⟩ | refine ⟨in64 (by omega) (by omega), ?_⟩ | refine Br.dec (fun _ => ?_) (fun hh => absurd (by omega) hh) | refine Br.dec (fun hh => absurd hh (by omega)) (fun _ => ?_) | refine Br.eq (fun _ => ?_) (fun hh => absurd (by omega) hh) | refine Br.eq (fun hh => absurd hh (by omega)) (fun _ => ?_) | refine Br.ne (fun _ => ?_) (fun hh => absurd (by omega) hh) | refine Br.ne (fun hh => absurd hh (by omega)) (fun _ => ?_) | refine ⟨_, rfl, ?_⟩ | rw [← List.map_drop, ← List.map_take]); conv => whnf)
        refine Br.dec (fun h3 => ?_) (fun h3 => ?_)
        · have hok : runOk (p, q) S = true := by rw [runOk, h2, decide_eq_true h3]; rfl
          rw [if_pos hok] at ho
          (try conv => whnf); repeat ((first | refine (c_policy_gens S (by omega)).go rfl ?_ | refine ⟨_, (c_policy_gens S (by omega)).go rfl ⟨rfl, rfl⟩, ?_⟩ | refine And.intro (show cellsAll _ _ from by repeat (first | exact trivial | refine ⟨⟨rfl, rfl⟩, ?_⟩)) ?_ | refine ⟨_, getZ (by omega), ?_⟩ | refine ⟨_, getI (by omega) (by omega), ?_⟩ | refine ⟨by omega, rfl, ?_⟩ | refine ⟨by (simp; omega), rfl, ?_⟩ | refine ⟨rfl, _, rfl, ⟨rfl, rfl, by decide⟩, ?_⟩ | refine ⟨rfl, _, rfl, ?_⟩ | refine ⟨rfl, _, getO (by omega), ?_⟩ | refine ⟨rfl, ⟨by omega, by omega, by omega⟩, ?_⟩ | refine ⟨⟨rfl, rfl⟩, ?_⟩ | refine ⟨⟨rfl, rfl, rfl⟩, ?_⟩ | refine ⟨⟨rfl, rfl, by decide⟩, ?_⟩ | refine ⟨rfl, ?_⟩ | refine ⟨⟨by omega, by omega⟩, ⟨rfl, rfl⟩, ?_⟩ | refine ⟨in64 (by omega) (by omega), ?_⟩ | refine Br.dec (fun _ => ?_) (fun hh => absurd (by omega) hh) | refine Br.dec (fun hh => absurd hh (by omega)) (fun _ => ?_) | refine Br.eq (fun _ => ?_) (fun hh => absurd (by omega) hh) | refine Br.eq (fun hh => absurd hh (by omega)) (fun _ => ?_) | refine Br.ne (fun _ => ?_) (fun hh => absurd (by omega) hh) | refine Br.ne (fun hh => absurd hh (by omega)) (fun _ => ?_) | refine ⟨_, rfl, ?_⟩ | rw [← List.map_drop, ← List.map_take]); conv => whnf)
          refine ⟨by simp; omega, ⟨rfl, rfl, rfl⟩, _, ⟨[], (List.append_nil _).symm⟩, by simp [vls], ?_⟩
          (try conv => whnf); repeat ((first | refine And.intro (show cellsAll _ _ from by repeat (first | exact trivial | refine ⟨⟨rfl, rfl⟩, ?_⟩)) ?_ | refine ⟨_, getZ (by omega), ?_⟩ | refine ⟨_, getI (by omega) (by omega), ?_⟩ | refine ⟨by omega, rfl, ?_⟩ | refine ⟨by (simp; omega), rfl, ?_⟩ | refine ⟨rfl, _, rfl, ⟨rfl, rfl, by decide⟩, ?_⟩ | refine ⟨rfl, _, rfl, ?_⟩ | refine ⟨rfl, _, getO (by omega), ?_⟩ | refine ⟨rfl, ⟨by omega, by omega, by omega⟩, ?_⟩ | refine ⟨⟨rfl, rfl⟩, ?_⟩ | refine ⟨⟨rfl, rfl, rfl⟩, ?_⟩ | refine ⟨⟨rfl, rfl, by decide⟩, ?_⟩ | refine ⟨rfl, ?_⟩ | refine ⟨⟨by omega, by omega⟩, ⟨rfl, rfl⟩, ?_⟩ | refine ⟨in64 (by omega) (by omega), ?_⟩ | refine Br.dec (fun _ => ?_) (fun hh => absurd (by omega) hh) | refine Br.dec (fun hh => absurd hh (by omega)) (fun _ => ?_) | refine Br.eq (fun _ => ?_) (fun hh => absurd (by omega) hh) | refine Br.eq (fun hh => absurd hh (by omega)) (fun _ => ?_) | refine Br.ne (fun _ => ?_) (fun hh => absurd (by omega) hh) | refine Br.ne (fun hh => absurd hh (by omega)) (fun _ => ?_) | refine ⟨_, rfl, ?_⟩ | rw [← List.map_drop, ← List.map_take]); conv => whnf)
          refine ⟨⟨(i + p, o ++ [gensS S]), ⟨hip, by dsimp only; rw [← ho, List.append_assoc]; rfl, by simp; omega⟩, by dsimp only; omega, Refi.back (L := [.arr 0 1 [sizes S]]) ?_ (by simp) (lt_all2 Blk.lt_g1 Blk.lt_g) ?_⟩⟩
          · simp [vls]; exact ⟨rfl, rfl⟩
          · simp [subT, subV, tm, tmGo, sizes, sig, cutV, ltB, ltS]; omega
        · have hok : runOk (p, q) S = false := by rw [runOk, decide_eq_false h3, Bool.and_false]
          rw [if_neg (by rw [hok]; simp)] at ho
          (try conv => whnf); repeat ((first | refine And.intro (show cellsAll _ _ from by repeat (first | exact trivial | refine ⟨⟨rfl, rfl⟩, ?_⟩)) ?_ | refine ⟨_, getZ (by omega), ?_⟩ | refine ⟨_, getI (by omega) (by omega), ?_⟩ | refine ⟨by omega, rfl, ?_⟩ | refine ⟨by (simp; omega), rfl, ?_⟩ | refine ⟨rfl, _, rfl, ⟨rfl, rfl, by decide⟩, ?_⟩ | refine ⟨rfl, _, rfl, ?_⟩ | refine ⟨rfl, _, getO (by omega), ?_⟩ | refine ⟨rfl, ⟨by omega, by omega, by omega⟩, ?_⟩ | refine ⟨⟨rfl, rfl⟩, ?_⟩ | refine ⟨⟨rfl, rfl, rfl⟩, ?_⟩ | refine ⟨⟨rfl, rfl, by decide⟩, ?_⟩ | refine ⟨rfl, ?_⟩ | refine ⟨⟨by omega, by omega⟩, ⟨rfl, rfl⟩, ?_⟩ | refine ⟨in64 (by omega) (by omega), ?_⟩ | refine Br.dec (fun _ => ?_) (fun hh => absurd (by omega) hh) | refine Br.dec (fun hh => absurd hh (by omega)) (fun _ => ?_) | refine Br.eq (fun _ => ?_) (fun hh => absurd (by omega) hh) | refine Br.eq (fun hh => absurd hh (by omega)) (fun _ => ?_) | refine Br.ne (fun _ => ?_) (fun hh => absurd (by omega) hh) | refine Br.ne (fun hh => absurd hh (by omega)) (fun _ => ?_) | refine ⟨_, rfl, ?_⟩ | rw [← List.map_drop, ← List.map_take]); conv => whnf)
          refine ⟨⟨(i + 1, o), ⟨by dsimp only; omega, ho, by dsimp only; omega⟩, by dsimp only; omega, Refi.back (L := [.arr 0 1 [sizes S]]) rfl (by simp) (lt_all2 Blk.lt_g1 Blk.lt_g) ?_⟩⟩
          simp [subT, subV, tm, tmGo, sizes, sig, cutV, ltB, ltS]
      · have hok : runOk (p, q) S = false := by rw [runOk, h2]; rfl
        rw [if_neg (by rw [hok]; simp)] at ho
        (try conv => whnf); repeat ((first | refine And.intro (show cellsAll _ _ from by repeat (first | exact trivial | refine ⟨⟨rfl, rfl⟩, ?_⟩)) ?_ | refine ⟨_, getZ (by omega), ?_⟩ | refine ⟨_, getI (by omega) (by omega), ?_⟩ | refine ⟨by omega, rfl, ?_⟩ | refine ⟨by (simp; omega), rfl, ?_⟩ | refine ⟨rfl, _, rfl, ⟨rfl, rfl, by decide⟩, ?_⟩ | refine ⟨rfl, _, rfl, ?_⟩ | refine ⟨rfl, _, getO (by omega), ?_⟩ | refine ⟨rfl, ⟨by omega, by omega, by omega⟩, ?_⟩ | refine ⟨⟨rfl, rfl⟩, ?_⟩ | refine ⟨⟨rfl, rfl, rfl⟩, ?_⟩ | refine ⟨⟨rfl, rfl, by decide⟩, ?_⟩ | refine ⟨rfl, ?_⟩ | refine ⟨⟨by omega, by omega⟩, ⟨rfl, rfl⟩, ?_⟩ | refine ⟨in64 (by omega) (by omega), ?_⟩ | refine Br.dec (fun _ => ?_) (fun hh => absurd (by omega) hh) | refine Br.dec (fun hh => absurd hh (by omega)) (fun _ => ?_) | refine Br.eq (fun _ => ?_) (fun hh => absurd (by omega) hh) | refine Br.eq (fun hh => absurd hh (by omega)) (fun _ => ?_) | refine Br.ne (fun _ => ?_) (fun hh => absurd (by omega) hh) | refine Br.ne (fun hh => absurd hh (by omega)) (fun _ => ?_) | refine ⟨_, rfl, ?_⟩ | rw [← List.map_drop, ← List.map_take]); conv => whnf)
        refine ⟨⟨(i + 1, o), ⟨by dsimp only; omega, ho, by dsimp only; omega⟩, by dsimp only; omega, Refi.back (L := [.arr 0 1 [sizes S]]) rfl (by simp) (lt_all2 Blk.lt_g1 Blk.lt_g) ?_⟩⟩
        simp [subT, subV, tm, tmGo, sizes, sig, cutV, ltB, ltS]
    · have hr : runsS (p, q) l.length (l.drop i) = [] := by
        cases hll : l.length with
        | zero => rfl
        | succ f => rw [runsS, if_neg (by simp; omega)]
      rw [hr, List.append_nil] at ho
      (try conv => whnf); repeat ((first | refine And.intro (show cellsAll _ _ from by repeat (first | exact trivial | refine ⟨⟨rfl, rfl⟩, ?_⟩)) ?_ | refine ⟨_, getZ (by omega), ?_⟩ | refine ⟨_, getI (by omega) (by omega), ?_⟩ | refine ⟨by omega, rfl, ?_⟩ | refine ⟨by (simp; omega), rfl, ?_⟩ | refine ⟨rfl, _, rfl, ⟨rfl, rfl, by decide⟩, ?_⟩ | refine ⟨rfl, _, rfl, ?_⟩ | refine ⟨rfl, _, getO (by omega), ?_⟩ | refine ⟨rfl, ⟨by omega, by omega, by omega⟩, ?_⟩ | refine ⟨⟨rfl, rfl⟩, ?_⟩ | refine ⟨⟨rfl, rfl, rfl⟩, ?_⟩ | refine ⟨⟨rfl, rfl, by decide⟩, ?_⟩ | refine ⟨rfl, ?_⟩ | refine ⟨⟨by omega, by omega⟩, ⟨rfl, rfl⟩, ?_⟩ | refine ⟨in64 (by omega) (by omega), ?_⟩ | refine Br.dec (fun _ => ?_) (fun hh => absurd (by omega) hh) | refine Br.dec (fun hh => absurd hh (by omega)) (fun _ => ?_) | refine Br.eq (fun _ => ?_) (fun hh => absurd (by omega) hh) | refine Br.eq (fun hh => absurd hh (by omega)) (fun _ => ?_) | refine Br.ne (fun _ => ?_) (fun hh => absurd (by omega) hh) | refine Br.ne (fun hh => absurd hh (by omega)) (fun _ => ?_) | refine ⟨_, rfl, ?_⟩ | rw [← List.map_drop, ← List.map_take]); conv => whnf)
      rw [ho]
      exact ⟨Ends.keep ⟨_, rfl, rfl⟩⟩
end Go.Aw
namespace Go.Aw
open Go.Proofs
set_option maxRecDepth 100000
set_option maxHeartbeats 4000000

/- ALONE -/
def aloneA (l : List Sz) (ps : List (List Int)) (is : Sz → Bool) : List Sz := (idleS l).filter fun x => !decide (x.gen ∈ ps.flatten) && is x
def aloneS (l : List Sz) (ps : List (List Int)) (is : Sz → Bool) : List (List Int) := ps ++ (aloneA l ps is).map fun x => [x.gen]

theorem c_policy_alone (l : List Sz) (ps : List (List Int)) (g : Nat) (is : Sz → Bool) (f : Nat) (hl : l.length ≤ 1000) (hps : ps.length ≤ 100000) (hpf : ps.flatten.length < 1000000000) (hf : ∀ s ∈ l, CG Try.prog f [tsize s] (.b (is s))) :
    ACalls Try.prog 59 [sizes l, .own 0 g 0 ps.length, .fn f []] [.arr g 1 (vls ps)] (fun r h => ∃ (G g1 g2 : Nat) (j : List Sz), r = .own 0 G 0 (aloneS l ps is).length ∧ h = [.arr G 1 (vls (aloneS l ps is)), .arr g1 1 (vintl ps.flatten), .arr g2 4 (vsz j)]) := by
  refine k_policy_alone.calls ?_
  conv => whnf
  refine ACalls.lendO1 (c_slices_Concat_Lint_int ps (by omega) hpf) (by rintro r h ⟨g, rfl, rfl⟩; exact ⟨fun x hx => by simp at hx; subst hx; exact Blk.scals_g, .own⟩) 1 (gr_vls rfl (Nat.zero_le _) rfl) ?_
  rintro r h ⟨g1, rfl, rfl⟩
  conv => whnf
  refine ACalls.fl (c_idle_own l (by omega)) [] rfl rfl rfl flatH.nil (by rintro r h ⟨g, j, _, rfl⟩; exact flatH.cons vsz_lt flatH.nil) ?_
  rintro r h ⟨g2, j, rfl, rfl⟩
  have hil := idle_len (l := l)
  have his : ∀ s ∈ idleS l, CG Try.prog f [tsize s] (.b (is s)) := fun s h => hf s (List.mem_filter.1 h).1
  have hres : aloneS l ps is = ps ++ ((idleS l).filter fun x => !decide (x.gen ∈ ps.flatten) && is x).map fun x => [x.gen] := rfl
  rw [hres]
  generalize idleS l = M at hil his
  conv => whnf
  refine SW.loopR (α := Nat) (fun k => tm 37 [(1, .own 0 (g + ((M.take k).filter fun x => !decide (x.gen ∈ ps.flatten) && is x).length) 0 (ps.length + ((M.take k).filter fun x => !decide (x.gen ∈ ps.flatten) && is x).length)), (2, .fn f []), (7, .own 1 g1 0 ps.flatten.length), (13, .own 2 g2 0 M.length), (14, .g (.i M.length)), (15, .g (.i k))])
    (fun k => [.arr (g + ((M.take k).filter fun x => !decide (x.gen ∈ ps.flatten) && is x).length) 1 (vls (ps ++ ((M.take k).filter fun x => !decide (x.gen ∈ ps.flatten) && is x).map fun x => [x.gen])), .arr g1 1 (vintl ps.flatten), .arr g2 4 (vsz (M ++ j))]) (fun k => k ≤ M.length) (fun k => M.length - k) 0 ?_ ?_ ?_
  · exact Nat.zero_le _
  · exact Refi.sub (by simp [placeB_eq, place]) (by simp [subT, subV, tm, tmGo, sig])
  · intro k hk
    dsimp only at hk ⊢
    have lt3 : ∀ {n : Nat} {g1 g2 g3 : Nat} {a : List (List Int)} {b : List Int} {c : List Sz}, ∀ x ∈ [Blk.arr g1 1 (vls a), .arr g2 1 (vintl b), .arr g3 4 (vsz c)], x.lt n := by
      intro n g1 g2 g3 a b c x hx
      simp only [List.mem_cons, List.not_mem_nil, or_false] at hx
      rcases hx with rfl | rfl | rfl <;> exact Blk.lt_g
    have hA : ((M.take k).filter fun x => !decide (x.gen ∈ ps.flatten) && is x).length ≤ k := Nat.le_trans (List.length_filter_le _ _) (by simp; omega)
    conv => whnf
    refine Br.dec (fun h1 => ?_) (fun h1 => ?_)
    · have hk' : k < M.length := by omega
      have htk : (M.take (k + 1)).filter (fun x => !decide (x.gen ∈ ps.flatten) && is x) = (M.take k).filter (fun x => !decide (x.gen ∈ ps.flatten) && is x) ++ if (!decide (M[k].gen ∈ ps.flatten) && is M[k]) = true then [M[k]] else [] := by
        rw [List.take_succ_eq_append_getElem hk', List.filter_append]
        congr 1
        simp [List.filter_cons]
      have hisk := his M[k] (List.getElem_mem hk')
      have hcon := c_slices_Contains_Lint_int ps.flatten M[k].gen hpf
      conv => whnf
      refine ⟨⟨by omega, by omega⟩, ⟨rfl, rfl⟩, ?_⟩
      conv => whnf
      refine ⟨rfl, _, vsz_getA (by omega), ?_⟩
      by_cases hin : M[k].gen ∈ ps.flatten
      · rw [decide_eq_true hin] at hcon htk
        rw [if_neg (by simp), List.append_nil] at htk
        (try conv => whnf); repeat ((first | refine And.intro (show cellsAll _ _ from by repeat (first | exact trivial | refine ⟨⟨rfl, rfl⟩, ?_⟩)) ?_ | refine ⟨_, getZ (by omega), ?_⟩ | refine ⟨_, getI (by omega) (by omega), ?_⟩ | refine ⟨by omega, rfl, ?_⟩ | refine ⟨by (simp; omega), rfl, ?_⟩ | refine ⟨rfl, _, rfl, ⟨rfl, rfl, by decide⟩, ?_⟩ | refine ⟨rfl, _, rfl, ?_⟩ | refine ⟨rfl, _, getO (by omega), ?_⟩ | refine ⟨rfl, ⟨by omega, by omega, by omega⟩, ?_⟩ | refine ⟨⟨rfl, rfl⟩, ?_⟩ | refine ⟨⟨rfl, rfl, rfl⟩, ?_⟩ | refine ⟨⟨rfl, rfl, by decide⟩, ?_⟩ | refine ⟨rfl, ?_⟩ | refine ⟨⟨by omega, by omega⟩, ⟨rfl, rfl⟩, ?_⟩ | refine ⟨in64 (by omega) (by omega), ?_⟩ | refine Br.dec (fun _ => ?_) (fun hh => absurd (by omega) hh) | refine Br.dec (fun hh => absurd hh (by omega)) (fun _ => ?_) | refine Br.eq (fun _ => ?_) (fun hh => absurd (by omega) hh) | refine Br.eq (fun hh => absurd hh (by omega)) (fun _ => ?_) | refine Br.ne (fun _ => ?_) (fun hh => absurd (by omega) hh) | refine Br.ne (fun hh => absurd hh (by omega)) (fun _ => ?_) | refine ⟨_, rfl, ?_⟩ | rw [← List.map_drop, ← List.map_take]); conv => whnf)
        refine CG.lend2 hcon trivial 1 (gr_vintl rfl (Nat.zero_le _) rfl) rfl ?_
        (try conv => whnf); repeat ((first | refine And.intro (show cellsAll _ _ from by repeat (first | exact trivial | refine ⟨⟨rfl, rfl⟩, ?_⟩)) ?_ | refine ⟨_, getZ (by omega), ?_⟩ | refine ⟨_, getI (by omega) (by omega), ?_⟩ | refine ⟨by omega, rfl, ?_⟩ | refine ⟨by (simp; omega), rfl, ?_⟩ | refine ⟨rfl, _, rfl, ⟨rfl, rfl, by decide⟩, ?_⟩ | refine ⟨rfl, _, rfl, ?_⟩ | refine ⟨rfl, _, getO (by omega), ?_⟩ | refine ⟨rfl, ⟨by omega, by omega, by omega⟩, ?_⟩ | refine ⟨⟨rfl, rfl⟩, ?_⟩ | refine ⟨⟨rfl, rfl, rfl⟩, ?_⟩ | refine ⟨⟨rfl, rfl, by decide⟩, ?_⟩ | refine ⟨rfl, ?_⟩ | refine ⟨⟨by omega, by omega⟩, ⟨rfl, rfl⟩, ?_⟩ | refine ⟨in64 (by omega) (by omega), ?_⟩ | refine Br.dec (fun _ => ?_) (fun hh => absurd (by omega) hh) | refine Br.dec (fun hh => absurd hh (by omega)) (fun _ => ?_) | refine Br.eq (fun _ => ?_) (fun hh => absurd (by omega) hh) | refine Br.eq (fun hh => absurd hh (by omega)) (fun _ => ?_) | refine Br.ne (fun _ => ?_) (fun hh => absurd (by omega) hh) | refine Br.ne (fun hh => absurd hh (by omega)) (fun _ => ?_) | refine ⟨_, rfl, ?_⟩ | rw [← List.map_drop, ← List.map_take]); conv => whnf)
        refine ⟨⟨k + 1, hk', by omega, Refi.back (L := [.arr 0 4 [.g (tsize M[k])]]) ?_ (by simp) lt3 ?_⟩⟩
        · rw [htk]; rfl
        · rw [htk]; simp [subT, subV, tm, tmGo, cutV, ltB, ltS]
      · rw [decide_eq_false hin] at hcon htk
        cases hq : is M[k] <;> rw [hq] at hisk htk
        · rw [if_neg (by simp), List.append_nil] at htk
          (try conv => whnf); repeat ((first | refine And.intro (show cellsAll _ _ from by repeat (first | exact trivial | refine ⟨⟨rfl, rfl⟩, ?_⟩)) ?_ | refine ⟨_, getZ (by omega), ?_⟩ | refine ⟨_, getI (by omega) (by omega), ?_⟩ | refine ⟨by omega, rfl, ?_⟩ | refine ⟨by (simp; omega), rfl, ?_⟩ | refine ⟨rfl, _, rfl, ⟨rfl, rfl, by decide⟩, ?_⟩ | refine ⟨rfl, _, rfl, ?_⟩ | refine ⟨rfl, _, getO (by omega), ?_⟩ | refine ⟨rfl, ⟨by omega, by omega, by omega⟩, ?_⟩ | refine ⟨⟨rfl, rfl⟩, ?_⟩ | refine ⟨⟨rfl, rfl, rfl⟩, ?_⟩ | refine ⟨⟨rfl, rfl, by decide⟩, ?_⟩ | refine ⟨rfl, ?_⟩ | refine ⟨⟨by omega, by omega⟩, ⟨rfl, rfl⟩, ?_⟩ | refine ⟨in64 (by omega) (by omega), ?_⟩ | refine Br.dec (fun _ => ?_) (fun hh => absurd (by omega) hh) | refine Br.dec (fun hh => absurd hh (by omega)) (fun _ => ?_) | refine Br.eq (fun _ => ?_) (fun hh => absurd (by omega) hh) | refine Br.eq (fun hh => absurd hh (by omega)) (fun _ => ?_) | refine Br.ne (fun _ => ?_) (fun hh => absurd (by omega) hh) | refine Br.ne (fun hh => absurd hh (by omega)) (fun _ => ?_) | refine ⟨_, rfl, ?_⟩ | rw [← List.map_drop, ← List.map_take]); conv => whnf)
          refine CG.lend2 hcon trivial 1 (gr_vintl rfl (Nat.zero_le _) rfl) rfl ?_
          (try conv => whnf); repeat ((first | refine (hisk).go rfl ?_ | refine ⟨_, (hisk).go rfl ⟨rfl, rfl⟩, ?_⟩ | refine And.intro (show cellsAll _ _ from by repeat (first | exact trivial | refine ⟨⟨rfl, rfl⟩, ?_⟩)) ?_ | refine ⟨_, getZ (by omega), ?_⟩ | refine ⟨_, getI (by omega) (by omega), ?_⟩ | refine ⟨by omega, rfl, ?_⟩ | refine ⟨by (simp; omega), rfl, ?_⟩ | refine ⟨rfl, _, rfl, ⟨rfl, rfl, by decide⟩, ?_⟩ | refine ⟨rfl, _, rfl, ?_⟩ | refine ⟨rfl, _, getO (by omega), ?_⟩ | refine ⟨rfl, ⟨by omega, by omega, by omega⟩, ?_⟩ | refine ⟨⟨rfl, rfl⟩, ?_⟩ | refine ⟨⟨rfl, rfl, rfl⟩, ?_⟩ | refine ⟨⟨rfl, rfl, by decide⟩, ?_⟩ | refine ⟨rfl, ?_⟩ | refine ⟨⟨by omega, by omega⟩, ⟨rfl, rfl⟩, ?_⟩ | refine ⟨in64 (by omega) (by omega), ?_⟩ | refine Br.dec (fun _ => ?_) (fun hh => absurd (by omega) hh) | refine Br.dec (fun hh => absurd hh (by omega)) (fun _ => ?_) | refine Br.eq (fun _ => ?_) (fun hh => absurd (by omega) hh) | refine Br.eq (fun hh => absurd hh (by omega)) (fun _ => ?_) | refine Br.ne (fun _ => ?_) (fun hh => absurd (by omega) hh) | refine Br.ne (fun hh => absurd hh (by omega)) (fun _ => ?_) | refine ⟨_, rfl, ?_⟩ | rw [← List.map_drop, ← List.map_take]); conv => whnf)
          refine ⟨⟨k + 1, hk', by omega, Refi.back (L := [.arr 0 4 [.g (tsize M[k])]]) ?_ (by simp) lt3 ?_⟩⟩
          · rw [htk]; rfl
          · rw [htk]; simp [subT, subV, tm, tmGo, cutV, ltB, ltS]
        · rw [if_pos (by simp)] at htk
          (try conv => whnf); repeat ((first | refine And.intro (show cellsAll _ _ from by repeat (first | exact trivial | refine ⟨⟨rfl, rfl⟩, ?_⟩)) ?_ | refine ⟨_, getZ (by omega), ?_⟩ | refine ⟨_, getI (by omega) (by omega), ?_⟩ | refine ⟨by omega, rfl, ?_⟩ | refine ⟨by (simp; omega), rfl, ?_⟩ | refine ⟨rfl, _, rfl, ⟨rfl, rfl, by decide⟩, ?_⟩ | refine ⟨rfl, _, rfl, ?_⟩ | refine ⟨rfl, _, getO (by omega), ?_⟩ | refine ⟨rfl, ⟨by omega, by omega, by omega⟩, ?_⟩ | refine ⟨⟨rfl, rfl⟩, ?_⟩ | refine ⟨⟨rfl, rfl, rfl⟩, ?_⟩ | refine ⟨⟨rfl, rfl, by decide⟩, ?_⟩ | refine ⟨rfl, ?_⟩ | refine ⟨⟨by omega, by omega⟩, ⟨rfl, rfl⟩, ?_⟩ | refine ⟨in64 (by omega) (by omega), ?_⟩ | refine Br.dec (fun _ => ?_) (fun hh => absurd (by omega) hh) | refine Br.dec (fun hh => absurd hh (by omega)) (fun _ => ?_) | refine Br.eq (fun _ => ?_) (fun hh => absurd (by omega) hh) | refine Br.eq (fun hh => absurd hh (by omega)) (fun _ => ?_) | refine Br.ne (fun _ => ?_) (fun hh => absurd (by omega) hh) | refine Br.ne (fun hh => absurd hh (by omega)) (fun _ => ?_) | refine ⟨_, rfl, ?_⟩ | rw [← List.map_drop, ← List.map_take]); conv => whnf)
          refine CG.lend2 hcon trivial 1 (gr_vintl rfl (Nat.zero_le _) rfl) rfl ?_
          (try conv => whnf); repeat ((first | refine (hisk).go rfl ?_ | refine ⟨_, (hisk).go rfl ⟨rfl, rfl⟩, ?_⟩ | refine And.intro (show cellsAll _ _ from by repeat (first | exact trivial | refine ⟨⟨rfl, rfl⟩, ?_⟩)) ?_ | refine ⟨_, getZ (by omega), ?_⟩ | refine ⟨_, getI (by omega) (by omega), ?_⟩ | refine ⟨by omega, rfl, ?_⟩ | refine ⟨by (simp; omega), rfl, ?_⟩ | refine ⟨rfl, _, rfl, ⟨rfl, rfl, by decide⟩, ?_⟩ | refine ⟨rfl, _, rfl, ?_⟩ | refine ⟨rfl, _, getO (by omega), ?_⟩ | refine ⟨rfl, ⟨by omega, by omega, by omega⟩, ?_⟩ | refine ⟨⟨rfl, rfl⟩, ?_⟩ | refine ⟨⟨rfl, rfl, rfl⟩, ?_⟩ | refine ⟨⟨rfl, rfl, by decide⟩, ?_⟩ | refine ⟨rfl, ?_⟩ | refine ⟨⟨by omega, by omega⟩, ⟨rfl, rfl⟩, ?_⟩ | refine ⟨in64 (by omega) (by omega), ?_⟩ | refine Br.dec (fun _ => ?_) (fun hh => absurd (by omega) hh) | refine Br.dec (fun hh => absurd hh (by omega)) (fun _ => ?_) | refine Br.eq (fun _ => ?_) (fun hh => absurd (by omega) hh) | refine Br.eq (fun hh => absurd hh (by omega)) (fun _ => ?_) | refine Br.ne (fun _ => ?_) (fun hh => absurd (by omega) hh) | refine Br.ne (fun hh => absurd hh (by omega)) (fun _ => ?_) | refine ⟨_, rfl, ?_⟩ | rw [← List.map_drop, ← List.map_take]); conv => whnf)
          refine ⟨by simp [-List.mem_flatten]; omega, ⟨rfl, rfl, rfl⟩, _, ⟨[], (List.append_nil _).symm⟩, by simp [-List.mem_flatten, vls], ?_⟩
          (try conv => whnf); repeat ((first | refine And.intro (show cellsAll _ _ from by repeat (first | exact trivial | refine ⟨⟨rfl, rfl⟩, ?_⟩)) ?_ | refine ⟨_, getZ (by omega), ?_⟩ | refine ⟨_, getI (by omega) (by omega), ?_⟩ | refine ⟨by omega, rfl, ?_⟩ | refine ⟨by (simp; omega), rfl, ?_⟩ | refine ⟨rfl, _, rfl, ⟨rfl, rfl, by decide⟩, ?_⟩ | refine ⟨rfl, _, rfl, ?_⟩ | refine ⟨rfl, _, getO (by omega), ?_⟩ | refine ⟨rfl, ⟨by omega, by omega, by omega⟩, ?_⟩ | refine ⟨⟨rfl, rfl⟩, ?_⟩ | refine ⟨⟨rfl, rfl, rfl⟩, ?_⟩ | refine ⟨⟨rfl, rfl, by decide⟩, ?_⟩ | refine ⟨rfl, ?_⟩ | refine ⟨⟨by omega, by omega⟩, ⟨rfl, rfl⟩, ?_⟩ | refine ⟨in64 (by omega) (by omega), ?_⟩ | refine Br.dec (fun _ => ?_) (fun hh => absurd (by omega) hh) | refine Br.dec (fun hh => absurd hh (by omega)) (fun _ => ?_) | refine Br.eq (fun _ => ?_) (fun hh => absurd (by omega) hh) | refine Br.eq (fun hh => absurd hh (by omega)) (fun _ => ?_) | refine Br.ne (fun _ => ?_) (fun hh => absurd (by omega) hh) | refine Br.ne (fun hh => absurd hh (by omega)) (fun _ => ?_) | refine ⟨_, rfl, ?_⟩ | rw [← List.map_drop, ← List.map_take]); conv => whnf)
          refine ⟨⟨k + 1, hk', by omega, Refi.back (L := [.arr 0 4 [.g (tsize M[k])]]) ?_ (by simp) lt3 ?_⟩⟩
          · rw [htk]; simp [-List.mem_flatten, vls]; exact ⟨⟨by omega, rfl⟩, rfl⟩
          · rw [htk]; simp [-List.mem_flatten, subT, subV, tm, tmGo, cutV, ltB, ltS]; omega
    · (try conv => whnf); repeat ((first | refine And.intro (show cellsAll _ _ from by repeat (first | exact trivial | refine ⟨⟨rfl, rfl⟩, ?_⟩)) ?_ | refine ⟨_, getZ (by omega), ?_⟩ | refine ⟨_, getI (by omega) (by omega), ?_⟩ | refine ⟨by omega, rfl, ?_⟩ | refine ⟨by (simp; omega), rfl, ?_⟩ | refine ⟨rfl, _, rfl, ⟨rfl, rfl, by decide⟩, ?_⟩ | refine ⟨rfl, _, rfl, ?_⟩ | refine ⟨rfl, _, getO (by omega), ?_⟩ | refine ⟨rfl, ⟨by omega, by omega, by omega⟩, ?_⟩ | refine ⟨⟨rfl, rfl⟩, ?_⟩ | refine ⟨⟨rfl, rfl, rfl⟩, ?_⟩ | refine ⟨⟨rfl, rfl, by decide⟩, ?_⟩ | refine ⟨rfl, ?_⟩ | refine ⟨⟨by omega, by omega⟩, ⟨rfl, rfl⟩, ?_⟩ | refine ⟨in64 (by omega) (by omega), ?_⟩ | refine Br.dec (fun _ => ?_) (fun hh => absurd (by omega) hh) | refine Br.dec (fun hh => absurd hh (by omega)) (fun _ => ?_) | refine Br.eq (fun _ => ?_) (fun hh => absurd (by omega) hh) | refine Br.eq (fun hh => absurd hh (by omega)) (fun _ => ?_) | refine Br.ne (fun _ => ?_) (fun hh => absurd (by omega) hh) | refine Br.ne (fun hh => absurd hh (by omega)) (fun _ => ?_) | refine ⟨_, rfl, ?_⟩ | rw [← List.map_drop, ← List.map_take]); conv => whnf)
      have : k = M.length := by omega
      subst this
      rw [List.take_length]
      exact ⟨Ends.keep ⟨_, g1, g2, M ++ j, by simp, rfl⟩⟩

end Go.Aw
namespace Go.Aw
open Go.Proofs
set_option maxRecDepth 100000
set_option maxHeartbeats 4000000

theorem c_policy_byS1 (s : Sz) (h : sane s) : CG Try.prog 105 [tsize s] (.b (decide (2 * s.dead > s.docs))) := by
  refine ⟨k_policy_byS1.calls ?_⟩
  unfold sane at h
  (try conv => whnf); repeat ((first | refine And.intro (show cellsAll _ _ from by repeat (first | exact trivial | refine ⟨⟨rfl, rfl⟩, ?_⟩)) ?_ | refine ⟨_, getZ (by omega), ?_⟩ | refine ⟨_, getI (by omega) (by omega), ?_⟩ | refine ⟨by omega, rfl, ?_⟩ | refine ⟨by (simp; omega), rfl, ?_⟩ | refine ⟨rfl, _, rfl, ⟨rfl, rfl, by decide⟩, ?_⟩ | refine ⟨rfl, _, rfl, ?_⟩ | refine ⟨rfl, _, getO (by omega), ?_⟩ | refine ⟨rfl, ⟨by omega, by omega, by omega⟩, ?_⟩ | refine ⟨⟨rfl, rfl⟩, ?_⟩ | refine ⟨⟨rfl, rfl, rfl⟩, ?_⟩ | refine ⟨⟨rfl, rfl, by decide⟩, ?_⟩ | refine ⟨rfl, ?_⟩ | refine ⟨⟨by omega, by omega⟩, ⟨rfl, rfl⟩, ?_⟩ | refine ⟨in64 (by omega) (by omega), ?_⟩ | refine Br.dec (fun _ => ?_) (fun hh => absurd (by omega) hh) | refine Br.dec (fun hh => absurd hh (by omega)) (fun _ => ?_) | refine Br.eq (fun _ => ?_) (fun hh => absurd (by omega) hh) | refine Br.eq (fun hh => absurd hh (by omega)) (fun _ => ?_) | refine Br.ne (fun _ => ?_) (fun hh => absurd (by omega) hh) | refine Br.ne (fun hh => absurd hh (by omega)) (fun _ => ?_) | refine ⟨_, rfl, ?_⟩ | rw [← List.map_drop, ← List.map_take]); conv => whnf)
  exact ⟨Ends.ground (H := []) (L := [_]) 0 rfl ⟨rfl, rfl⟩⟩
theorem c_policy_ForceS1 (s : Sz) : CG Try.prog 60 [tsize s] (.b (decide (s.dead > 0))) := by
  refine ⟨k_policy_ForceS1.calls ?_⟩
  (try conv => whnf); repeat ((first | refine And.intro (show cellsAll _ _ from by repeat (first | exact trivial | refine ⟨⟨rfl, rfl⟩, ?_⟩)) ?_ | refine ⟨_, getZ (by omega), ?_⟩ | refine ⟨_, getI (by omega) (by omega), ?_⟩ | refine ⟨by omega, rfl, ?_⟩ | refine ⟨by (simp; omega), rfl, ?_⟩ | refine ⟨rfl, _, rfl, ⟨rfl, rfl, by decide⟩, ?_⟩ | refine ⟨rfl, _, rfl, ?_⟩ | refine ⟨rfl, _, getO (by omega), ?_⟩ | refine ⟨rfl, ⟨by omega, by omega, by omega⟩, ?_⟩ | refine ⟨⟨rfl, rfl⟩, ?_⟩ | refine ⟨⟨rfl, rfl, rfl⟩, ?_⟩ | refine ⟨⟨rfl, rfl, by decide⟩, ?_⟩ | refine ⟨rfl, ?_⟩ | refine ⟨⟨by omega, by omega⟩, ⟨rfl, rfl⟩, ?_⟩ | refine ⟨in64 (by omega) (by omega), ?_⟩ | refine Br.dec (fun _ => ?_) (fun hh => absurd (by omega) hh) | refine Br.dec (fun hh => absurd hh (by omega)) (fun _ => ?_) | refine Br.eq (fun _ => ?_) (fun hh => absurd (by omega) hh) | refine Br.eq (fun hh => absurd hh (by omega)) (fun _ => ?_) | refine Br.ne (fun _ => ?_) (fun hh => absurd (by omega) hh) | refine Br.ne (fun hh => absurd hh (by omega)) (fun _ => ?_) | refine ⟨_, rfl, ?_⟩ | rw [← List.map_drop, ← List.map_take]); conv => whnf)
  exact ⟨Ends.ground (H := []) (L := [_]) 0 rfl ⟨rfl, rfl⟩⟩
theorem mayS_sane {l : List Sz} (h : mayS l = true) : ∀ s ∈ l, sane s := fun s hs => by
  simp only [mayS, Bool.and_eq_true, List.all_eq_true] at h
  exact (okS_iff.1 (h.2.1 s hs)).2.2
theorem mayS_len {l : List Sz} (h : mayS l = true) : l.length ≤ 16 := by
  simp only [mayS, Bool.and_eq_true, decide_eq_true_eq] at h; exact h.1
theorem mayS_nodup {l : List Sz} (h : mayS l = true) : (gensS l).Nodup := by
  simp only [mayS, Bool.and_eq_true, decide_eq_true_eq] at h; exact h.2.2
def halfS (s : Sz) : Bool := decide (2 * s.dead > s.docs)
def deadS (s : Sz) : Bool := decide (s.dead > 0)
def kindS (kind : Nat) (l : List Sz) (c : Int × Int) : List (List Int) := match kind with
  | 0 => tiersS l c 64
  | _ => runsS c l.length l
def byS (kind : Nat) (l : List Sz) (c : Int × Int) : List (List Int) := if mayS l = true ∧ mayT c = true then aloneS l (kindS kind l c) halfS else []
theorem chunks_flat {c : Int × Int} (hc : 1 ≤ c.1) : ∀ {n : Nat} {s : List Sz}, (chunksS c n s).flatten.length ≤ s.length
  | 0, s => by simp [chunksS]
  | n + 1, s => by
    rw [chunksS]
    split
    · have := chunks_flat hc (n := n) (s := s.drop c.1.toNat)
      rw [List.length_drop] at this
      rw [List.flatten_append, List.length_append]
      split <;> simp [gensS] at * <;> omega
    · simp
theorem tiers_flat {l : List Sz} {c : Int × Int} (hc : 1 ≤ c.1) {n : Nat} : (tiersS l c n).flatten.length ≤ n * l.length := by
  induction n with
  | zero => simp [tiersS]
  | succ n ih =>
    rw [tiersS_succ, List.flatten_append, List.length_append, Nat.succ_mul]
    have : (tierN l c n).flatten.length ≤ l.length := Nat.le_trans (chunks_flat hc) (Nat.le_trans (List.length_filter_le _ _) idle_len)
    omega
theorem runs_flat {c : Int × Int} (hc : 1 ≤ c.1) : ∀ {n : Nat} {s : List Sz}, (runsS c n s).flatten.length ≤ s.length
  | 0, s => by simp [runsS]
  | n + 1, s => by
    rw [runsS]
    split
    · split
      · have := runs_flat hc (n := n) (s := s.drop c.1.toNat)
        rw [List.length_drop] at this
        rw [List.flatten_cons, List.length_append]
        simp [gensS] at *; omega
      · have := runs_flat hc (n := n) (s := s.drop 1)
        rw [List.length_drop] at this; omega
    · simp
theorem kind_len {kind : Nat} {l : List Sz} {c : Int × Int} (hl : l.length ≤ 16) (hc : 1 ≤ c.1) : (kindS kind l c).length ≤ 1024 ∧ (kindS kind l c).flatten.length ≤ 1024 := by
  unfold kindS
  split
  · exact ⟨Nat.le_trans (tiersS_len hc) (by omega), Nat.le_trans (tiers_flat hc) (by omega)⟩
  · exact ⟨Nat.le_trans (runs_len hc) (by omega), Nat.le_trans (runs_flat hc) (by omega)⟩

theorem c_policy_by (kind : Nat) (hk : kind < 2) (l : List Sz) (c : Int × Int) (hl : l.length < 1000000000) : CG Try.prog 53 [.i kind, tsizes l, ttier c] (intss (byS kind l c)) := by
  refine ⟨k_policy_by.calls ?_⟩
  have g1 := c_policy_May l hl
  have g2 := c_policy_may c
  obtain ⟨c1, c2⟩ := c
  cases hm : mayS l <;> rw [hm] at g1
  · rw [byS, if_neg (by simp [hm])]
    (try conv => whnf); repeat ((first | refine (g1).go rfl ?_ | refine ⟨_, (g1).go rfl ⟨rfl, rfl⟩, ?_⟩ | refine And.intro (show cellsAll _ _ from by repeat (first | exact trivial | refine ⟨⟨rfl, rfl⟩, ?_⟩)) ?_ | refine ⟨_, getZ (by omega), ?_⟩ | refine ⟨_, getI (by omega) (by omega), ?_⟩ | refine ⟨by omega, rfl, ?_⟩ | refine ⟨by (simp; omega), rfl, ?_⟩ | refine ⟨rfl, _, rfl, ⟨rfl, rfl, by decide⟩, ?_⟩ | refine ⟨rfl, _, rfl, ?_⟩ | refine ⟨rfl, _, getO (by omega), ?_⟩ | refine ⟨rfl, ⟨by omega, by omega, by omega⟩, ?_⟩ | refine ⟨⟨rfl, rfl⟩, ?_⟩ | refine ⟨⟨rfl, rfl, rfl⟩, ?_⟩ | refine ⟨⟨rfl, rfl, by decide⟩, ?_⟩ | refine ⟨rfl, ?_⟩ | refine ⟨⟨by omega, by omega⟩, ⟨rfl, rfl⟩, ?_⟩ | refine ⟨in64 (by omega) (by omega), ?_⟩ | refine Br.dec (fun _ => ?_) (fun hh => absurd (by omega) hh) | refine Br.dec (fun hh => absurd hh (by omega)) (fun _ => ?_) | refine Br.eq (fun _ => ?_) (fun hh => absurd (by omega) hh) | refine Br.eq (fun hh => absurd hh (by omega)) (fun _ => ?_) | refine Br.ne (fun _ => ?_) (fun hh => absurd (by omega) hh) | refine Br.ne (fun hh => absurd hh (by omega)) (fun _ => ?_) | refine ⟨_, rfl, ?_⟩ | rw [← List.map_drop, ← List.map_take]); conv => whnf)
    exact ⟨Ends.ground (H := []) (L := [_, _]) 0 rfl ⟨rfl, rfl⟩⟩
  cases ht : mayT (c1, c2) <;> rw [ht] at g2
  · rw [byS, if_neg (by simp [ht])]
    (try conv => whnf); repeat ((first | refine (g1).go rfl ?_ | refine ⟨_, (g1).go rfl ⟨rfl, rfl⟩, ?_⟩ | refine (g2).go rfl ?_ | refine ⟨_, (g2).go rfl ⟨rfl, rfl⟩, ?_⟩ | refine And.intro (show cellsAll _ _ from by repeat (first | exact trivial | refine ⟨⟨rfl, rfl⟩, ?_⟩)) ?_ | refine ⟨_, getZ (by omega), ?_⟩ | refine ⟨_, getI (by omega) (by omega), ?_⟩ | refine ⟨by omega, rfl, ?_⟩ | refine ⟨by (simp; omega), rfl, ?_⟩ | refine ⟨rfl, _, rfl, ⟨rfl, rfl, by decide⟩, ?_⟩ | refine ⟨rfl, _, rfl, ?_⟩ | refine ⟨rfl, _, getO (by omega), ?_⟩ | refine ⟨rfl, ⟨by omega, by omega, by omega⟩, ?_⟩ | refine ⟨⟨rfl, rfl⟩, ?_⟩ | refine ⟨⟨rfl, rfl, rfl⟩, ?_⟩ | refine ⟨⟨rfl, rfl, by decide⟩, ?_⟩ | refine ⟨rfl, ?_⟩ | refine ⟨⟨by omega, by omega⟩, ⟨rfl, rfl⟩, ?_⟩ | refine ⟨in64 (by omega) (by omega), ?_⟩ | refine Br.dec (fun _ => ?_) (fun hh => absurd (by omega) hh) | refine Br.dec (fun hh => absurd hh (by omega)) (fun _ => ?_) | refine Br.eq (fun _ => ?_) (fun hh => absurd (by omega) hh) | refine Br.eq (fun hh => absurd hh (by omega)) (fun _ => ?_) | refine Br.ne (fun _ => ?_) (fun hh => absurd (by omega) hh) | refine Br.ne (fun hh => absurd hh (by omega)) (fun _ => ?_) | refine ⟨_, rfl, ?_⟩ | rw [← List.map_drop, ← List.map_take]); conv => whnf)
    exact ⟨Ends.ground (H := []) (L := [_, _]) 0 rfl ⟨rfl, rfl⟩⟩
  have hs := mayS_sane hm
  have hlen := mayS_len hm
  have hcc : 2 ≤ c1 ∧ c1 ≤ 8 ∧ 1 ≤ c2 ∧ c2 ≤ 64 := by simpa [mayT] using ht
  rw [byS, if_pos ⟨hm, ht⟩]
  have hkl := kind_len (kind := kind) (c := (c1, c2)) hlen (by dsimp only; omega)
  have hal := c_policy_alone l (kindS kind l (c1, c2))
  match kind, hk with
  | 0, _ =>
    (try conv => whnf); repeat ((first | refine (g1).go rfl ?_ | refine ⟨_, (g1).go rfl ⟨rfl, rfl⟩, ?_⟩ | refine (g2).go rfl ?_ | refine ⟨_, (g2).go rfl ⟨rfl, rfl⟩, ?_⟩ | refine And.intro (show cellsAll _ _ from by repeat (first | exact trivial | refine ⟨⟨rfl, rfl⟩, ?_⟩)) ?_ | refine ⟨_, getZ (by omega), ?_⟩ | refine ⟨_, getI (by omega) (by omega), ?_⟩ | refine ⟨by omega, rfl, ?_⟩ | refine ⟨by (simp; omega), rfl, ?_⟩ | refine ⟨rfl, _, rfl, ⟨rfl, rfl, by decide⟩, ?_⟩ | refine ⟨rfl, _, rfl, ?_⟩ | refine ⟨rfl, _, getO (by omega), ?_⟩ | refine ⟨rfl, ⟨by omega, by omega, by omega⟩, ?_⟩ | refine ⟨⟨rfl, rfl⟩, ?_⟩ | refine ⟨⟨rfl, rfl, rfl⟩, ?_⟩ | refine ⟨⟨rfl, rfl, by decide⟩, ?_⟩ | refine ⟨rfl, ?_⟩ | refine ⟨⟨by omega, by omega⟩, ⟨rfl, rfl⟩, ?_⟩ | refine ⟨in64 (by omega) (by omega), ?_⟩ | refine Br.dec (fun _ => ?_) (fun hh => absurd (by omega) hh) | refine Br.dec (fun hh => absurd hh (by omega)) (fun _ => ?_) | refine Br.eq (fun _ => ?_) (fun hh => absurd (by omega) hh) | refine Br.eq (fun hh => absurd hh (by omega)) (fun _ => ?_) | refine Br.ne (fun _ => ?_) (fun hh => absurd (by omega) hh) | refine Br.ne (fun hh => absurd hh (by omega)) (fun _ => ?_) | refine ⟨_, rfl, ?_⟩ | rw [← List.map_drop, ← List.map_take]); conv => whnf)
    refine ACalls.fl (c_policy_tiers l (c1, c2) (by omega) hs hcc.1 hcc.2.1 ⟨by dsimp only; omega, by dsimp only; omega⟩) [] rfl rfl rfl flatH.nil (by rintro r h ⟨g, _, rfl⟩; exact flatH.cons Blk.lt_g1 (flatH.cons Blk.lt_g flatH.nil)) ?_
    rintro r h ⟨g, rfl, rfl⟩
    conv => whnf
    refine ACalls.fl (hal g halfS 105 (by omega) (by omega) (by omega) fun s h => c_policy_byS1 s (hs s h)) [3] rfl rfl rfl (flatH.cons Blk.lt_g flatH.nil) (by rintro r h ⟨G, g1, g2, j, _, rfl⟩; exact flatH.cons Blk.lt_g (flatH.cons Blk.lt_g (flatH.cons Blk.lt_g flatH.nil))) ?_
    rintro r h ⟨G, g1, g2, j, rfl, rfl⟩
    (try conv => whnf); repeat ((first | refine And.intro (show cellsAll _ _ from by repeat (first | exact trivial | refine ⟨⟨rfl, rfl⟩, ?_⟩)) ?_ | refine ⟨_, getZ (by omega), ?_⟩ | refine ⟨_, getI (by omega) (by omega), ?_⟩ | refine ⟨by omega, rfl, ?_⟩ | refine ⟨by (simp; omega), rfl, ?_⟩ | refine ⟨rfl, _, rfl, ⟨rfl, rfl, by decide⟩, ?_⟩ | refine ⟨rfl, _, rfl, ?_⟩ | refine ⟨rfl, _, getO (by omega), ?_⟩ | refine ⟨rfl, ⟨by omega, by omega, by omega⟩, ?_⟩ | refine ⟨⟨rfl, rfl⟩, ?_⟩ | refine ⟨⟨rfl, rfl, rfl⟩, ?_⟩ | refine ⟨⟨rfl, rfl, by decide⟩, ?_⟩ | refine ⟨rfl, ?_⟩ | refine ⟨⟨by omega, by omega⟩, ⟨rfl, rfl⟩, ?_⟩ | refine ⟨in64 (by omega) (by omega), ?_⟩ | refine Br.dec (fun _ => ?_) (fun hh => absurd (by omega) hh) | refine Br.dec (fun hh => absurd hh (by omega)) (fun _ => ?_) | refine Br.eq (fun _ => ?_) (fun hh => absurd (by omega) hh) | refine Br.eq (fun hh => absurd hh (by omega)) (fun _ => ?_) | refine Br.ne (fun _ => ?_) (fun hh => absurd (by omega) hh) | refine Br.ne (fun hh => absurd hh (by omega)) (fun _ => ?_) | refine ⟨_, rfl, ?_⟩ | rw [← List.map_drop, ← List.map_take]); conv => whnf)
    exact ⟨Ends.ground (H := []) (L := _) 1 (gr_vls rfl (Nat.zero_le _) rfl) ⟨rfl, rfl⟩⟩
  | 1, _ =>
    (try conv => whnf); repeat ((first | refine (g1).go rfl ?_ | refine ⟨_, (g1).go rfl ⟨rfl, rfl⟩, ?_⟩ | refine (g2).go rfl ?_ | refine ⟨_, (g2).go rfl ⟨rfl, rfl⟩, ?_⟩ | refine And.intro (show cellsAll _ _ from by repeat (first | exact trivial | refine ⟨⟨rfl, rfl⟩, ?_⟩)) ?_ | refine ⟨_, getZ (by omega), ?_⟩ | refine ⟨_, getI (by omega) (by omega), ?_⟩ | refine ⟨by omega, rfl, ?_⟩ | refine ⟨by (simp; omega), rfl, ?_⟩ | refine ⟨rfl, _, rfl, ⟨rfl, rfl, by decide⟩, ?_⟩ | refine ⟨rfl, _, rfl, ?_⟩ | refine ⟨rfl, _, getO (by omega), ?_⟩ | refine ⟨rfl, ⟨by omega, by omega, by omega⟩, ?_⟩ | refine ⟨⟨rfl, rfl⟩, ?_⟩ | refine ⟨⟨rfl, rfl, rfl⟩, ?_⟩ | refine ⟨⟨rfl, rfl, by decide⟩, ?_⟩ | refine ⟨rfl, ?_⟩ | refine ⟨⟨by omega, by omega⟩, ⟨rfl, rfl⟩, ?_⟩ | refine ⟨in64 (by omega) (by omega), ?_⟩ | refine Br.dec (fun _ => ?_) (fun hh => absurd (by omega) hh) | refine Br.dec (fun hh => absurd hh (by omega)) (fun _ => ?_) | refine Br.eq (fun _ => ?_) (fun hh => absurd (by omega) hh) | refine Br.eq (fun hh => absurd hh (by omega)) (fun _ => ?_) | refine Br.ne (fun _ => ?_) (fun hh => absurd (by omega) hh) | refine Br.ne (fun hh => absurd hh (by omega)) (fun _ => ?_) | refine ⟨_, rfl, ?_⟩ | rw [← List.map_drop, ← List.map_take]); conv => whnf)
    refine ACalls.fl (c_policy_runs l (c1, c2) (by omega) hs hcc.1 hcc.2.1 ⟨by dsimp only; omega, by dsimp only; omega⟩) [] rfl rfl rfl flatH.nil (by rintro r h ⟨g, _, rfl⟩; exact flatH.cons Blk.lt_g1 (flatH.cons Blk.lt_g flatH.nil)) ?_
    rintro r h ⟨g, rfl, rfl⟩
    conv => whnf
    refine ACalls.fl (hal g halfS 105 (by omega) (by omega) (by omega) fun s h => c_policy_byS1 s (hs s h)) [3] rfl rfl rfl (flatH.cons Blk.lt_g flatH.nil) (by rintro r h ⟨G, g1, g2, j, _, rfl⟩; exact flatH.cons Blk.lt_g (flatH.cons Blk.lt_g (flatH.cons Blk.lt_g flatH.nil))) ?_
    rintro r h ⟨G, g1, g2, j, rfl, rfl⟩
    (try conv => whnf); repeat ((first | refine And.intro (show cellsAll _ _ from by repeat (first | exact trivial | refine ⟨⟨rfl, rfl⟩, ?_⟩)) ?_ | refine ⟨_, getZ (by omega), ?_⟩ | refine ⟨_, getI (by omega) (by omega), ?_⟩ | refine ⟨by omega, rfl, ?_⟩ | refine ⟨by (simp; omega), rfl, ?_⟩ | refine ⟨rfl, _, rfl, ⟨rfl, rfl, by decide⟩, ?_⟩ | refine ⟨rfl, _, rfl, ?_⟩ | refine ⟨rfl, _, getO (by omega), ?_⟩ | refine ⟨rfl, ⟨by omega, by omega, by omega⟩, ?_⟩ | refine ⟨⟨rfl, rfl⟩, ?_⟩ | refine ⟨⟨rfl, rfl, rfl⟩, ?_⟩ | refine ⟨⟨rfl, rfl, by decide⟩, ?_⟩ | refine ⟨rfl, ?_⟩ | refine ⟨⟨by omega, by omega⟩, ⟨rfl, rfl⟩, ?_⟩ | refine ⟨in64 (by omega) (by omega), ?_⟩ | refine Br.dec (fun _ => ?_) (fun hh => absurd (by omega) hh) | refine Br.dec (fun hh => absurd hh (by omega)) (fun _ => ?_) | refine Br.eq (fun _ => ?_) (fun hh => absurd (by omega) hh) | refine Br.eq (fun hh => absurd hh (by omega)) (fun _ => ?_) | refine Br.ne (fun _ => ?_) (fun hh => absurd (by omega) hh) | refine Br.ne (fun hh => absurd hh (by omega)) (fun _ => ?_) | refine ⟨_, rfl, ?_⟩ | rw [← List.map_drop, ← List.map_take]); conv => whnf)
    exact ⟨Ends.ground (H := []) (L := _) 1 (gr_vls rfl (Nat.zero_le _) rfl) ⟨rfl, rfl⟩⟩

theorem c_policy_Tiered (l : List Sz) (c : Int × Int) (hl : l.length < 1000000000) : CG Try.prog 16 [tsizes l, ttier c] (intss (byS 0 l c)) := by
  refine ⟨k_policy_Tiered.calls ?_⟩
  obtain ⟨c1, c2⟩ := c
  (try conv => whnf); repeat ((first | refine (c_policy_by 0 (by omega) l (c1, c2) hl).go rfl ?_ | refine ⟨_, (c_policy_by 0 (by omega) l (c1, c2) hl).go rfl ⟨rfl, rfl⟩, ?_⟩ | refine And.intro (show cellsAll _ _ from by repeat (first | exact trivial | refine ⟨⟨rfl, rfl⟩, ?_⟩)) ?_ | refine ⟨_, getZ (by omega), ?_⟩ | refine ⟨_, getI (by omega) (by omega), ?_⟩ | refine ⟨by omega, rfl, ?_⟩ | refine ⟨by (simp; omega), rfl, ?_⟩ | refine ⟨rfl, _, rfl, ⟨rfl, rfl, by decide⟩, ?_⟩ | refine ⟨rfl, _, rfl, ?_⟩ | refine ⟨rfl, _, getO (by omega), ?_⟩ | refine ⟨rfl, ⟨by omega, by omega, by omega⟩, ?_⟩ | refine ⟨⟨rfl, rfl⟩, ?_⟩ | refine ⟨⟨rfl, rfl, rfl⟩, ?_⟩ | refine ⟨⟨rfl, rfl, by decide⟩, ?_⟩ | refine ⟨rfl, ?_⟩ | refine ⟨⟨by omega, by omega⟩, ⟨rfl, rfl⟩, ?_⟩ | refine ⟨in64 (by omega) (by omega), ?_⟩ | refine Br.dec (fun _ => ?_) (fun hh => absurd (by omega) hh) | refine Br.dec (fun hh => absurd hh (by omega)) (fun _ => ?_) | refine Br.eq (fun _ => ?_) (fun hh => absurd (by omega) hh) | refine Br.eq (fun hh => absurd hh (by omega)) (fun _ => ?_) | refine Br.ne (fun _ => ?_) (fun hh => absurd (by omega) hh) | refine Br.ne (fun hh => absurd hh (by omega)) (fun _ => ?_) | refine ⟨_, rfl, ?_⟩ | rw [← List.map_drop, ← List.map_take]); conv => whnf)
  exact ⟨Ends.ground (H := []) (L := [_]) 0 rfl ⟨rfl, rfl⟩⟩
theorem c_policy_Logs (l : List Sz) (c : Int × Int) (hl : l.length < 1000000000) : CG Try.prog 18 [tsizes l, ttier c] (intss (byS 1 l c)) := by
  refine ⟨k_policy_Logs.calls ?_⟩
  obtain ⟨c1, c2⟩ := c
  (try conv => whnf); repeat ((first | refine (c_policy_by 1 (by omega) l (c1, c2) hl).go rfl ?_ | refine ⟨_, (c_policy_by 1 (by omega) l (c1, c2) hl).go rfl ⟨rfl, rfl⟩, ?_⟩ | refine And.intro (show cellsAll _ _ from by repeat (first | exact trivial | refine ⟨⟨rfl, rfl⟩, ?_⟩)) ?_ | refine ⟨_, getZ (by omega), ?_⟩ | refine ⟨_, getI (by omega) (by omega), ?_⟩ | refine ⟨by omega, rfl, ?_⟩ | refine ⟨by (simp; omega), rfl, ?_⟩ | refine ⟨rfl, _, rfl, ⟨rfl, rfl, by decide⟩, ?_⟩ | refine ⟨rfl, _, rfl, ?_⟩ | refine ⟨rfl, _, getO (by omega), ?_⟩ | refine ⟨rfl, ⟨by omega, by omega, by omega⟩, ?_⟩ | refine ⟨⟨rfl, rfl⟩, ?_⟩ | refine ⟨⟨rfl, rfl, rfl⟩, ?_⟩ | refine ⟨⟨rfl, rfl, by decide⟩, ?_⟩ | refine ⟨rfl, ?_⟩ | refine ⟨⟨by omega, by omega⟩, ⟨rfl, rfl⟩, ?_⟩ | refine ⟨in64 (by omega) (by omega), ?_⟩ | refine Br.dec (fun _ => ?_) (fun hh => absurd (by omega) hh) | refine Br.dec (fun hh => absurd hh (by omega)) (fun _ => ?_) | refine Br.eq (fun _ => ?_) (fun hh => absurd (by omega) hh) | refine Br.eq (fun hh => absurd hh (by omega)) (fun _ => ?_) | refine Br.ne (fun _ => ?_) (fun hh => absurd (by omega) hh) | refine Br.ne (fun hh => absurd hh (by omega)) (fun _ => ?_) | refine ⟨_, rfl, ?_⟩ | rw [← List.map_drop, ← List.map_take]); conv => whnf)
  exact ⟨Ends.ground (H := []) (L := [_]) 0 rfl ⟨rfl, rfl⟩⟩
end Go.Aw
