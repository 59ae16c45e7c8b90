/- Contracts of functions of the given program, by the abstract walk, for law PolicyKeepsUpto: what each one hands back; no condition but those that each theorem states. -/
import Derived.Test.YthpnnkoaomekfaaC6
namespace Go.Aw
open Go.Proofs
set_option maxRecDepth 100000
set_option maxHeartbeats 4000000

def forceP (l : List Sz) (n : Int) : List (List Int) := if n < (idleS l).length then [gensS ((idleS l).take (((idleS l).length : Int) - n + 1).toNat)] else []
def forceS (l : List Sz) (n : Int) : List (List Int) := if mayS l = true ∧ 1 ≤ n then aloneS l (forceP l n) deadS else []
theorem force_len {l : List Sz} {n : Int} (hl : l.length ≤ 16) : (forceP l n).length ≤ 1 ∧ (forceP l n).flatten.length ≤ 16 := by
  have := idle_len (l := l)
  unfold forceP
  split
  · simp [gensS]; omega
  · simp

theorem c_policy_Force (l : List Sz) (n : Int) (hl : l.length < 1000000000) (hn : inR .i64 n) : CG Try.prog 20 [tsizes l, .i n] (intss (forceS l n)) := by
  refine ⟨k_policy_Force.calls ?_⟩
  have g1 := c_policy_May l hl
  have hn' : -9223372036854775808 ≤ n ∧ n ≤ 9223372036854775807 := by
    simpa [inR, IntKind.min, IntKind.max, IntKind.signed, IntKind.bits] using hn
  cases hm : mayS l <;> rw [hm] at g1
  · rw [forceS, if_neg (by simp [hm])]
    (try conv => whnf); repeat ((first | refine (g1).go rfl ?_ | refine ⟨_, (g1).go rfl ⟨rfl, rfl⟩, ?_⟩ | refine And.intro (show cellsAll _ _ from by repeat (first | exact trivial | refine ⟨⟨rfl, rfl⟩, ?_⟩)) ?_ | refine ⟨_, getZ (by omega), ?_⟩ | refine ⟨_, getI (by omega) (by omega), ?_⟩ | refine ⟨by omega, rfl, ?_⟩ | refine ⟨by (simp; omega), rfl, ?_⟩ | refine ⟨rfl, _, rfl, ⟨rfl, rfl, by decide⟩, ?_⟩ | refine ⟨rfl, _, rfl, ?_⟩ | refine ⟨rfl, _, getO (by omega), ?_⟩ | refine ⟨rfl, ⟨by omega, by omega, by omega⟩, ?_⟩ | refine ⟨⟨rfl, rfl⟩, ?_⟩ | refine ⟨⟨rfl, rfl, rfl⟩, ?_⟩ | refine ⟨⟨rfl, rfl, by decide⟩, ?_⟩ | refine ⟨rfl, ?_⟩ | refine ⟨⟨by omega, by omega⟩, ⟨rfl, rfl⟩, ?_⟩ | refine ⟨in64 (by omega) (by omega), ?_⟩ | refine Br.dec (fun _ => ?_) (fun hh => absurd (by omega) hh) | refine Br.dec (fun hh => absurd hh (by omega)) (fun _ => ?_) | refine Br.eq (fun _ => ?_) (fun hh => absurd (by omega) hh) | refine Br.eq (fun hh => absurd hh (by omega)) (fun _ => ?_) | refine Br.ne (fun _ => ?_) (fun hh => absurd (by omega) hh) | refine Br.ne (fun hh => absurd hh (by omega)) (fun _ => ?_) | refine ⟨_, rfl, ?_⟩ | rw [← List.map_drop, ← List.map_take]); conv => whnf)
    exact ⟨Ends.ground (H := []) (L := []) 0 rfl ⟨rfl, rfl⟩⟩
  by_cases hn1 : 1 ≤ n
  case neg =>
    rw [forceS, if_neg (fun h => hn1 h.2)]
    (try conv => whnf); repeat ((first | refine (g1).go rfl ?_ | refine ⟨_, (g1).go rfl ⟨rfl, rfl⟩, ?_⟩ | refine And.intro (show cellsAll _ _ from by repeat (first | exact trivial | refine ⟨⟨rfl, rfl⟩, ?_⟩)) ?_ | refine ⟨_, getZ (by omega), ?_⟩ | refine ⟨_, getI (by omega) (by omega), ?_⟩ | refine ⟨by omega, rfl, ?_⟩ | refine ⟨by (simp; omega), rfl, ?_⟩ | refine ⟨rfl, _, rfl, ⟨rfl, rfl, by decide⟩, ?_⟩ | refine ⟨rfl, _, rfl, ?_⟩ | refine ⟨rfl, _, getO (by omega), ?_⟩ | refine ⟨rfl, ⟨by omega, by omega, by omega⟩, ?_⟩ | refine ⟨⟨rfl, rfl⟩, ?_⟩ | refine ⟨⟨rfl, rfl, rfl⟩, ?_⟩ | refine ⟨⟨rfl, rfl, by decide⟩, ?_⟩ | refine ⟨rfl, ?_⟩ | refine ⟨⟨by omega, by omega⟩, ⟨rfl, rfl⟩, ?_⟩ | refine ⟨in64 (by omega) (by omega), ?_⟩ | refine Br.dec (fun _ => ?_) (fun hh => absurd (by omega) hh) | refine Br.dec (fun hh => absurd hh (by omega)) (fun _ => ?_) | refine Br.eq (fun _ => ?_) (fun hh => absurd (by omega) hh) | refine Br.eq (fun hh => absurd hh (by omega)) (fun _ => ?_) | refine Br.ne (fun _ => ?_) (fun hh => absurd (by omega) hh) | refine Br.ne (fun hh => absurd hh (by omega)) (fun _ => ?_) | refine ⟨_, rfl, ?_⟩ | rw [← List.map_drop, ← List.map_take]); conv => whnf)
    exact ⟨Ends.ground (H := []) (L := []) 0 rfl ⟨rfl, rfl⟩⟩
  have hs := mayS_sane hm
  have hlen := mayS_len hm
  have hil := idle_len (l := l)
  have hfl := force_len (l := l) (n := n) hlen
  rw [forceS, if_pos ⟨hm, hn1⟩]
  (try conv => whnf); repeat ((first | refine (g1).go rfl ?_ | refine ⟨_, (g1).go rfl ⟨rfl, rfl⟩, ?_⟩ | refine And.intro (show cellsAll _ _ from by repeat (first | exact trivial | refine ⟨⟨rfl, rfl⟩, ?_⟩)) ?_ | refine ⟨_, getZ (by omega), ?_⟩ | refine ⟨_, getI (by omega) (by omega), ?_⟩ | refine ⟨by omega, rfl, ?_⟩ | refine ⟨by (simp; omega), rfl, ?_⟩ | refine ⟨rfl, _, rfl, ⟨rfl, rfl, by decide⟩, ?_⟩ | refine ⟨rfl, _, rfl, ?_⟩ | refine ⟨rfl, _, getO (by omega), ?_⟩ | refine ⟨rfl, ⟨by omega, by omega, by omega⟩, ?_⟩ | refine ⟨⟨rfl, rfl⟩, ?_⟩ | refine ⟨⟨rfl, rfl, rfl⟩, ?_⟩ | refine ⟨⟨rfl, rfl, by decide⟩, ?_⟩ | refine ⟨rfl, ?_⟩ | refine ⟨⟨by omega, by omega⟩, ⟨rfl, rfl⟩, ?_⟩ | refine ⟨in64 (by omega) (by omega), ?_⟩ | refine Br.dec (fun _ => ?_) (fun hh => absurd (by omega) hh) | refine Br.dec (fun hh => absurd hh (by omega)) (fun _ => ?_) | refine Br.eq (fun _ => ?_) (fun hh => absurd (by omega) hh) | refine Br.eq (fun hh => absurd hh (by omega)) (fun _ => ?_) | refine Br.ne (fun _ => ?_) (fun hh => absurd (by omega) hh) | refine Br.ne (fun hh => absurd hh (by omega)) (fun _ => ?_) | refine ⟨_, rfl, ?_⟩ | rw [← List.map_drop, ← List.map_take]); conv => whnf)
  refine (c_idle_own l hl).mono ?_
  rintro r h ⟨g, j, rfl, rfl⟩
  (try conv => whnf); repeat ((first | refine And.intro (show cellsAll _ _ from by repeat (first | exact trivial | refine ⟨⟨rfl, rfl⟩, ?_⟩)) ?_ | refine ⟨_, getZ (by omega), ?_⟩ | refine ⟨_, getI (by omega) (by omega), ?_⟩ | refine ⟨by omega, rfl, ?_⟩ | refine ⟨by (simp; omega), rfl, ?_⟩ | refine ⟨rfl, _, rfl, ⟨rfl, rfl, by decide⟩, ?_⟩ | refine ⟨rfl, _, rfl, ?_⟩ | refine ⟨rfl, _, getO (by omega), ?_⟩ | refine ⟨rfl, ⟨by omega, by omega, by omega⟩, ?_⟩ | refine ⟨⟨rfl, rfl⟩, ?_⟩ | refine ⟨⟨rfl, rfl, rfl⟩, ?_⟩ | refine ⟨⟨rfl, rfl, by decide⟩, ?_⟩ | refine ⟨rfl, ?_⟩ | refine ⟨⟨by omega, by omega⟩, ⟨rfl, rfl⟩, ?_⟩ | refine ⟨in64 (by omega) (by omega), ?_⟩ | refine Br.dec (fun _ => ?_) (fun hh => absurd (by omega) hh) | refine Br.dec (fun hh => absurd hh (by omega)) (fun _ => ?_) | refine Br.eq (fun _ => ?_) (fun hh => absurd (by omega) hh) | refine Br.eq (fun hh => absurd hh (by omega)) (fun _ => ?_) | refine Br.ne (fun _ => ?_) (fun hh => absurd (by omega) hh) | refine Br.ne (fun hh => absurd hh (by omega)) (fun _ => ?_) | refine ⟨_, rfl, ?_⟩ | rw [← List.map_drop, ← List.map_take]); conv => whnf)
  refine Br.dec (fun h1 => ?_) (fun h1 => ?_)
  · have hf : forceP l n = [gensS ((idleS l).take (((idleS l).length : Int) - n + 1).toNat)] := by rw [forceP, if_pos (by omega)]
    (try conv => whnf); repeat ((first | refine And.intro (show cellsAll _ _ from by repeat (first | exact trivial | refine ⟨⟨rfl, rfl⟩, ?_⟩)) ?_ | refine ⟨_, getZ (by omega), ?_⟩ | refine ⟨_, getI (by omega) (by omega), ?_⟩ | refine ⟨by omega, rfl, ?_⟩ | refine ⟨by (simp; omega), rfl, ?_⟩ | refine ⟨rfl, _, rfl, ⟨rfl, rfl, by decide⟩, ?_⟩ | refine ⟨rfl, _, rfl, ?_⟩ | refine ⟨rfl, _, getO (by omega), ?_⟩ | refine ⟨rfl, ⟨by omega, by omega, by omega⟩, ?_⟩ | refine ⟨⟨rfl, rfl⟩, ?_⟩ | refine ⟨⟨rfl, rfl, rfl⟩, ?_⟩ | refine ⟨⟨rfl, rfl, by decide⟩, ?_⟩ | refine ⟨rfl, ?_⟩ | refine ⟨⟨by omega, by omega⟩, ⟨rfl, rfl⟩, ?_⟩ | refine ⟨in64 (by omega) (by omega), ?_⟩ | refine Br.dec (fun _ => ?_) (fun hh => absurd (by omega) hh) | refine Br.dec (fun hh => absurd hh (by omega)) (fun _ => ?_) | refine Br.eq (fun _ => ?_) (fun hh => absurd (by omega) hh) | refine Br.eq (fun hh => absurd hh (by omega)) (fun _ => ?_) | refine Br.ne (fun _ => ?_) (fun hh => absurd (by omega) hh) | refine Br.ne (fun hh => absurd hh (by omega)) (fun _ => ?_) | refine ⟨_, rfl, ?_⟩ | rw [← List.map_drop, ← List.map_take]); conv => whnf)
    have hS : (((idleS l ++ j).drop 0).take (((idleS l).length : Int) - n + 1).toNat) = (idleS l).take (((idleS l).length : Int) - n + 1).toNat := by
      rw [List.drop_zero, List.take_append_of_le_length (by omega)]
    refine ACalls.fl (c_gens_own (idleS l ++ j) g 0 (((idleS l).length : Int) - n + 1).toNat (by omega) (by simp; omega)) [0] rfl rfl rfl (flatH.cons vsz_lt flatH.nil) (by rintro r h ⟨_, rfl⟩; exact flatH.cons vsz_lt flatH.nil) ?_
    rintro r h ⟨rfl, rfl⟩
    rw [hS]
    (try conv => whnf); repeat ((first | refine And.intro (show cellsAll _ _ from by repeat (first | exact trivial | refine ⟨⟨rfl, rfl⟩, ?_⟩)) ?_ | refine ⟨_, getZ (by omega), ?_⟩ | refine ⟨_, getI (by omega) (by omega), ?_⟩ | refine ⟨by omega, rfl, ?_⟩ | refine ⟨by (simp; omega), rfl, ?_⟩ | refine ⟨rfl, _, rfl, ⟨rfl, rfl, by decide⟩, ?_⟩ | refine ⟨rfl, _, rfl, ?_⟩ | refine ⟨rfl, _, getO (by omega), ?_⟩ | refine ⟨rfl, ⟨by omega, by omega, by omega⟩, ?_⟩ | refine ⟨⟨rfl, rfl⟩, ?_⟩ | refine ⟨⟨rfl, rfl, rfl⟩, ?_⟩ | refine ⟨⟨rfl, rfl, by decide⟩, ?_⟩ | refine ⟨rfl, ?_⟩ | refine ⟨⟨by omega, by omega⟩, ⟨rfl, rfl⟩, ?_⟩ | refine ⟨in64 (by omega) (by omega), ?_⟩ | refine Br.dec (fun _ => ?_) (fun hh => absurd (by omega) hh) | refine Br.dec (fun hh => absurd hh (by omega)) (fun _ => ?_) | refine Br.eq (fun _ => ?_) (fun hh => absurd (by omega) hh) | refine Br.eq (fun hh => absurd hh (by omega)) (fun _ => ?_) | refine Br.ne (fun _ => ?_) (fun hh => absurd (by omega) hh) | refine Br.ne (fun hh => absurd hh (by omega)) (fun _ => ?_) | refine ⟨_, rfl, ?_⟩ | rw [← List.map_drop, ← List.map_take]); conv => whnf)
    refine ⟨by simp, ?_⟩
    (try conv => whnf); repeat ((first | refine And.intro (show cellsAll _ _ from by repeat (first | exact trivial | refine ⟨⟨rfl, rfl⟩, ?_⟩)) ?_ | refine ⟨_, getZ (by omega), ?_⟩ | refine ⟨_, getI (by omega) (by omega), ?_⟩ | refine ⟨by omega, rfl, ?_⟩ | refine ⟨by (simp; omega), rfl, ?_⟩ | refine ⟨rfl, _, rfl, ⟨rfl, rfl, by decide⟩, ?_⟩ | refine ⟨rfl, _, rfl, ?_⟩ | refine ⟨rfl, _, getO (by omega), ?_⟩ | refine ⟨rfl, ⟨by omega, by omega, by omega⟩, ?_⟩ | refine ⟨⟨rfl, rfl⟩, ?_⟩ | refine ⟨⟨rfl, rfl, rfl⟩, ?_⟩ | refine ⟨⟨rfl, rfl, by decide⟩, ?_⟩ | refine ⟨rfl, ?_⟩ | refine ⟨⟨by omega, by omega⟩, ⟨rfl, rfl⟩, ?_⟩ | refine ⟨in64 (by omega) (by omega), ?_⟩ | refine Br.dec (fun _ => ?_) (fun hh => absurd (by omega) hh) | refine Br.dec (fun hh => absurd hh (by omega)) (fun _ => ?_) | refine Br.eq (fun _ => ?_) (fun hh => absurd (by omega) hh) | refine Br.eq (fun hh => absurd hh (by omega)) (fun _ => ?_) | refine Br.ne (fun _ => ?_) (fun hh => absurd (by omega) hh) | refine Br.ne (fun hh => absurd hh (by omega)) (fun _ => ?_) | refine ⟨_, rfl, ?_⟩ | rw [← List.map_drop, ← List.map_take]); conv => whnf)
    rw [hf] at hfl ⊢
    refine ACalls.fl (c_policy_alone l [gensS ((idleS l).take (((idleS l).length : Int) - n + 1).toNat)] 0 deadS 60 (by omega) (by omega) (by omega) fun s _ => c_policy_ForceS1 s) [1] rfl rfl rfl (flatH.cons Blk.lt_g flatH.nil) (by rintro r h ⟨G, g1, g2, j, _, rfl⟩; exact flatH.cons Blk.lt_g (flatH.cons Blk.lt_g (flatH.cons Blk.lt_g flatH.nil))) ?_
    rintro r h ⟨G, g1, g2, j, rfl, rfl⟩
    (try conv => whnf); repeat ((first | refine And.intro (show cellsAll _ _ from by repeat (first | exact trivial | refine ⟨⟨rfl, rfl⟩, ?_⟩)) ?_ | refine ⟨_, getZ (by omega), ?_⟩ | refine ⟨_, getI (by omega) (by omega), ?_⟩ | refine ⟨by omega, rfl, ?_⟩ | refine ⟨by (simp; omega), rfl, ?_⟩ | refine ⟨rfl, _, rfl, ⟨rfl, rfl, by decide⟩, ?_⟩ | refine ⟨rfl, _, rfl, ?_⟩ | refine ⟨rfl, _, getO (by omega), ?_⟩ | refine ⟨rfl, ⟨by omega, by omega, by omega⟩, ?_⟩ | refine ⟨⟨rfl, rfl⟩, ?_⟩ | refine ⟨⟨rfl, rfl, rfl⟩, ?_⟩ | refine ⟨⟨rfl, rfl, by decide⟩, ?_⟩ | refine ⟨rfl, ?_⟩ | refine ⟨⟨by omega, by omega⟩, ⟨rfl, rfl⟩, ?_⟩ | refine ⟨in64 (by omega) (by omega), ?_⟩ | refine Br.dec (fun _ => ?_) (fun hh => absurd (by omega) hh) | refine Br.dec (fun hh => absurd hh (by omega)) (fun _ => ?_) | refine Br.eq (fun _ => ?_) (fun hh => absurd (by omega) hh) | refine Br.eq (fun hh => absurd hh (by omega)) (fun _ => ?_) | refine Br.ne (fun _ => ?_) (fun hh => absurd (by omega) hh) | refine Br.ne (fun hh => absurd hh (by omega)) (fun _ => ?_) | refine ⟨_, rfl, ?_⟩ | rw [← List.map_drop, ← List.map_take]); conv => whnf)
    exact ⟨Ends.ground (H := []) (L := _) 1 (gr_vls rfl (Nat.zero_le _) rfl) ⟨rfl, rfl⟩⟩
  · have hf : forceP l n = [] := by rw [forceP, if_neg (by omega)]
    (try conv => whnf); repeat ((first | refine And.intro (show cellsAll _ _ from by repeat (first | exact trivial | refine ⟨⟨rfl, rfl⟩, ?_⟩)) ?_ | refine ⟨_, getZ (by omega), ?_⟩ | refine ⟨_, getI (by omega) (by omega), ?_⟩ | refine ⟨by omega, rfl, ?_⟩ | refine ⟨by (simp; omega), rfl, ?_⟩ | refine ⟨rfl, _, rfl, ⟨rfl, rfl, by decide⟩, ?_⟩ | refine ⟨rfl, _, rfl, ?_⟩ | refine ⟨rfl, _, getO (by omega), ?_⟩ | refine ⟨rfl, ⟨by omega, by omega, by omega⟩, ?_⟩ | refine ⟨⟨rfl, rfl⟩, ?_⟩ | refine ⟨⟨rfl, rfl, rfl⟩, ?_⟩ | refine ⟨⟨rfl, rfl, by decide⟩, ?_⟩ | refine ⟨rfl, ?_⟩ | refine ⟨⟨by omega, by omega⟩, ⟨rfl, rfl⟩, ?_⟩ | refine ⟨in64 (by omega) (by omega), ?_⟩ | refine Br.dec (fun _ => ?_) (fun hh => absurd (by omega) hh) | refine Br.dec (fun hh => absurd hh (by omega)) (fun _ => ?_) | refine Br.eq (fun _ => ?_) (fun hh => absurd (by omega) hh) | refine Br.eq (fun hh => absurd hh (by omega)) (fun _ => ?_) | refine Br.ne (fun _ => ?_) (fun hh => absurd (by omega) hh) | refine Br.ne (fun hh => absurd hh (by omega)) (fun _ => ?_) | refine ⟨_, rfl, ?_⟩ | rw [← List.map_drop, ← List.map_take]); conv => whnf)
    rw [hf]
    refine ACalls.nil 1 1 rfl ?_
    refine ACalls.fl (c_policy_alone l [] 0 deadS 60 (by omega) (by simp) (by simp) fun s _ => c_policy_ForceS1 s) [1] rfl rfl rfl (flatH.cons Blk.lt_g0 flatH.nil) (by rintro r h ⟨G, g1, g2, j, _, rfl⟩; exact flatH.cons Blk.lt_g (flatH.cons Blk.lt_g (flatH.cons Blk.lt_g flatH.nil))) ?_
    rintro r h ⟨G, g1, g2, j, rfl, rfl⟩
    (try conv => whnf); repeat ((first | refine And.intro (show cellsAll _ _ from by repeat (first | exact trivial | refine ⟨⟨rfl, rfl⟩, ?_⟩)) ?_ | refine ⟨_, getZ (by omega), ?_⟩ | refine ⟨_, getI (by omega) (by omega), ?_⟩ | refine ⟨by omega, rfl, ?_⟩ | refine ⟨by (simp; omega), rfl, ?_⟩ | refine ⟨rfl, _, rfl, ⟨rfl, rfl, by decide⟩, ?_⟩ | refine ⟨rfl, _, rfl, ?_⟩ | refine ⟨rfl, _, getO (by omega), ?_⟩ | refine ⟨rfl, ⟨by omega, by omega, by omega⟩, ?_⟩ | refine ⟨⟨rfl, rfl⟩, ?_⟩ | refine ⟨⟨rfl, rfl, rfl⟩, ?_⟩ | refine ⟨⟨rfl, rfl, by decide⟩, ?_⟩ | refine ⟨rfl, ?_⟩ | refine ⟨⟨by omega, by omega⟩, ⟨rfl, rfl⟩, ?_⟩ | refine ⟨in64 (by omega) (by omega), ?_⟩ | refine Br.dec (fun _ => ?_) (fun hh => absurd (by omega) hh) | refine Br.dec (fun hh => absurd hh (by omega)) (fun _ => ?_) | refine Br.eq (fun _ => ?_) (fun hh => absurd (by omega) hh) | refine Br.eq (fun hh => absurd hh (by omega)) (fun _ => ?_) | refine Br.ne (fun _ => ?_) (fun hh => absurd (by omega) hh) | refine Br.ne (fun hh => absurd hh (by omega)) (fun _ => ?_) | refine ⟨_, rfl, ?_⟩ | rw [← List.map_drop, ← List.map_take]); conv => whnf)
    exact ⟨Ends.ground (H := []) (L := _) 1 (gr_vls rfl (Nat.zero_le _) rfl) ⟨rfl, rfl⟩⟩
end Go.Aw
namespace Go.Aw
open Go.Proofs
set_option maxRecDepth 100000
set_option maxHeartbeats 4000000

theorem c_ref12_has (xs : List Int) (n : Int) (hl : xs.length < 9223372036854775808) : CG Try.prog 71 [tints xs, .i n] (.b (decide (n ∈ xs))) := by
  refine ⟨k_ref12_has.calls ?_⟩
  have hm : (xs.map T.i).length = xs.length := by simp
  conv => whnf
  refine SW.loop (α := Nat) (fun a => tm 18 [(0, ints xs), (1, .g (.i n)), (5, .g (.i a))]) (fun _ => []) (fun a => a ≤ xs.length ∧ n ∉ xs.take a) (fun a => xs.length - a) 0 ?_ ?_ ?_ ?_
  · simp
  · rfl
  · simp [subT, subV, tm, tmGo, ints, tints]
  · rintro k ⟨hk, hr⟩
    dsimp only at hk hr ⊢
    conv => whnf
    refine Br.dec (fun h => ?_) (fun h => ?_)
    · have hk' : k < xs.length := by omega
      (try conv => whnf); repeat ((first | refine And.intro (show cellsAll _ _ from by repeat (first | exact trivial | refine ⟨⟨rfl, rfl⟩, ?_⟩)) ?_ | refine ⟨_, getZ (by omega), ?_⟩ | refine ⟨_, getI (by omega) (by omega), ?_⟩ | refine ⟨by omega, rfl, ?_⟩ | refine ⟨by (simp; omega), rfl, ?_⟩ | refine ⟨rfl, _, rfl, ⟨rfl, rfl, by decide⟩, ?_⟩ | refine ⟨rfl, _, rfl, ?_⟩ | refine ⟨rfl, _, getO (by omega), ?_⟩ | refine ⟨rfl, ⟨by omega, by omega, by omega⟩, ?_⟩ | refine ⟨⟨rfl, rfl⟩, ?_⟩ | refine ⟨⟨rfl, rfl, rfl⟩, ?_⟩ | refine ⟨⟨rfl, rfl, by decide⟩, ?_⟩ | refine ⟨rfl, ?_⟩ | refine ⟨⟨by omega, by omega⟩, ⟨rfl, rfl⟩, ?_⟩ | refine ⟨in64 (by omega) (by omega), ?_⟩ | refine Br.dec (fun _ => ?_) (fun hh => absurd (by omega) hh) | refine Br.dec (fun hh => absurd hh (by omega)) (fun _ => ?_) | refine Br.eq (fun _ => ?_) (fun hh => absurd (by omega) hh) | refine Br.eq (fun hh => absurd hh (by omega)) (fun _ => ?_) | refine Br.ne (fun _ => ?_) (fun hh => absurd (by omega) hh) | refine Br.ne (fun hh => absurd hh (by omega)) (fun _ => ?_) | refine ⟨_, rfl, ?_⟩ | rw [← List.map_drop, ← List.map_take]); conv => whnf)
      refine Br.eq (fun h2 => ?_) (fun h2 => ?_)
      · (try conv => whnf); repeat ((first | refine And.intro (show cellsAll _ _ from by repeat (first | exact trivial | refine ⟨⟨rfl, rfl⟩, ?_⟩)) ?_ | refine ⟨_, getZ (by omega), ?_⟩ | refine ⟨_, getI (by omega) (by omega), ?_⟩ | refine ⟨by omega, rfl, ?_⟩ | refine ⟨by (simp; omega), rfl, ?_⟩ | refine ⟨rfl, _, rfl, ⟨rfl, rfl, by decide⟩, ?_⟩ | refine ⟨rfl, _, rfl, ?_⟩ | refine ⟨rfl, _, getO (by omega), ?_⟩ | refine ⟨rfl, ⟨by omega, by omega, by omega⟩, ?_⟩ | refine ⟨⟨rfl, rfl⟩, ?_⟩ | refine ⟨⟨rfl, rfl, rfl⟩, ?_⟩ | refine ⟨⟨rfl, rfl, by decide⟩, ?_⟩ | refine ⟨rfl, ?_⟩ | refine ⟨⟨by omega, by omega⟩, ⟨rfl, rfl⟩, ?_⟩ | refine ⟨in64 (by omega) (by omega), ?_⟩ | refine Br.dec (fun _ => ?_) (fun hh => absurd (by omega) hh) | refine Br.dec (fun hh => absurd hh (by omega)) (fun _ => ?_) | refine Br.eq (fun _ => ?_) (fun hh => absurd (by omega) hh) | refine Br.eq (fun hh => absurd hh (by omega)) (fun _ => ?_) | refine Br.ne (fun _ => ?_) (fun hh => absurd (by omega) hh) | refine Br.ne (fun hh => absurd hh (by omega)) (fun _ => ?_) | refine ⟨_, rfl, ?_⟩ | rw [← List.map_drop, ← List.map_take]); conv => whnf)
        rw [decide_eq_true (p := n ∈ xs) (by rw [← h2]; exact List.getElem_mem _)]
        exact ⟨Ends.keep ⟨rfl, rfl⟩⟩
      · (try conv => whnf); repeat ((first | refine And.intro (show cellsAll _ _ from by repeat (first | exact trivial | refine ⟨⟨rfl, rfl⟩, ?_⟩)) ?_ | refine ⟨_, getZ (by omega), ?_⟩ | refine ⟨_, getI (by omega) (by omega), ?_⟩ | refine ⟨by omega, rfl, ?_⟩ | refine ⟨by (simp; omega), rfl, ?_⟩ | refine ⟨rfl, _, rfl, ⟨rfl, rfl, by decide⟩, ?_⟩ | refine ⟨rfl, _, rfl, ?_⟩ | refine ⟨rfl, _, getO (by omega), ?_⟩ | refine ⟨rfl, ⟨by omega, by omega, by omega⟩, ?_⟩ | refine ⟨⟨rfl, rfl⟩, ?_⟩ | refine ⟨⟨rfl, rfl, rfl⟩, ?_⟩ | refine ⟨⟨rfl, rfl, by decide⟩, ?_⟩ | refine ⟨rfl, ?_⟩ | refine ⟨⟨by omega, by omega⟩, ⟨rfl, rfl⟩, ?_⟩ | refine ⟨in64 (by omega) (by omega), ?_⟩ | refine Br.dec (fun _ => ?_) (fun hh => absurd (by omega) hh) | refine Br.dec (fun hh => absurd hh (by omega)) (fun _ => ?_) | refine Br.eq (fun _ => ?_) (fun hh => absurd (by omega) hh) | refine Br.eq (fun hh => absurd hh (by omega)) (fun _ => ?_) | refine Br.ne (fun _ => ?_) (fun hh => absurd (by omega) hh) | refine Br.ne (fun hh => absurd hh (by omega)) (fun _ => ?_) | refine ⟨_, rfl, ?_⟩ | rw [← List.map_drop, ← List.map_take]); conv => whnf)
        refine ⟨⟨k + 1, ⟨hk', ?_⟩, by show xs.length - (k + 1) < xs.length - k; omega, rfl, by simp [subT, subV, tm, tmGo, ints]⟩⟩
        rw [List.take_succ_eq_append_getElem hk']
        simp only [List.mem_append, List.mem_singleton, not_or]
        exact ⟨hr, fun e => h2 e.symm⟩
    · (try conv => whnf); repeat ((first | refine And.intro (show cellsAll _ _ from by repeat (first | exact trivial | refine ⟨⟨rfl, rfl⟩, ?_⟩)) ?_ | refine ⟨_, getZ (by omega), ?_⟩ | refine ⟨_, getI (by omega) (by omega), ?_⟩ | refine ⟨by omega, rfl, ?_⟩ | refine ⟨by (simp; omega), rfl, ?_⟩ | refine ⟨rfl, _, rfl, ⟨rfl, rfl, by decide⟩, ?_⟩ | refine ⟨rfl, _, rfl, ?_⟩ | refine ⟨rfl, _, getO (by omega), ?_⟩ | refine ⟨rfl, ⟨by omega, by omega, by omega⟩, ?_⟩ | refine ⟨⟨rfl, rfl⟩, ?_⟩ | refine ⟨⟨rfl, rfl, rfl⟩, ?_⟩ | refine ⟨⟨rfl, rfl, by decide⟩, ?_⟩ | refine ⟨rfl, ?_⟩ | refine ⟨⟨by omega, by omega⟩, ⟨rfl, rfl⟩, ?_⟩ | refine ⟨in64 (by omega) (by omega), ?_⟩ | refine Br.dec (fun _ => ?_) (fun hh => absurd (by omega) hh) | refine Br.dec (fun hh => absurd hh (by omega)) (fun _ => ?_) | refine Br.eq (fun _ => ?_) (fun hh => absurd (by omega) hh) | refine Br.eq (fun hh => absurd hh (by omega)) (fun _ => ?_) | refine Br.ne (fun _ => ?_) (fun hh => absurd (by omega) hh) | refine Br.ne (fun hh => absurd hh (by omega)) (fun _ => ?_) | refine ⟨_, rfl, ?_⟩ | rw [← List.map_drop, ← List.map_take]); conv => whnf)
      have : k = xs.length := by omega
      subst this
      rw [List.take_length] at hr
      rw [decide_eq_false hr]
      exact ⟨Ends.keep ⟨rfl, rfl⟩⟩

theorem c_ref12_Has (ls : List (List Int)) (n : Int) (hl : ls.length < 9223372036854775808) (hls : ∀ l ∈ ls, l.length < 9223372036854775808) : CG Try.prog 30 [intss ls, .i n] (.b (decide (n ∈ ls.flatten))) := by
  refine ⟨k_ref12_Has.calls ?_⟩
  have hm : (ls.map tints).length = ls.length := by simp
  conv => whnf
  refine SW.loop (α := Nat) (fun a => tm 20 [(0, .g (intss ls)), (1, .g (.i n)), (5, .g (.i a))]) (fun _ => []) (fun a => a ≤ ls.length ∧ n ∉ (ls.take a).flatten) (fun a => ls.length - a) 0 ?_ ?_ ?_ ?_
  · simp
  · rfl
  · simp [subT, subV, tm, tmGo, intss]
  · rintro k ⟨hk, hr⟩
    dsimp only at hk hr ⊢
    conv => whnf
    refine Br.dec (fun h => ?_) (fun h => ?_)
    · have hk' : k < ls.length := by omega
      have hc := c_ref12_has ls[k] n (hls _ (List.getElem_mem _))
      by_cases h2 : n ∈ ls[k]
      · rw [decide_eq_true h2] at hc
        (try conv => whnf); repeat ((first | refine (hc).go rfl ?_ | refine ⟨_, (hc).go rfl ⟨rfl, rfl⟩, ?_⟩ | refine And.intro (show cellsAll _ _ from by repeat (first | exact trivial | refine ⟨⟨rfl, rfl⟩, ?_⟩)) ?_ | refine ⟨_, getZ (by omega), ?_⟩ | refine ⟨_, getI (by omega) (by omega), ?_⟩ | refine ⟨by omega, rfl, ?_⟩ | refine ⟨by (simp; omega), rfl, ?_⟩ | refine ⟨rfl, _, rfl, ⟨rfl, rfl, by decide⟩, ?_⟩ | refine ⟨rfl, _, rfl, ?_⟩ | refine ⟨rfl, _, getO (by omega), ?_⟩ | refine ⟨rfl, ⟨by omega, by omega, by omega⟩, ?_⟩ | refine ⟨⟨rfl, rfl⟩, ?_⟩ | refine ⟨⟨rfl, rfl, rfl⟩, ?_⟩ | refine ⟨⟨rfl, rfl, by decide⟩, ?_⟩ | refine ⟨rfl, ?_⟩ | refine ⟨⟨by omega, by omega⟩, ⟨rfl, rfl⟩, ?_⟩ | refine ⟨in64 (by omega) (by omega), ?_⟩ | refine Br.dec (fun _ => ?_) (fun hh => absurd (by omega) hh) | refine Br.dec (fun hh => absurd hh (by omega)) (fun _ => ?_) | refine Br.eq (fun _ => ?_) (fun hh => absurd (by omega) hh) | refine Br.eq (fun hh => absurd hh (by omega)) (fun _ => ?_) | refine Br.ne (fun _ => ?_) (fun hh => absurd (by omega) hh) | refine Br.ne (fun hh => absurd hh (by omega)) (fun _ => ?_) | refine ⟨_, rfl, ?_⟩ | rw [← List.map_drop, ← List.map_take]); conv => whnf)
        rw [decide_eq_true (p := n ∈ ls.flatten) (List.mem_flatten.2 ⟨_, List.getElem_mem hk', h2⟩)]
        exact ⟨Ends.keep ⟨rfl, rfl⟩⟩
      · rw [decide_eq_false h2] at hc
        (try conv => whnf); repeat ((first | refine (hc).go rfl ?_ | refine ⟨_, (hc).go rfl ⟨rfl, rfl⟩, ?_⟩ | refine And.intro (show cellsAll _ _ from by repeat (first | exact trivial | refine ⟨⟨rfl, rfl⟩, ?_⟩)) ?_ | refine ⟨_, getZ (by omega), ?_⟩ | refine ⟨_, getI (by omega) (by omega), ?_⟩ | refine ⟨by omega, rfl, ?_⟩ | refine ⟨by (simp; omega), rfl, ?_⟩ | refine ⟨rfl, _, rfl, ⟨rfl, rfl, by decide⟩, ?_⟩ | refine ⟨rfl, _, rfl, ?_⟩ | refine ⟨rfl, _, getO (by omega), ?_⟩ | refine ⟨rfl, ⟨by omega, by omega, by omega⟩, ?_⟩ | refine ⟨⟨rfl, rfl⟩, ?_⟩ | refine ⟨⟨rfl, rfl, rfl⟩, ?_⟩ | refine ⟨⟨rfl, rfl, by decide⟩, ?_⟩ | refine ⟨rfl, ?_⟩ | refine ⟨⟨by omega, by omega⟩, ⟨rfl, rfl⟩, ?_⟩ | refine ⟨in64 (by omega) (by omega), ?_⟩ | refine Br.dec (fun _ => ?_) (fun hh => absurd (by omega) hh) | refine Br.dec (fun hh => absurd hh (by omega)) (fun _ => ?_) | refine Br.eq (fun _ => ?_) (fun hh => absurd (by omega) hh) | refine Br.eq (fun hh => absurd hh (by omega)) (fun _ => ?_) | refine Br.ne (fun _ => ?_) (fun hh => absurd (by omega) hh) | refine Br.ne (fun hh => absurd hh (by omega)) (fun _ => ?_) | refine ⟨_, rfl, ?_⟩ | rw [← List.map_drop, ← List.map_take]); conv => whnf)
        refine ⟨⟨k + 1, ⟨hk', ?_⟩, by omega, rfl, by simp [subT, subV, tm, tmGo, intss]⟩⟩
        rw [flat_take ls k hk', List.mem_append, not_or]
        exact ⟨hr, h2⟩
    · (try conv => whnf); repeat ((first | refine And.intro (show cellsAll _ _ from by repeat (first | exact trivial | refine ⟨⟨rfl, rfl⟩, ?_⟩)) ?_ | refine ⟨_, getZ (by omega), ?_⟩ | refine ⟨_, getI (by omega) (by omega), ?_⟩ | refine ⟨by omega, rfl, ?_⟩ | refine ⟨by (simp; omega), rfl, ?_⟩ | refine ⟨rfl, _, rfl, ⟨rfl, rfl, by decide⟩, ?_⟩ | refine ⟨rfl, _, rfl, ?_⟩ | refine ⟨rfl, _, getO (by omega), ?_⟩ | refine ⟨rfl, ⟨by omega, by omega, by omega⟩, ?_⟩ | refine ⟨⟨rfl, rfl⟩, ?_⟩ | refine ⟨⟨rfl, rfl, rfl⟩, ?_⟩ | refine ⟨⟨rfl, rfl, by decide⟩, ?_⟩ | refine ⟨rfl, ?_⟩ | refine ⟨⟨by omega, by omega⟩, ⟨rfl, rfl⟩, ?_⟩ | refine ⟨in64 (by omega) (by omega), ?_⟩ | refine Br.dec (fun _ => ?_) (fun hh => absurd (by omega) hh) | refine Br.dec (fun hh => absurd hh (by omega)) (fun _ => ?_) | refine Br.eq (fun _ => ?_) (fun hh => absurd (by omega) hh) | refine Br.eq (fun hh => absurd hh (by omega)) (fun _ => ?_) | refine Br.ne (fun _ => ?_) (fun hh => absurd (by omega) hh) | refine Br.ne (fun hh => absurd hh (by omega)) (fun _ => ?_) | refine ⟨_, rfl, ?_⟩ | rw [← List.map_drop, ← List.map_take]); conv => whnf)
      have : k = ls.length := by omega
      subst this
      rw [List.take_length] at hr
      rw [decide_eq_false hr]
      exact ⟨Ends.keep ⟨rfl, rfl⟩⟩

theorem c_law11_Tables (xs ys : List (List Int)) (hl : xs.length < 9223372036854775808) (hls : ∀ l ∈ xs, l.length < 9223372036854775808) : CG Try.prog 15 [intss xs, intss ys] (.b (decide (xs = ys))) := by
  refine ⟨k_law11_Tables.calls ?_⟩
  have hm : (xs.map tints).length = xs.length := by simp
  have hm2 : (ys.map tints).length = ys.length := by simp
  conv => whnf
  refine Br.ne (fun h => ?_) (fun h => ?_)
  · conv => whnf
    rw [decide_eq_false (fun e => h (by rw [hm, hm2, e]))]
    exact ⟨Ends.keep ⟨rfl, rfl⟩⟩
  have he : xs.length = ys.length := by omega
  conv => whnf
  refine SW.loop (α := Nat) (fun a => tm 29 [(0, .g (intss xs)), (1, .g (intss ys)), (5, .g (.i a))]) (fun _ => []) (fun a => a ≤ xs.length ∧ xs.take a = ys.take a) (fun a => xs.length - a) 0 ?_ ?_ ?_ ?_
  · simp
  · rfl
  · simp [subT, subV, tm, tmGo, intss]
  · rintro k ⟨hk, hr⟩
    dsimp only at hk hr ⊢
    conv => whnf
    refine Br.dec (fun h => ?_) (fun h => ?_)
    · have hk' : k < xs.length := by omega
      have hk2 : k < ys.length := by omega
      have hc := c_ref01_Ints xs[k] ys[k] (hls _ (List.getElem_mem _))
      by_cases h2 : xs[k] = ys[k]
      · rw [decide_eq_true h2] at hc
        (try conv => whnf); repeat ((first | refine (hc).go rfl ?_ | refine ⟨_, (hc).go rfl ⟨rfl, rfl⟩, ?_⟩ | refine And.intro (show cellsAll _ _ from by repeat (first | exact trivial | refine ⟨⟨rfl, rfl⟩, ?_⟩)) ?_ | refine ⟨_, getZ (by omega), ?_⟩ | refine ⟨_, getI (by omega) (by omega), ?_⟩ | refine ⟨by omega, rfl, ?_⟩ | refine ⟨by (simp; omega), rfl, ?_⟩ | refine ⟨rfl, _, rfl, ⟨rfl, rfl, by decide⟩, ?_⟩ | refine ⟨rfl, _, rfl, ?_⟩ | refine ⟨rfl, _, getO (by omega), ?_⟩ | refine ⟨rfl, ⟨by omega, by omega, by omega⟩, ?_⟩ | refine ⟨⟨rfl, rfl⟩, ?_⟩ | refine ⟨⟨rfl, rfl, rfl⟩, ?_⟩ | refine ⟨⟨rfl, rfl, by decide⟩, ?_⟩ | refine ⟨rfl, ?_⟩ | refine ⟨⟨by omega, by omega⟩, ⟨rfl, rfl⟩, ?_⟩ | refine ⟨in64 (by omega) (by omega), ?_⟩ | refine Br.dec (fun _ => ?_) (fun hh => absurd (by omega) hh) | refine Br.dec (fun hh => absurd hh (by omega)) (fun _ => ?_) | refine Br.eq (fun _ => ?_) (fun hh => absurd (by omega) hh) | refine Br.eq (fun hh => absurd hh (by omega)) (fun _ => ?_) | refine Br.ne (fun _ => ?_) (fun hh => absurd (by omega) hh) | refine Br.ne (fun hh => absurd hh (by omega)) (fun _ => ?_) | refine ⟨_, rfl, ?_⟩ | rw [← List.map_drop, ← List.map_take]); conv => whnf)
        refine ⟨⟨k + 1, ⟨hk', ?_⟩, by omega, rfl, by simp [subT, subV, tm, tmGo, intss]⟩⟩
        rw [List.take_succ_eq_append_getElem hk', List.take_succ_eq_append_getElem hk2, hr, h2]
      · rw [decide_eq_false h2] at hc
        (try conv => whnf); repeat ((first | refine (hc).go rfl ?_ | refine ⟨_, (hc).go rfl ⟨rfl, rfl⟩, ?_⟩ | refine And.intro (show cellsAll _ _ from by repeat (first | exact trivial | refine ⟨⟨rfl, rfl⟩, ?_⟩)) ?_ | refine ⟨_, getZ (by omega), ?_⟩ | refine ⟨_, getI (by omega) (by omega), ?_⟩ | refine ⟨by omega, rfl, ?_⟩ | refine ⟨by (simp; omega), rfl, ?_⟩ | refine ⟨rfl, _, rfl, ⟨rfl, rfl, by decide⟩, ?_⟩ | refine ⟨rfl, _, rfl, ?_⟩ | refine ⟨rfl, _, getO (by omega), ?_⟩ | refine ⟨rfl, ⟨by omega, by omega, by omega⟩, ?_⟩ | refine ⟨⟨rfl, rfl⟩, ?_⟩ | refine ⟨⟨rfl, rfl, rfl⟩, ?_⟩ | refine ⟨⟨rfl, rfl, by decide⟩, ?_⟩ | refine ⟨rfl, ?_⟩ | refine ⟨⟨by omega, by omega⟩, ⟨rfl, rfl⟩, ?_⟩ | refine ⟨in64 (by omega) (by omega), ?_⟩ | refine Br.dec (fun _ => ?_) (fun hh => absurd (by omega) hh) | refine Br.dec (fun hh => absurd hh (by omega)) (fun _ => ?_) | refine Br.eq (fun _ => ?_) (fun hh => absurd (by omega) hh) | refine Br.eq (fun hh => absurd hh (by omega)) (fun _ => ?_) | refine Br.ne (fun _ => ?_) (fun hh => absurd (by omega) hh) | refine Br.ne (fun hh => absurd hh (by omega)) (fun _ => ?_) | refine ⟨_, rfl, ?_⟩ | rw [← List.map_drop, ← List.map_take]); conv => whnf)
        rw [decide_eq_false (fun e => h2 (by subst e; rfl))]
        exact ⟨Ends.keep ⟨rfl, rfl⟩⟩
    · (try conv => whnf); repeat ((first | refine And.intro (show cellsAll _ _ from by repeat (first | exact trivial | refine ⟨⟨rfl, rfl⟩, ?_⟩)) ?_ | refine ⟨_, getZ (by omega), ?_⟩ | refine ⟨_, getI (by omega) (by omega), ?_⟩ | refine ⟨by omega, rfl, ?_⟩ | refine ⟨by (simp; omega), rfl, ?_⟩ | refine ⟨rfl, _, rfl, ⟨rfl, rfl, by decide⟩, ?_⟩ | refine ⟨rfl, _, rfl, ?_⟩ | refine ⟨rfl, _, getO (by omega), ?_⟩ | refine ⟨rfl, ⟨by omega, by omega, by omega⟩, ?_⟩ | refine ⟨⟨rfl, rfl⟩, ?_⟩ | refine ⟨⟨rfl, rfl, rfl⟩, ?_⟩ | refine ⟨⟨rfl, rfl, by decide⟩, ?_⟩ | refine ⟨rfl, ?_⟩ | refine ⟨⟨by omega, by omega⟩, ⟨rfl, rfl⟩, ?_⟩ | refine ⟨in64 (by omega) (by omega), ?_⟩ | refine Br.dec (fun _ => ?_) (fun hh => absurd (by omega) hh) | refine Br.dec (fun hh => absurd hh (by omega)) (fun _ => ?_) | refine Br.eq (fun _ => ?_) (fun hh => absurd (by omega) hh) | refine Br.eq (fun hh => absurd hh (by omega)) (fun _ => ?_) | refine Br.ne (fun _ => ?_) (fun hh => absurd (by omega) hh) | refine Br.ne (fun hh => absurd hh (by omega)) (fun _ => ?_) | refine ⟨_, rfl, ?_⟩ | rw [← List.map_drop, ← List.map_take]); conv => whnf)
      have : k = xs.length := by omega
      subst this
      have e : xs = ys := by rw [List.take_length, he, List.take_length] at hr; exact hr
      rw [decide_eq_true e]
      exact ⟨Ends.keep ⟨rfl, rfl⟩⟩
end Go.Aw
namespace Go.Aw
open Go.Proofs
set_option maxRecDepth 100000
set_option maxHeartbeats 4000000

theorem alone_step {l : List Sz} {ps : List (List Int)} {is : Sz → Bool} {k : Nat} (hk : k < l.length) :
    aloneA (l.take (k + 1)) ps is = aloneA (l.take k) ps is ++ if (!l[k].busy && (!decide (l[k].gen ∈ ps.flatten) && is l[k])) = true then [l[k]] else [] := by
  rw [List.take_succ_eq_append_getElem hk, aloneA, idleS, List.filter_append, List.filter_append]
  congr 1
  cases hb : l[k].busy
  · simp only [List.filter_cons, hb, Bool.not_false, if_true, List.filter_nil, Bool.true_and]
  · simp only [List.filter_cons, hb, Bool.not_true, Bool.false_and, Bool.false_eq_true, if_false, List.filter_nil]
theorem alone_len {l : List Sz} {ps : List (List Int)} {is : Sz → Bool} : (aloneA l ps is).length ≤ l.length := Nat.le_trans (List.length_filter_le _ _) idle_len

end Go.Aw
namespace Go.Aw
open Go.Proofs
set_option maxRecDepth 100000
set_option maxHeartbeats 4000000

theorem gr_vints {n d b g off len : Nat} {h : List Blk} {xs : List Int} (hb : h[b]? = some (.arr g 1 (vintl xs))) (hn : n ≤ b) (hl : off + len ≤ xs.length) : gr n h (d + 1) (.own b g off len) = some (tints ((xs.drop off).take len)) := by
  have hc : n ≤ b ∧ g = g ∧ off + len ≤ (vintl xs).length := ⟨hn, rfl, by simpa [vintl] using hl⟩
  rw [gr, hb]
  dsimp only
  rw [if_pos hc]
  have : ((vintl xs).drop off).take len = vintl ((xs.drop off).take len) := by simp [vintl, List.map_drop, List.map_take]
  rw [this]
  have h2 : (vintl ((xs.drop off).take len)).map (gr n h d) = (((xs.drop off).take len).map T.i).map some := by
    simp only [vintl, List.map_map]
    refine List.map_congr_left fun x _ => ?_
    cases d <;> rfl
  rw [h2, optL_map_some]; rfl
theorem gr_one {n d b g : Nat} {h : List Blk} {v : V} {t : T} (hb : h[b]? = some (.arr g 1 [v])) (hn : n ≤ b) (hv : gr n h d v = some t) : gr n h (d + 1) (.own b g 0 1) = some (.sl 1 [t]) := by
  have hc : n ≤ b ∧ g = g ∧ 0 + 1 ≤ [v].length := ⟨hn, rfl, by simp⟩
  rw [gr, hb]
  dsimp only
  rw [if_pos hc]
  simp [optL, hv]
theorem optL3 {α : Type} {a b c : Option α} {x y z : α} (h : a = some x) (k : b = some y) (m : c = some z) : optL [a, b, c] = some [x, y, z] := by rw [h, k, m]; rfl
theorem CG.give3 {P : Program} {f : Nat} {t1 t2 t3 t : T} (c : CG P f [t1, t2, t3] t) (n d : Nat) {H : List Blk} (hm : noMp H) {a1 a2 a3 : V} (h1 : gr n H d a1 = some t1) (h2 : gr n H d a2 = some t2) (h3 : gr n H d a3 = some t3) {K : V → List Blk → Prop} (k : K (.g t) (killH n H)) : ACalls P f [a1, a2, a3] H K :=
  CG.give (args := [a1, a2, a3]) c n d hm (optL3 h1 h2 h3) k
theorem idle_step {l : List Sz} {k : Nat} (hk : k < l.length) : idleS (l.take (k + 1)) = idleS (l.take k) ++ if l[k].busy = false then [l[k]] else [] := by
  rw [List.take_succ_eq_append_getElem hk, idleS, List.filter_append]
  congr 1
  cases hb : l[k].busy <;> simp [List.filter_cons, hb]

end Go.Aw
namespace Go.Aw
open Go.Proofs
set_option maxRecDepth 100000
set_option maxHeartbeats 4000000

theorem Refi.frz {z d : Nat} {t t' : List V} {H H2 H3 L : List Blk} (hH : H = H2 ++ L) (hz : z ≤ H2.length) (hb : dropH H2.length (H2 ++ L) d H2 H3) (hs : subT (t.map (cutV H2.length)) t') : Refi z ⟨t, H⟩ ⟨t', H3⟩ := by
  subst hH
  exact (Refi.drop d hz hb (cut_ok t)).trans (Refi.sub rfl hs)
theorem optL_app' {α : Type} : ∀ {a b : List (Option α)} {x y : List α}, optL a = some x → optL b = some y → optL (a ++ b) = some (x ++ y) := by
  intro a b x y h k
  rw [optL_some h, optL_some k, ← List.map_append, optL_map_some]
theorem frz_vls {n d b g m : Nat} {H : List Blk} {o : List (List Int)} {xs : List Int} (hb : H[b]? = some (.arr g 1 (vintl xs))) (hn : n ≤ b) (hm : m = xs.length) {G : Nat} :
    BG n H (d + 1) (.arr G 1 (vls o ++ [.own b g 0 m])) (.arr G 1 (vls (o ++ [xs]))) := by
  refine .inr ⟨G, 1, _, o.map tints ++ [tints xs], rfl, by simp [vls], ?_⟩
  rw [List.map_append]
  refine optL_app' ?_ ?_
  · have : (vls o).map (gr n H (d + 1)) = (o.map tints).map some := by
      simp only [vls, List.map_map]
      exact List.map_congr_left fun x _ => gr_g
    rw [this, optL_map_some]
  · simp only [List.map_cons, List.map_nil]
    exact optL1 (gr_vintl hb hn hm)

def flt (p : Int) (n : Nat) (x : Sz) : Bool := !x.busy && decide (levS x p = (n : Int))
theorem flt_eq {l : List Sz} {p : Int} {n : Nat} : (idleS l).filter (fun s => decide (levS s p = (n : Int))) = l.filter (flt p n) := by
  rw [idleS, List.filter_filter]; exact List.filter_congr fun x _ => by rw [flt, Bool.and_comm]
theorem tiers_all {l : List Sz} {c : Int × Int} (hs : ∀ s ∈ l, sane s) (hp : 2 ≤ c.1) : tiersS l c 64 = tiersS l c 7 := by
  have key : ∀ n, 7 ≤ n → tiersS l c n = tiersS l c 7 := by
    intro n hn
    induction n with
    | zero => omega
    | succ n ih =>
      rcases Nat.lt_or_ge n 7 with h | h
      · have : n + 1 = 7 := by omega
        rw [this]
      · rw [tiersS_succ, ih h]
        have : (idleS l).filter (fun s => decide (levS s c.1 = (n : Int))) = [] := by
          rw [List.filter_eq_nil_iff]
          intro s hs'
          have := (levS_range (hs s (List.mem_filter.1 hs').1) hp).2
          simp; omega
        rw [tierN, this]
        cases l.length with
        | zero => simp [chunksS]
        | succ f => rw [chunksS, if_neg (by simp; omega)]; simp
  exact key 64 (by omega)

end Go.Aw
namespace Go.Aw
open Go.Proofs
set_option maxRecDepth 100000
set_option maxHeartbeats 4000000

theorem runs_step_ok {c : Int × Int} {l : List Sz} {i p : Nat} (hc : c.1 = p) (h1 : 1 ≤ p) (hi : i + p ≤ l.length) (hok : runOk c ((l.drop i).take p) = true) :
    runsS c l.length (l.drop i) = gensS ((l.drop i).take p) :: runsS c l.length (l.drop (i + p)) := by
  rw [runs_fuel (by omega) (n := l.length) (m := l.length + 1) (by simp) (by simp; omega), runsS, if_pos (by simp; omega), hc, Int.toNat_natCast, if_pos hok, List.drop_drop]
theorem runs_step_no {c : Int × Int} {l : List Sz} {i p : Nat} (hc : c.1 = p) (h1 : 1 ≤ p) (hok : i + p ≤ l.length → runOk c ((l.drop i).take p) = false) :
    runsS c l.length (l.drop i) = runsS c l.length (l.drop (i + 1)) := by
  rcases Nat.lt_or_ge l.length (i + p) with h | h
  · have : ∀ n j, l.length < j + p → runsS c n (l.drop j) = [] := fun n j hj => by
      cases n with
      | zero => rfl
      | succ n => rw [runsS, if_neg (by simp; omega)]
    rw [this _ _ h, this _ _ (by omega)]
  · rw [runs_fuel (by omega) (n := l.length) (m := l.length + 1) (by simp) (by simp; omega), runsS, if_pos (by simp; omega), hc, Int.toNat_natCast, if_neg (by rw [hok h]; simp), List.drop_drop]
theorem like_drop {c : Int × Int} {l : List Sz} {i p : Nat} (hi : i < l.length) (h1 : 1 ≤ p) {x : Sz} : likeS c ((l.drop i).take p) x = (x.busy || levS x c.1 != levS l[i] c.1) := by
  rw [List.drop_eq_getElem_cons hi]
  cases p with
  | zero => omega
  | succ p => rw [List.take_succ_cons]; rfl
theorem take_snoc {l : List Sz} {i k : Nat} (h : i + k < l.length) : (l.drop i).take (k + 1) = (l.drop i).take k ++ [l[i + k]] := by
  rw [List.take_add_one, List.getElem?_drop, List.getElem?_eq_getElem h]; rfl

theorem runs_nil {c : Int × Int} (h : 1 ≤ c.1) : ∀ {n : Nat}, runsS c n [] = []
  | 0 => rfl
  | n + 1 => by rw [runsS, if_neg (by simp; omega)]

end Go.Aw
