/- Contracts of functions of the given program, by the abstract walk, for law StatReckons: what each one hands back; no condition but those that each theorem states. -/
import Derived.Test.YtocdciahhlbknaaGreatC15
import Derived.Test.YtocdciahhlbknaaGreatC2
namespace Go.Aw
open Go.Proofs Go.Sort
set_option maxRecDepth 100000
set_option maxHeartbeats 4000000
end Go.Aw
namespace Go.Aw
open Go.Proofs Go.Sort
set_option maxRecDepth 100000
set_option maxHeartbeats 4000000
end Go.Aw
namespace Go.Aw
open Go.Proofs Go.Sort
set_option maxRecDepth 100000
set_option maxHeartbeats 4000000
theorem mem_plc {w:List ByteArray} {t:ByteArray} {a:Int}:a∈plc w t↔∃ (j:Nat) (h:j < w.length),a=j∧w[j]=t:=by
 rw [plc,List.mem_map]
 constructor
 ·rintro ⟨⟨y,j⟩,hm,rfl⟩
  rw [List.mem_filter] at hm
  obtain ⟨hm,e⟩:=hm
  have h1:=List.mem_zipIdx_iff_getElem?.1 hm
  have hj:=lt_of_some h1
  rw [List.getElem?_eq_getElem hj] at h1
  exact ⟨j,hj,rfl,(Option.some.inj h1).trans (of_decide_eq_true e)⟩
 ·rintro ⟨j,h,rfl,e⟩
  refine ⟨(w[j],j),List.mem_filter.2 ⟨List.mem_zipIdx_iff_getElem?.2 (List.getElem?_eq_getElem h),decide_eq_true e⟩,rfl⟩
theorem mem_pst {ls:List (List ByteArray)} {t:ByteArray} {p:Po}:p∈pst ls t↔∃ (k:Nat) (h:k < ls.length),p=((k:Int),plc ls[k] t)∧plc ls[k] t≠[]:=by
 rw [pst,List.mem_filterMap]
 constructor
 ·rintro ⟨⟨w,k⟩,hm,e⟩
  have h1:=List.mem_zipIdx_iff_getElem?.1 hm
  have hk:=lt_of_some h1
  rw [List.getElem?_eq_getElem hk] at h1
  have h2:ls[k]=w:=Option.some.inj h1
  simp only [← h2] at e
  by_cases q:plc ls[k] t=[]
  ·simp only [q,if_pos] at e;cases e
  ·simp only [if_neg q] at e
   exact ⟨k,hk,(Option.some.inj e).symm,q⟩
 ·rintro ⟨k,hk,rfl,q⟩
  exact ⟨(ls[k],k),List.mem_zipIdx_iff_getElem?.2 (List.getElem?_eq_getElem hk),by simp only [if_neg q]⟩
theorem plc_pw (w:List ByteArray) (t:ByteArray):(plc w t).Pairwise (· < ·):=by
 have key:∀ n,n≤w.length→(plc (w.take n) t).Pairwise (· < ·):=by
  intro n
  induction n with
  | zero=>intro _;simp [plc]
  | succ n ih =>
   intro hn
   rw [List.take_succ_eq_append_getElem hn,plc_app,List.pairwise_append]
   refine ⟨ih (by omega),by split <;> simp,fun a ha b hb=>?_⟩
   obtain ⟨j,hj,rfl,_⟩:=mem_plc.1 ha
   split at hb
   ·simp at hb;subst hb;simp at hj ⊢;omega
   ·cases hb
 have:=key w.length (Nat.le_refl _)
 rwa [List.take_length] at this
theorem pst_pw (ls:List (List ByteArray)) (t:ByteArray):((pst ls t).map (·.1)).Pairwise (· < ·):=by
 have key:∀ n,n≤ls.length→((pst (ls.take n) t).map (·.1)).Pairwise (· < ·):=by
  intro n
  induction n with
  | zero=>intro _;simp [pst]
  | succ n ih =>
   intro hn
   rw [pst_succ hn,List.map_append,List.pairwise_append]
   refine ⟨ih (by omega),by split <;> simp,fun a ha b hb=>?_⟩
   obtain ⟨p,hp,rfl⟩:=List.mem_map.1 ha
   have h1:=pst_lt p hp
   split at hb
   ·cases hb
   ·simp at hb;subst hb;simp at h1;omega
 have:=key ls.length (Nat.le_refl _)
 rwa [List.take_length] at this
theorem mayC_w {c:Cd} (h:mayC c=true):fitsS c.id 16=true∧(0≤c.key∧c.key≤1073741824)∧c.w.length≤120∧∀ x∈c.w,fitsS x 32=true:=by
 simp only [mayC,Bool.and_eq_true,decide_eq_true_eq,List.all_eq_true] at h
 exact ⟨h.1,⟨h.2.1,h.2.2.1⟩,h.2.2.2.1,h.2.2.2.2⟩
end Go.Aw
namespace Go.Aw
open Go.Proofs Go.Sort
set_option maxRecDepth 100000
set_option maxHeartbeats 4000000
theorem build_zero {l:List Cd} {b:Bool} (h:(buildS l b).2=0):okL l=true∧l.length≤64∧(wlS ((ordO l b).flatMap (·.w))).length≤200∧buildS l b=(segOf (ordO l b) b,0):=by
 unfold buildS at h ⊢
 by_cases h1:okL l=false
 ·rw [if_pos h1] at h;cases h
 ·rw [if_neg h1] at h ⊢
  by_cases h2:64 < l.length
  ·rw [if_pos h2] at h;cases h
  ·rw [if_neg h2] at h ⊢
   by_cases h3:200 < (wlS ((ordO l b).flatMap (·.w))).length
   ·rw [if_pos h3] at h;cases h
   ·rw [if_neg h3]
    exact ⟨by simpa using h1,by omega,by omega,rfl⟩
theorem okL_all {l:List Cd} (h:okL l=true):(∀ c∈l,mayC c=true)∧(l.map (·.id)).Nodup:=by
 simp only [okL,Bool.and_eq_true,List.all_eq_true,decide_eq_true_eq] at h
 exact h
theorem idxS_at {l:List ByteArray} (hn:l.Nodup) {i:Nat} (hi:i < l.length):idxS l l[i]=(i:Int):=by
 have:l.findIdx? (· == l[i])=some i:=by
  rw [List.findIdx?_eq_some_iff_getElem]
  refine ⟨hi,by show (l[i] == l[i])=true;rw [ba_beq,decide_eq_true rfl],fun j hj e=>?_⟩
  have:=List.pairwise_iff_getElem.1 hn j i (by omega) hi hj
  simp only [ba_beq,decide_eq_true_eq] at e
  exact this e
 rw [idxS,this]
end Go.Aw
