/- Contracts of functions of the given program, by the abstract walk, for law StatReckons: what each one hands back; no condition but those that each theorem states. -/
import Derived.Test.YtocdciahhlbknaaGreatC16
namespace Go.Aw
open Go.Proofs Go.Sort
set_option maxRecDepth 100000
set_option maxHeartbeats 4000000
def srtI (l:List Cd):Prop:=l.Pairwise fun x y=>ltB' x.id y.id=true
instance (l:List Cd):Decidable (srtI l):=by unfold srtI;exact inferInstance
def lowI (l:List Cd) (x:ByteArray):Nat:=(l.filter fun c=>ltB' c.id x).length
def withO (l:List Cd) (x:ByteArray):List Cd:=l.filter fun c=>!decide (c.id=x)
theorem ltB_ne {a b:ByteArray} (h:ltB' a b=true):a≠b:=fun e=>by subst e;rw [ltB_irr] at h;cases h
theorem ltB_asym {a b:ByteArray} (h:ltB' a b=true):ltB' b a=false:=by
 cases q:ltB' b a with
 | false=>rfl
 | true=>have:=ltB_trans h q;rw [ltB_irr] at this;cases this
theorem srtI.get {l:List Cd} (h:srtI l) {i j:Nat} (hi:i < j) (hj:j < l.length):ltB' l[i].id l[j].id=true:=List.pairwise_iff_getElem.1 h i j (by omega) hj hi
theorem srtI.nodup {l:List Cd} (h:srtI l):(l.map (·.id)).Nodup:=by
 refine List.Pairwise.map _ (fun a b h=>?_) h
 exact ltB_ne h
theorem srtI.inj {l:List Cd} (h:srtI l) {x y:Cd} (hx:x∈l) (hy:y∈l) (e:x.id=y.id):x=y:=id_inj h.nodup hx hy e
theorem lowI_eq {l:List Cd} {y:ByteArray} {i:Nat} (hi:i≤l.length) (h1:∀ (k:Nat) (h:k < l.length),k < i→ltB' l[k].id y=true) (h2:∀ (k:Nat) (h:k < l.length),i≤k→ltB' l[k].id y=false):lowI l y=i:=by
 rw [lowI,← List.take_append_drop i l,List.filter_append]
 have e1:(l.take i).filter (fun x=>ltB' x.id y)=l.take i:=by
  rw [List.filter_eq_self]
  intro a ha
  obtain ⟨k,hk,rfl⟩:=List.getElem_of_mem ha
  rw [List.getElem_take];exact h1 k (by simp at hk;omega) (by simp at hk;omega)
 have e2:(l.drop i).filter (fun x=>ltB' x.id y)=[]:=by
  rw [List.filter_eq_nil_iff]
  intro a ha
  obtain ⟨k,hk,rfl⟩:=List.getElem_of_mem ha
  rw [List.getElem_drop,h2 (i+k) (by simp at hk;omega) (by omega)];simp
 rw [e1,e2,List.append_nil,List.length_take];omega
theorem srtI.low {l:List Cd} (h:srtI l) {i:Nat} (hi:i < l.length):lowI l l[i].id=i :=
 lowI_eq (by omega) (fun k hk hki=>h.get hki hi) (fun k hk hki=>by
  rcases Nat.lt_or_ge i k with h6|h6
  ·exact ltB_asym (h.get h6 hk)
  ·have:k=i:=by omega
   subst this;exact ltB_irr)
theorem srtI.find {l:List Cd} (h:srtI l) {x:Cd} (hx:x∈l):∃ hi:lowI l x.id < l.length,l[lowI l x.id]=x:=by
 obtain ⟨i,hi,rfl⟩:=List.getElem_of_mem hx
 have e:=h.low hi
 exact ⟨by omega,by simp only [e]⟩
theorem withO_mem {l:List Cd} {x:ByteArray} {c:Cd}:c∈withO l x↔c∈l∧c.id≠x:=by simp [withO]
end Go.Aw
namespace Go.Aw
open Go.Proofs Go.Sort
set_option maxRecDepth 100000
set_option maxHeartbeats 4000000
theorem c_Clone_strs (xs:List ByteArray) (hl:xs.length < 1000000000):CG Tryz.prog 112 [tstrs xs] (tstrs xs):=by
 refine ⟨k_slices_Clone_Lstring_string.calls ?_⟩
 conv=>whnf
 intro r hr
 conv=>whnf
 refine Br.intro (fun h=>?_) (fun h=>?_)
 ·conv=>whnf
  have:xs=[]:=by simpa using hr h
  subst this
  exact ⟨Ends.ground (H:=[]) (L:=[]) 0 rfl ⟨rfl,rfl⟩⟩
 ·conv=>whnf
  refine ⟨rfl,?_⟩
  conv=>whnf
  refine ⟨by simp;omega,⟨rfl,rfl,rfl⟩,[],⟨[],rfl⟩,rfl,?_⟩
  conv=>whnf
  refine ⟨Ends.ground (H:=[]) (L:=[_]) (t:=tstrs xs) 1 ?_ ⟨rfl,rfl⟩⟩
  have e:((xs.map T.s).map V.g)=xs.map fun x=>V.g (.s x):=by rw [List.map_map];rfl
  exact gr_own (n:=0) (d:=0) (b:=0) (g:=1) (sz:=1) (len:=0+((xs.map T.s).map V.g).length) (h:=[.arr 1 1 ([]++(xs.map T.s).map V.g)]) (l:=xs) (f:=fun x=>V.g (.s x)) (e:=T.s) (by rw [e];rfl) (Nat.le_refl _) (by simp) (fun x _=>gr_g)
end Go.Aw
namespace Go.Aw
open Go.Proofs Go.Sort
set_option maxRecDepth 100000
set_option maxHeartbeats 4000000
theorem set_card (l:List Cd) (k:Nat) (hk:k < l.length):(vcards l).set (0+((k:Nat):Int).toNat) (storeV (V.g (tcard l[k])) 2 (.g (tstrs l[k].w)))=vcards l:=by
 have e:storeV (V.g (tcard l[k])) 2 (.g (tstrs l[k].w))=V.g (tcard l[k]):=by unfold storeV;rw [if_neg (by simp)];rfl
 rw [e,show 0+((k:Nat):Int).toNat=k from by omega]
 refine List.ext_getElem? fun j=>?_
 rw [List.getElem?_set]
 split
 ·rename_i h;subst h
  rw [if_pos (by simpa [vcards] using hk)];simp [vcards,hk]
 ·rfl
end Go.Aw
