/- Contracts of functions of the given program, by the abstract walk, for law StatReckons: what each one hands back; no condition but those that each theorem states. -/
import Derived.Sort.Statements
namespace Go.Aw
open Go.Sort
section
variable {α:Type}
def updF (f:Nat→α) (p:Nat) (v:α):Nat→α:=fun k=>if k=p then v else f k
def swpF (f:Nat→α) (p q:Nat):Nat→α:=updF (updF f p (f q)) q (f p)
def locP (a b:Nat) (f f':Nat→α):Prop:=∃ s t:Nat→Nat,(∀ k,t (s k)=k∧s (t k)=k)∧(∀ k,k < a∨b≤k→s k=k)∧∀ k,f' k=f (s k)
theorem locP.refl (a b:Nat) (f:Nat→α):locP a b f f:=⟨id,id,fun _=>⟨rfl,rfl⟩,fun _ _=>rfl,fun _=>rfl⟩
theorem locP.trans {a b:Nat} {f g h:Nat→α} (x:locP a b f g) (y:locP a b g h):locP a b f h:=by
 obtain ⟨s1,t1,i1,o1,e1⟩:=x
 obtain ⟨s2,t2,i2,o2,e2⟩:=y
 exact ⟨fun k=>s1 (s2 k),fun k=>t2 (t1 k),fun k=>⟨by simp [(i1 _).1,(i2 _).1],by simp [(i1 _).2,(i2 _).2]⟩,fun k hk=>by simp only [o2 k hk,o1 k hk],fun k=>by rw [e2,e1]⟩
theorem locP.mono {a b a' b':Nat} {f g:Nat→α} (h:locP a b f g) (ha:a'≤a) (hb:b≤b'):locP a' b' f g:=by
 obtain ⟨s,t,i,o,e⟩:=h
 exact ⟨s,t,i,fun k hk=>o k (by omega),e⟩
theorem locP.out {a b:Nat} {f g:Nat→α} (h:locP a b f g) {k:Nat} (hk:k < a∨b≤k):g k=f k:=by
 obtain ⟨s,t,i,o,e⟩:=h
 rw [e,o k hk]
theorem locP.in' {a b:Nat} {f g:Nat→α} (h:locP a b f g) {k:Nat} (h1:a≤k) (h2:k < b):∃ j,a≤j∧j < b∧g k=f j:=by
 obtain ⟨s,t,i,o,e⟩:=h
 refine ⟨s k,?_,?_,e k⟩
 ·rcases Nat.lt_or_ge (s k) a with h3|h3
  ·have h4:=o (s k) (.inl h3)
   have h5:=congrArg t h4
   rw [(i _).1,(i _).1] at h5;omega
  ·exact h3
 ·rcases Nat.lt_or_ge (s k) b with h3|h3
  ·exact h3
  ·have h4:=o (s k) (.inr h3)
   have h5:=congrArg t h4
   rw [(i _).1,(i _).1] at h5;omega
theorem locP.swp {a b p q:Nat} (f:Nat→α) (h1:a≤p) (h2:p < b) (h3:a≤q) (h4:q < b):locP a b f (swpF f p q):=by
 refine ⟨fun k=>if k=q then p else if k=p then q else k,fun k=>if k=q then p else if k=p then q else k,fun k=>?_,fun k hk=>?_,fun k=>?_⟩
 ·have:∀ k,(fun k=>if k=q then p else if k=p then q else k) ((fun k=>if k=q then p else if k=p then q else k) k)=k:=fun k=>by
   dsimp only
   repeat' split
   all_goals omega
  exact ⟨this k,this k⟩
 ·dsimp only
  rw [if_neg (by omega),if_neg (by omega)]
 ·simp only [swpF,updF]
  split
  ·rfl
  ·split <;> rfl
def rotF (f:Nat→α) (a m b:Nat):Nat→α:=fun k=>if a≤k∧k < a+(b-m) then f (k+(m-a)) else if a+(b-m)≤k∧k < b then f (k-(b-m)) else f k
theorem locP.rot {a m b:Nat} (f:Nat→α) (h1:a≤m) (h2:m≤b):locP a b f (rotF f a m b):=by
 refine ⟨fun k=>if a≤k∧k < a+(b-m) then k+(m-a) else if a+(b-m)≤k∧k < b then k-(b-m) else k,fun k=>if a≤k∧k < m then k+(b-m) else if m≤k∧k < b then k-(m-a) else k,fun k=>⟨?_,?_⟩,fun k hk=>?_,fun k=>?_⟩
 ·dsimp only
  split
  ·rw [if_neg (by omega),if_pos (by omega)];omega
  ·split
   ·rw [if_pos (by omega)];omega
   ·rw [if_neg (by omega),if_neg (by omega)]
 ·dsimp only
  split
  ·rw [if_neg (by omega),if_pos (by omega)];omega
  ·split
   ·rw [if_pos (by omega)];omega
   ·rw [if_neg (by omega),if_neg (by omega)]
 ·dsimp only
  rw [if_neg (by omega),if_neg (by omega)]
 ·simp only [rotF]
  split
  ·rfl
  ·split <;> rfl
def exF (f:Nat→α) (a b n:Nat):Nat→α:=fun k=>if a≤k∧k < a+n then f (b+(k-a)) else if b≤k∧k < b+n then f (a+(k-b)) else f k
theorem exF_zero (f:Nat→α) (a b:Nat):exF f a b 0=f:=by
 funext k;simp only [exF];rw [if_neg (by omega),if_neg (by omega)]
theorem exF_succ (f:Nat→α) (a b n i:Nat) (hab:a+n≤b) (hi:i < n):swpF (exF f a b i) (a+i) (b+i)=exF f a b (i+1):=by
 funext k
 have e1:exF f a b i (b+i)=f (b+i):=by simp only [exF];rw [if_neg (by omega),if_neg (by omega)]
 have e2:exF f a b i (a+i)=f (a+i):=by simp only [exF];rw [if_neg (by omega),if_neg (by omega)]
 simp only [swpF,updF,e1,e2]
 simp only [exF]
 repeat' split
 all_goals first|rfl|(congr 1;omega)|(exfalso;omega)
theorem rot_gt (f:Nat→α) (m i j:Nat) (hi:i≤m) (h:j < i):rotF (exF f (m-i) m j) (m-(i-j)) m (m+j)=rotF f (m-i) m (m+j):=by
 funext k
 simp only [rotF,exF]
 repeat' split
 all_goals first|rfl|(congr 1;omega)|(exfalso;omega)
theorem rot_lt (f:Nat→α) (m i j:Nat) (hi:i≤m) (h:i < j):rotF (exF f (m-i) (m+j-i) i) (m-i) m (m+(j-i))=rotF f (m-i) m (m+j):=by
 funext k
 simp only [rotF,exF]
 repeat' split
 all_goals first|rfl|(congr 1;omega)|(exfalso;omega)
theorem rot_eq (f:Nat→α) (m i:Nat) (hi:i≤m):exF f (m-i) m i=rotF f (m-i) m (m+i):=by
 funext k
 simp only [rotF,exF]
 repeat' split
 all_goals first|rfl|(congr 1;omega)|(exfalso;omega)
theorem rot_up (f:Nat→α) (a k:Nat) (h:a≤k):swpF (rotF f a (a+1) (k+1)) k (k+1)=rotF f a (a+1) (k+2):=by
 funext j
 simp only [swpF,updF,rotF]
 repeat' split
 all_goals first|rfl|(congr 1;omega)|(exfalso;omega)
theorem rot_down (f:Nat→α) (k m:Nat) (h:k < m):swpF (rotF f (k+1) m (m+1)) (k+1) k=rotF f k m (m+1):=by
 funext j
 simp only [swpF,updF,rotF]
 repeat' split
 all_goals first|rfl|(congr 1;omega)|(exfalso;omega)
theorem rot_none (f:Nat→α) (a m:Nat):rotF f a m m=f:=by
 funext k
 simp only [rotF]
 repeat' split
 all_goals first|rfl|(congr 1;omega)|(exfalso;omega)
theorem rot_none' (f:Nat→α) (m b:Nat):rotF f m m b=f:=by
 funext k
 simp only [rotF]
 repeat' split
 all_goals first|rfl|(congr 1;omega)|(exfalso;omega)
variable {lt:α→α→Bool}
def srt (lt:α→α→Bool) (f:Nat→α) (a b:Nat):Prop:=∀ i j,a≤i→i < j→j < b→lt (f j) (f i)=false
theorem srt.le {f:Nat→α} {a b:Nat} (hO:SWO lt) (h:srt lt f a b) {i j:Nat} (h1:a≤i) (h2:i≤j) (h3:j < b):lt (f j) (f i)=false:=by
 rcases Nat.lt_or_ge i j with h4|h4
 ·exact h i j h1 h4 h3
 ·have:i=j:=by omega
  subst this;exact hO.irrefl _
theorem swo_asym (hO:SWO lt) {x y:α} (h:lt x y=true):lt y x=false:=by
 cases h2:lt y x with
 | false=>rfl
 | true=>have:=hO.trans _ _ _ h h2;rw [hO.irrefl] at this;cases this
theorem srt.sub {f:Nat→α} {a b c d:Nat} (h:srt lt f a b) (h1:a≤c) (h2:d≤b):srt lt f c d:=fun i j x y z=>h i j (by omega) y (by omega)
theorem srt.cong {f g:Nat→α} {a b:Nat} (h:srt lt f a b) (e:∀ k,a≤k→k < b→g k=f k):srt lt g a b:=fun i j x y z=>by
 rw [e i (by omega) (by omega),e j (by omega) z];exact h i j x y z
theorem srt.app {f:Nat→α} {a m b:Nat} (h:srt lt f a m) (k:srt lt f m b) (c:∀ i j,a≤i→i < m→m≤j→j < b→lt (f j) (f i)=false):srt lt f a b:=fun i j x y z=>by
 rcases Nat.lt_or_ge i m with h1|h1
 ·rcases Nat.lt_or_ge j m with h2|h2
  ·exact h i j x y h2
  ·exact c i j x h1 h2 z
 ·exact k i j h1 y z
theorem srt_up {f:Nat→α} {a b i:Nat} (hO:SWO lt) (h:srt lt f (a+1) b) (h1:a+1≤i) (h2:i≤b) (hl:i=a+1∨lt (f (i-1)) (f a)=true) (hr:i=b∨lt (f i) (f a)=false):srt lt (rotF f a (a+1) i) a b:=by
 have e1:∀ k,a≤k→k < i-1→rotF f a (a+1) i k=f (k+1):=fun k x y=>by simp only [rotF];rw [if_pos (by omega)];congr 1;omega
 have e2:rotF f a (a+1) i (i-1)=f a:=by simp only [rotF];rw [if_neg (by omega),if_pos (by omega)];congr 1;omega
 have e3:∀ k,i≤k→rotF f a (a+1) i k=f k:=fun k x=>by simp only [rotF];rw [if_neg (by omega),if_neg (by omega)]
 have low:∀ k,a+1≤k→k < i→lt (f a) (f k)=false:=fun k x y=>by
  rcases hl with hl|hl
  ·omega
  ·exact hO.ntrans _ _ _ (swo_asym hO hl) (h.le hO x (by omega) (by omega))
 have high:∀ k,i≤k→k < b→lt (f k) (f a)=false:=fun k x y=>by
  rcases hr with hr|hr
  ·omega
  ·exact hO.ntrans _ _ _ (h.le hO (by omega) x y) hr
 intro p q hp hpq hq
 rcases Nat.lt_or_ge p (i-1) with h3|h3
 ·rw [e1 p hp h3]
  rcases Nat.lt_trichotomy q (i-1) with h4|h4|h4
  ·rw [e1 q (by omega) h4];exact h _ _ (by omega) (by omega) (by omega)
  ·rw [h4,e2];exact low _ (by omega) (by omega)
  ·rw [e3 q (by omega)];exact h _ _ (by omega) (by omega) (by omega)
 ·rcases Nat.lt_or_ge (i-1) p with h4|h4
  ·rw [e3 p (by omega),e3 q (by omega)];exact h _ _ (by omega) (by omega) (by omega)
  ·have:p=i-1:=by omega
   rw [this,e2,e3 q (by omega)];exact high _ (by omega) hq
theorem srt_down {f:Nat→α} {a m i:Nat} (hO:SWO lt) (h:srt lt f a m) (h1:a≤i) (h2:i≤m) (hl:i=a∨lt (f m) (f (i-1))=false) (hr:i=m∨lt (f m) (f i)=true):srt lt (rotF f i m (m+1)) a (m+1):=by
 have e1:∀ k,k < i→rotF f i m (m+1) k=f k:=fun k x=>by simp only [rotF];rw [if_neg (by omega),if_neg (by omega)]
 have e2:rotF f i m (m+1) i=f m:=by simp only [rotF];rw [if_pos (by omega)];congr 1;omega
 have e3:∀ k,i < k→k≤m→rotF f i m (m+1) k=f (k-1):=fun k x y=>by simp only [rotF];rw [if_neg (by omega),if_pos (by omega)];congr 1;omega
 have low:∀ k,a≤k→k < i→lt (f m) (f k)=false:=fun k x y=>by
  rcases hl with hl|hl
  ·omega
  ·exact hO.ntrans _ _ _ hl (h.le hO x (by omega) (by omega))
 have high:∀ k,i≤k→k < m→lt (f k) (f m)=false:=fun k x y=>by
  rcases hr with hr|hr
  ·omega
  ·exact hO.ntrans _ _ _ (h.le hO (by omega) x y) (swo_asym hO hr)
 intro p q hp hpq hq
 rcases Nat.lt_trichotomy p i with h3|h3|h3
 ·rw [e1 p h3]
  rcases Nat.lt_trichotomy q i with h4|h4|h4
  ·rw [e1 q h4];exact h _ _ (by omega) (by omega) (by omega)
  ·rw [h4,e2];exact low _ (by omega) (by omega)
  ·rw [e3 q h4 (by omega)];exact h _ _ (by omega) (by omega) (by omega)
 ·rw [h3,e2,e3 q (by omega) (by omega)];exact high _ (by omega) (by omega)
 ·rw [e3 p h3 (by omega),e3 q (by omega) (by omega)];exact h _ _ (by omega) (by omega) (by omega)
theorem srt_mid {f:Nat→α} {a m b mid start:Nat} (hO:SWO lt) (h:srt lt f a m) (k:srt lt f m b) (ham:a < m) (hmb:m < b) (hmid:mid=(a+b) / 2)
  (hs:(mid < m∧mid+m-b≤start∧start≤mid)∨(m≤mid∧a≤start∧start≤m))
  (hl:(mid < m∧start=mid+m-b)∨(m≤mid∧start=a)∨(a < start∧lt (f (mid+m-start)) (f (start-1))=false))
  (hr:(mid < m∧start=mid)∨(m≤mid∧start=m)∨lt (f (mid+m-1-start)) (f start)=true) :
  srt lt (rotF f start m (mid+m-start)) a start∧srt lt (rotF f start m (mid+m-start)) start mid∧srt lt (rotF f start m (mid+m-start)) mid (mid+m-start)∧srt lt (rotF f start m (mid+m-start)) (mid+m-start) b ∧
   ∀ i j,a≤i→i < mid→mid≤j→j < b→lt (rotF f start m (mid+m-start) j) (rotF f start m (mid+m-start) i)=false:=by
 have hend:mid+m-start≤b∧m≤mid+m-start∧start≤m∧start≤mid∧a≤start:=by omega
 obtain ⟨q1,q2,q3,q4,q5⟩:=hend
 obtain ⟨en,hen⟩:∃ en,en=mid+m-start:=⟨_,rfl⟩
 rw [← hen] at q1 q2 ⊢
 have e1:∀ i,i < start→rotF f start m en i=f i:=fun i x=>by simp only [rotF];rw [if_neg (by omega),if_neg (by omega)]
 have e2:∀ i,start≤i→i < mid→rotF f start m en i=f (i+(m-start)):=fun i x y=>by simp only [rotF];rw [if_pos (by omega)]
 have e3:∀ i,mid≤i→i < en→rotF f start m en i=f (i-(en-m)):=fun i x y=>by simp only [rotF];rw [if_neg (by omega),if_pos (by omega)]
 have e4:∀ i,en≤i→rotF f start m en i=f i:=fun i x=>by simp only [rotF];rw [if_neg (by omega),if_neg (by omega)]
 refine ⟨fun i j x y z=>?_,fun i j x y z=>?_,fun i j x y z=>?_,fun i j x y z=>?_,fun i j x y z w=>?_⟩
 ·rw [e1 i (by omega),e1 j z];exact h _ _ x y (by omega)
 ·rw [e2 i x (by omega),e2 j (by omega) z];exact k _ _ (by omega) (by omega) (by omega)
 ·rw [e3 i x (by omega),e3 j (by omega) z];exact h _ _ (by omega) (by omega) (by omega)
 ·rw [e4 i x,e4 j (by omega)];exact k _ _ (by omega) y z
 ·rcases Nat.lt_or_ge i start with h1|h1
  ·rw [e1 i h1]
   rcases Nat.lt_or_ge j en with h2|h2
   ·rw [e3 j z h2];exact h _ _ x (by omega) (by omega)
   ·rw [e4 j h2]
    rcases hl with ⟨_,hl⟩|⟨_,hl⟩|⟨h0,hl⟩
    ·omega
    ·omega
    ·rw [← hen] at hl
     exact hO.ntrans _ _ _ (k.le hO (by omega) h2 w) (hO.ntrans _ _ _ hl (h.le hO x (by omega) (by omega)))
  ·rw [e2 i h1 y]
   rcases Nat.lt_or_ge j en with h2|h2
   ·rw [e3 j z h2]
    rcases hr with ⟨_,hr⟩|⟨_,hr⟩|hr
    ·omega
    ·omega
    ·have h3:=k.le hO (i:=i+(m-start)) (j:=mid+m-1-start) (by omega) (by omega) (by omega)
     have h4:=h.le hO (i:=start) (j:=j-(en-m)) q5 (by omega) (by omega)
     exact hO.ntrans _ _ _ h4 (hO.ntrans _ _ _ (swo_asym hO hr) h3)
   ·rw [e4 j h2];exact k _ _ (by omega) (by omega) w
theorem srt_join {F F1 F2:Nat→α} {a mid b:Nat} (l1:locP a mid F F1) (s1:srt lt F1 a mid) (l2:locP mid b F1 F2) (s2:srt lt F2 mid b)
  (c:∀ i j,a≤i→i < mid→mid≤j→j < b→lt (F j) (F i)=false):srt lt F2 a b:=by
 refine srt.app (s1.cong fun k _ y=>l2.out (.inl y)) s2 fun i j x y z w=>?_
 rw [l2.out (.inl y)]
 obtain ⟨i',p1,p2,e1⟩:=l1.in' x y
 obtain ⟨j',q1,q2,e2⟩:=l2.in' z w
 rw [e1,e2,l1.out (.inr q1)]
 exact c i' j' p1 p2 q1 q2
theorem locP.perm {n:Nat} {f g:Nat→α} (h:locP 0 n f g):((List.range n).map g).Perm ((List.range n).map f):=by
 have hin:∀ k,k < n→∃ j,j < n∧True:=fun k hk=>⟨k,hk,trivial⟩
 obtain ⟨s,t,i,o,e⟩:=h
 have hs:∀ k,k < n→s k < n:=fun k hk=>by
  rcases Nat.lt_or_ge (s k) n with h3|h3
  ·exact h3
  ·have h4:=o (s k) (.inr h3)
   have h5:=congrArg t h4
   rw [(i _).1,(i _).1] at h5;omega
 have ht:∀ k,k < n→t k < n:=fun k hk=>by
  rcases Nat.lt_or_ge (t k) n with h3|h3
  ·exact h3
  ·have h4:=o (t k) (.inr h3)
   rw [(i _).2] at h4;omega
 have hp:((List.range n).map s).Perm (List.range n):=by
  refine (List.perm_ext_iff_of_nodup ?_ List.nodup_range).2 fun x=>?_
  ·unfold List.Nodup
   rw [List.pairwise_map]
   refine List.Pairwise.imp (fun {x y} hne hxy=>hne ?_) (List.nodup_range (n:=n))
   have:=congrArg t hxy
   rwa [(i _).1,(i _).1] at this
  ·rw [List.mem_map]
   constructor
   ·rintro ⟨y,hy,rfl⟩
    exact List.mem_range.2 (hs y (List.mem_range.1 hy))
   ·intro hx
    exact ⟨t x,List.mem_range.2 (ht x (List.mem_range.1 hx)),(i _).2⟩
 have:=hp.map f
 rw [List.map_map] at this
 have e2:(List.range n).map g=(List.range n).map (f ∘ s):=List.map_congr_left fun k _=>e k
 rw [e2];exact this
theorem srt.pairwise {n:Nat} {f:Nat→α} (h:srt lt f 0 n):((List.range n).map f).Pairwise (fun x y=>lt y x=false):=by
 rw [List.pairwise_map,List.pairwise_iff_getElem]
 intro i j hi hj hij
 simp only [List.length_range] at hi hj
 simpa using h i j (Nat.zero_le _) hij hj
end
end Go.Aw
