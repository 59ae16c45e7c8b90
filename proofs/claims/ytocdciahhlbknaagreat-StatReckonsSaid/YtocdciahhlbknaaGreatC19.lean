/- Contracts of functions of the given program, by the abstract walk, for law StatReckons: what each one hands back; no condition but those that each theorem states. -/
import Derived.StillTailTactics
import Derived.Test.YtocdciahhlbknaaGreatC16
import Derived.Test.YtocdciahhlbknaaGreatC4
import Derived.Test.YtocdciahhlbknaaGreatL3
import Derived.Test.YtocdciahhlbknaaGreatW3
namespace Go.Aw
open Go.Proofs Go.Sort
set_option maxRecDepth 100000
set_option maxHeartbeats 4000000
def tsegs (l:List Sg):T:=.sl 5 (l.map tseg)
abbrev segs (l:List Sg):V:=.g (tsegs l)
def tlive (v:List (List Bool)):T:=.sl 1 (v.map tbools)
abbrev livs (v:List (List Bool)):V:=.g (tlive v)
def bndM (l:List Sg) (v:List (List Bool)):Prop:=l.length < 1000000000∧v.length < 1000000000∧(∀ s∈l,bndS s)∧∀ x∈v,x.length < 1000000000
def rightP (l:List Sg) (v:List (List Bool)):Prop:=l.length=v.length∧∀ i,i < l.length→SgP (l.getD i noSg)∧(v.getD i []).length=(l.getD i noSg).ids.length
instance (l:List Sg) (v:List (List Bool)):Decidable (rightP l v):=by unfold rightP;exact inferInstance
theorem getD_at {α:Type} {l:List α} {i:Nat} (d:α) (h:i < l.length):l.getD i d=l[i]:=by simp [List.getD,h]
theorem c_merge_right (l:List Sg) (v:List (List Bool)) (hb:bndM l v):CG Tryz.prog 133 [tsegs l,tlive v] (.b (decide (rightP l v))):=by
 refine ⟨k_merge_right.calls ?_⟩
 obtain ⟨h1,h2,h3,h4⟩:=hb
 have hma:(l.map tseg).length=l.length:=by simp
 have hmb:(v.map tbools).length=v.length:=by simp
 have no:¬ rightP l v→∀ L,Ends [] (fun r h=>r=V.g (T.b (decide (rightP l v)))∧h=[]) (V.g (T.sc (Value.bool false))) L:=fun e L=>by
  rw [decide_eq_false e];exact Ends.ground (H:=[]) (L:=L) 0 rfl ⟨rfl,rfl⟩
 try conv=>whnf
 refine Br.ne (fun e1=>?_) (fun e1=>?_)
 ·try conv=>whnf
  exact ⟨no (fun q=>by have:=q.1;rw [hma,hmb] at e1;omega) _⟩
 have e1':l.length=v.length:=by rw [hma,hmb] at e1;omega
 try conv=>whnf
 refine SW.loopR (α:=Nat) (fun k=>tm 34 [(1,livs v),(12,segs l),(13,.g (.i l.length)),(14,.g (.i k))]) (fun _=>[])
  (fun k=>k≤l.length∧∀ i,i < k→SgP (l.getD i noSg)∧(v.getD i []).length=(l.getD i noSg).ids.length) (fun k=>l.length-k) 0 ?_ ?_ ?_
 ·exact ⟨Nat.zero_le _,fun i h=>absurd h (by omega)⟩
 ·exact Refi.sub rfl (by simp [subT,subV,tm,tmGo,tsegs,tlive])
 ·rintro k ⟨hk,hd⟩
  dsimp only at hk hd ⊢
  conv=>whnf
  refine Br.dec (fun h=>?_) (fun h=>?_)
  ·have hk':k < l.length:=by omega
   have hkv:k < v.length:=by omega
   have hbk:=h3 _ (List.getElem_mem hk')
   have hvk:=h4 _ (List.getElem_mem hkv)
   have bad:¬ (SgP l[k]∧v[k].length=l[k].ids.length)→¬ rightP l v:=fun e q=>e (by have:=q.2 k hk';rwa [getD_at _ hk',getD_at _ hkv] at this)
   have hm1:(v[k].map T.b).length=v[k].length:=by simp
   have hm2:(l[k].ids.map T.s).length=l[k].ids.length:=by simp
   (try conv=>whnf);repeat ((first|refine (c_seg_May l[k] hbk.2.2.2 hbk.1).go rfl ?_|refine ⟨_,getZ (by omega),?_⟩|refine ⟨by omega,rfl,?_⟩|refine ⟨rfl,_,rfl,⟨rfl,rfl,by decide⟩,?_⟩|refine ⟨rfl,_,rfl,?_⟩|refine ⟨rfl,?_⟩);conv=>whnf)
   refine Br.not (fun e2=>?_) (fun e2=>?_)
   ·try conv=>whnf
    exact ⟨no (bad fun q=>of_decide_eq_false e2 q.1) _⟩
   ·(try conv=>whnf);repeat ((first|refine ⟨_,getZ (by omega),?_⟩|refine ⟨by omega,rfl,?_⟩|refine ⟨rfl,_,rfl,?_⟩);conv=>whnf)
    refine Br.ne (fun e3=>?_) (fun e3=>?_)
    ·try conv=>whnf
     exact ⟨no (bad fun q=>by rw [hm1,hm2] at e3;omega) _⟩
    ·(try conv=>whnf);repeat ((first|refine ⟨in64 (by omega) (by omega),?_⟩);conv=>whnf)
     refine ⟨⟨k+1,⟨hk',fun i hi=>?_⟩,by omega,Refi.back (H':=[]) (L:=[_]) rfl (Nat.zero_le _) (by simp) (by simp [subT,subV,tm,tmGo,cutV,ltB,ltS])⟩⟩
     rcases Nat.lt_or_ge i k with h5|h5
     ·exact hd i h5
     ·have:i=k:=by omega
      subst this
      rw [getD_at _ hk',getD_at _ hkv]
      exact ⟨of_decide_eq_true e2,by rw [hm1,hm2] at e3;omega⟩
  ·have:k=l.length:=by omega
   subst this
   try conv=>whnf
   have hr:rightP l v:=⟨e1',hd⟩
   rw [decide_eq_true hr]
   exact ⟨Ends.ground (H:=[]) (L:=[]) 0 rfl ⟨rfl,rfl⟩⟩
def cntB (x:List Bool):Nat:=(x.filter fun b=>b).length
theorem cntB_le (x:List Bool):cntB x≤x.length:=List.length_filter_le _ _
def manyN (v:List (List Bool)):Nat:=(v.map cntB).sum
theorem c_live_CountS1 (i:Int) (b:Bool):CG Tryz.prog 122 [.i i,.b b] (.b b):=by
 refine ⟨k_live_CountS1.calls ?_⟩
 try conv=>whnf
 exact ⟨Ends.ground (H:=[]) (L:=[]) 0 rfl ⟨rfl,rfl⟩⟩
theorem c_live_count (x:List Bool) (hx:x.length < 1000000000):ACalls Tryz.prog 121 [.g (tbools x),.fn 122 []] [] (fun r h=>r=.g (.i (cntB x))∧h=[]):=by
 refine k_live_count_bool.calls ?_
 have hm:(x.map T.b).length=x.length:=by simp
 try conv=>whnf
 refine SW.loopR (α:=Nat) (fun k=>tm 23 [(1,.fn 122 []),(5,.g (.i (cntB (x.take k)))),(8,.g (tbools x)),(9,.g (.i x.length)),(10,.g (.i k))]) (fun _=>[]) (fun k=>k≤x.length) (fun k=>x.length-k) 0 ?_ ?_ ?_
 ·exact Nat.zero_le _
 ·exact Refi.sub rfl (by simp [subT,subV,tm,tmGo,tbools,cntB])
 ·intro k hk
  dsimp only at hk ⊢
  have hc:cntB (x.take k)≤k:=Nat.le_trans (cntB_le _) (by simp;omega)
  conv=>whnf
  refine Br.dec (fun h=>?_) (fun h=>?_)
  ·have hk':k < x.length:=by omega
   have e:cntB (x.take (k+1))=cntB (x.take k)+(if x[k] then 1 else 0):=by
    rw [List.take_succ_eq_append_getElem hk',cntB,List.filter_append,List.length_append]
    cases x[k] <;> rfl
   (try conv=>whnf);repeat ((first|refine (c_live_CountS1 k x[k]).go rfl ?_|refine ⟨_,getZ (by omega),?_⟩|refine ⟨by omega,rfl,?_⟩);conv=>whnf)
   refine Br.intro (fun e1=>?_) (fun e1=>?_)
   ·rw [e1] at e
    (try conv=>whnf);repeat ((first|refine ⟨in64 (by omega) (by omega),?_⟩);conv=>whnf)
    refine ⟨⟨k+1,hk',by omega,Refi.sub rfl (by simp [subT,subV,tm,tmGo,e])⟩⟩
   ·rw [e1] at e
    (try conv=>whnf);repeat ((first|refine ⟨in64 (by omega) (by omega),?_⟩);conv=>whnf)
    refine ⟨⟨k+1,hk',by omega,Refi.sub rfl (by simp [subT,subV,tm,tmGo,e])⟩⟩
  ·have:k=x.length:=by omega
   subst this
   rw [List.take_length]
   try conv=>whnf
   exact ⟨Ends.ground (H:=[]) (L:=[]) 0 rfl ⟨rfl,rfl⟩⟩
theorem c_live_Count (x:List Bool) (hx:x.length < 1000000000):CG Tryz.prog 52 [tbools x] (.i (cntB x)):=by
 refine ⟨k_live_Count.calls ?_⟩
 try conv=>whnf
 refine (c_live_count x hx).mono ?_
 rintro r h ⟨rfl,rfl⟩
 try conv=>whnf
 exact ⟨Ends.ground (H:=[]) (L:=[]) 0 rfl ⟨rfl,rfl⟩⟩
theorem c_merge_many (v:List (List Bool)) (h1:v.length < 1000000000) (h2:∀ x∈v,x.length < 1000000000):CG Tryz.prog 144 [tlive v] (.i (manyN v)):=by
 refine ⟨k_merge_many.calls ?_⟩
 have hm:(v.map tbools).length=v.length:=by simp
 try conv=>whnf
 refine SW.loopR (α:=Nat) (fun k=>tm 18 [(3,.g (.i (manyN (v.take k)))),(6,livs v),(7,.g (.i v.length)),(8,.g (.i k))]) (fun _=>[]) (fun k=>k≤v.length∧manyN (v.take k)≤1000000000*k) (fun k=>v.length-k) 0 ?_ ?_ ?_
 ·exact ⟨Nat.zero_le _,by simp [manyN]⟩
 ·exact Refi.sub rfl (by simp [subT,subV,tm,tmGo,tlive,manyN])
 ·rintro k ⟨hk,hc⟩
  dsimp only at hk hc ⊢
  conv=>whnf
  refine Br.dec (fun h=>?_) (fun h=>?_)
  ·have hk':k < v.length:=by omega
   have hx:=h2 _ (List.getElem_mem hk')
   have hle:=cntB_le v[k]
   have e:manyN (v.take (k+1))=manyN (v.take k)+cntB v[k]:=by
    rw [List.take_succ_eq_append_getElem hk',manyN,List.map_append,List.sum_append];simp [manyN]
   (try conv=>whnf);repeat ((first|refine (c_live_Count v[k] hx).go rfl ?_|refine ⟨_,getZ (by omega),?_⟩|refine ⟨by omega,rfl,?_⟩|refine ⟨in64 (by omega) (by omega),?_⟩);conv=>whnf)
   refine ⟨⟨k+1,⟨hk',by rw [e];omega⟩,by omega,Refi.sub rfl (by simp [subT,subV,tm,tmGo,e])⟩⟩
  ·have:k=v.length:=by omega
   subst this
   rw [List.take_length]
   try conv=>whnf
   exact ⟨Ends.ground (H:=[]) (L:=[]) 0 rfl ⟨rfl,rfl⟩⟩
end Go.Aw
namespace Go.Aw
open Go.Proofs Go.Sort
set_option maxRecDepth 100000
set_option maxHeartbeats 4000000
def liveD (x:List Bool) (j:Nat):List Nat:=(List.range j).filter fun d=>x.getD d false
def leftN (v:List (List Bool)) (k:Nat):List (Nat×Nat):=(List.range k).flatMap fun i=>(liveD (v.getD i []) (v.getD i []).length).map fun d=>(i,d)
def leftP (v:List (List Bool)):List (Nat×Nat):=leftN v v.length
def idP (l:List Sg) (p:Nat×Nat):ByteArray:=(l.getD p.1 noSg).ids.getD p.2 default
def keyP (l:List Sg) (p:Nat×Nat):Int:=(l.getD p.1 noSg).keys.getD p.2 0
def lenP' (l:List Sg) (p:Nat×Nat):Int:=(l.getD p.1 noSg).lens.getD p.2 0
theorem liveD_succ {x:List Bool} {j:Nat} (hj:j < x.length):liveD x (j+1)=liveD x j++if x[j] then [j] else []:=by
 rw [liveD,List.range_succ,List.filter_append]
 congr 1
 simp only [List.filter_cons,List.filter_nil,getD_at false hj]
theorem liveD_cnt {x:List Bool}:∀ {j:Nat},j≤x.length→(liveD x j).length=cntB (x.take j)
 | 0,_=>by simp [liveD,cntB]
 | j+1,h=>by
  have hj:j < x.length:=by omega
  rw [liveD_succ hj,List.length_append,liveD_cnt (by omega),List.take_succ_eq_append_getElem hj,cntB,cntB,List.filter_append,List.length_append]
  congr 1
  cases x[j] <;> rfl
theorem leftN_succ {v:List (List Bool)} {k:Nat}:leftN v (k+1)=leftN v k++(liveD (v.getD k []) (v.getD k []).length).map fun d=>(k,d):=by
 rw [leftN,List.range_succ,List.flatMap_append];simp [leftN]
theorem leftN_len {v:List (List Bool)}:∀ {k:Nat},k≤v.length→(leftN v k).length=manyN (v.take k)
 | 0,_=>by simp [leftN,manyN]
 | k+1,h=>by
  have hk:k < v.length:=by omega
  rw [leftN_succ,List.length_append,leftN_len (by omega),List.length_map,List.take_succ_eq_append_getElem hk,manyN,manyN,List.map_append,List.sum_append,getD_at [] hk,liveD_cnt (Nat.le_refl _),List.take_length]
  simp
theorem leftP_len {v:List (List Bool)}:(leftP v).length=manyN v:=by rw [leftP,leftN_len (Nat.le_refl _),List.take_length]
theorem liveD_le {x:List Bool} {j:Nat}:(liveD x j).length≤j:=by
 have:=List.length_filter_le (fun d=>x.getD d false) (List.range j)
 simpa [liveD] using this
theorem leftN_le {l:List Sg} {v:List (List Bool)} (hr:rightP l v):∀ {k:Nat},k≤l.length→(leftN v k).length≤64*k
 | 0,_=>by simp [leftN]
 | k+1,h=>by
  have:=leftN_le hr (k:=k) (by omega)
  obtain ⟨h1,h2⟩:=hr.2 k (by omega)
  have h3:=h1.1
  have h4:=liveD_le (x:=v.getD k []) (j:=(v.getD k []).length)
  rw [leftN_succ,List.length_append,List.length_map];omega
def kvC (m:List (ByteArray×Nat)):List (Value×Value):=m.map fun p=>(.string p.1,.int .i64 p.2)
structure CntM (m:List (ByteArray×Nat)) (P:List ByteArray):Prop where
 nd:(m.map (·.1)).Nodup
 mem:∀ x,x∈m.map (·.1)↔x∈P
 le:∀ p∈m,p.2≤P.length
 len:m.length≤P.length
 iff:m.length=P.length↔P.Nodup
theorem kvC_no {m:List (ByteArray×Nat)} {q:ByteArray} (h:q∉m.map (·.1)) {n:Nat}:mfind (false,[2]) (kvC m) (.string q) n=some none:=mfind_no fun p hp=>by
 obtain ⟨x,hx,rfl⟩:=List.mem_map.1 hp
 rw [sameT,decide_eq_false (fun e=>h (by rw [e];exact List.mem_map_of_mem hx))]
theorem kvC_at {m:List (ByteArray×Nat)} {q:ByteArray} (hn:(m.map (·.1)).Nodup) {i:Nat} (hi:i < m.length) (e:m[i].1=q) {n:Nat}:mfind (false,[2]) (kvC m) (.string q) n=some (some (n+i,.int .i64 m[i].2)):=by
 have:=mfind_at (kk:=(false,[2])) (k:=.string q) (kvs:=kvC m) (n:=n) (i:=i) (by simpa [kvC] using hi) (fun j hj=>by
  have:=List.pairwise_iff_getElem.1 hn j i (by simp;omega) (by simpa using hi) hj
  simp only [List.getElem_map] at this
  simp only [kvC,List.getElem_map,sameT]
  rw [decide_eq_false (fun h=>this (by rw [← h,e]))]) (by simp [kvC,sameT,e])
 simpa [kvC] using this
theorem CntM.nil:CntM [] []:=⟨by simp,by simp,by simp,by simp,by simp⟩
theorem CntM.add {m:List (ByteArray×Nat)} {P:List ByteArray} {q:ByteArray} (h:CntM m P) (hq:q∉m.map (·.1)):CntM (m++[(q,1)]) (P++[q]) where
 nd:=by
  rw [List.map_append];unfold List.Nodup;rw [List.pairwise_append]
  exact ⟨h.nd,by simp,fun a ha b hb=>by simp at hb;subst hb;exact fun e=>hq (by rw [← e];exact ha)⟩
 mem:=fun x=>by
  rw [List.map_append,List.mem_append,List.mem_append,h.mem];simp
 le:=fun p hp=>by
  rw [List.mem_append] at hp
  rcases hp with hp|hp
  ·have:=h.le p hp;simp;omega
  ·simp at hp;subst hp;simp
 len:=by have:=h.len;simp;omega
 iff:=by
  have hqP:q∉P:=fun e=>hq ((h.mem q).2 e)
  have e1:(P++[q]).Nodup↔P.Nodup:=by
   unfold List.Nodup;rw [List.pairwise_append]
   exact ⟨fun e=>e.1,fun e=>⟨e,by simp,fun a ha b hb=>by simp at hb;subst hb;exact fun e=>hqP (by rw [← e];exact ha)⟩⟩
  rw [e1,← h.iff];simp
theorem CntM.up {m:List (ByteArray×Nat)} {P:List ByteArray} {q:ByteArray} (h:CntM m P) {i:Nat} (hi:i < m.length) (e:m[i].1=q):CntM (m.set i (q,m[i].2+1)) (P++[q]):=by
 have hk:(m.set i (q,m[i].2+1)).map (·.1)=m.map (·.1):=by
  rw [List.map_set]
  refine List.ext_getElem (by simp) fun j h1 h2=>?_
  rw [List.getElem_set]
  split
  ·rename_i e2;subst e2;simp [e]
  ·rfl
 have hin:q∈P:=(h.mem q).1 (by rw [← e];exact List.mem_map_of_mem (List.getElem_mem hi))
 have no:¬ (P++[q]).Nodup:=fun hn=>by
  unfold List.Nodup at hn;rw [List.pairwise_append] at hn
  exact hn.2.2 q hin q (by simp) rfl
 refine ⟨by rw [hk];exact h.nd,fun x=>?_,fun p hp=>?_,by have:=h.len;simp;omega,?_⟩
 ·rw [hk,h.mem,List.mem_append]
  exact ⟨.inl,fun e=>e.elim id fun e=>by simp at e;subst e;exact hin⟩
 ·rcases List.mem_or_eq_of_mem_set hp with hp|hp
  ·have:=h.le p hp;simp;omega
  ·subst hp;have:=h.le _ (List.getElem_mem hi);simp;omega
 ·have:=h.len
  exact ⟨fun e=>by simp at e;omega,fun e=>absurd e no⟩
theorem c_merge_twice (l:List Sg) (v:List (List Bool)) (hb:bndM l v) (hr:rightP l v):CG Tryz.prog 143 [tsegs l,tlive v] (.b (decide (¬ ((leftP v).map (idP l)).Nodup))):=by
 refine ⟨k_merge_twice.calls ?_⟩
 obtain ⟨h1,h2,h3,h4⟩:=hb
 obtain ⟨r1,r2⟩:=id hr
 have hma:(l.map tseg).length=l.length:=by simp
 try conv=>whnf
 refine SW.loopR (α:=Nat×List (ByteArray×Nat)) (fun a=>tm 44 [(1,livs v),(5,.mp 0),(11,segs l),(12,.g (.i l.length)),(13,.g (.i a.1))]) (fun a=>[.mp (kvC a.2)])
  (fun a=>a.1≤l.length∧CntM a.2 ((leftN v a.1).map (idP l))) (fun a=>l.length-a.1) (0,[]) ?_ ?_ ?_
 ·exact ⟨Nat.zero_le _,by simpa [leftN] using CntM.nil⟩
 ·exact Refi.sub rfl (by simp [subT,subV,tm,tmGo,tsegs,tlive])
 ·rintro ⟨k,m⟩ ⟨hk,hm⟩
  dsimp only at hk hm ⊢
  conv=>whnf
  refine Br.dec (fun h=>?_) (fun h=>?_)
  ·have hk':k < l.length:=by omega
   have hkv:k < v.length:=by omega
   obtain ⟨q1,q2⟩:=r2 k hk'
   rw [getD_at _ hk'] at q1 q2
   rw [getD_at _ hkv] at q2
   have hm2:(l[k].ids.map T.s).length=l[k].ids.length:=by simp
   have hm1:(v[k].map T.b).length=l[k].ids.length:=by simp [q2]
   have hid:=q1.1
   have hle:=leftN_le hr (k:=k) (by omega)
   (try conv=>whnf);repeat ((first|refine ⟨_,getZ (by omega),?_⟩|refine ⟨by omega,rfl,?_⟩|refine ⟨rfl,_,rfl,⟨rfl,rfl,by decide⟩,?_⟩|refine ⟨rfl,_,rfl,?_⟩|refine ⟨rfl,?_⟩);conv=>whnf)
   refine SW.loopR (α:=Nat×List (ByteArray×Nat)) (fun a=>tm 44 [(1,livs v),(5,.mp 0),(6,.g (.i k)),(11,segs l),(12,.g (.i l.length)),(13,.g (.i k)),(19,strs l[k].ids),(20,.g (.i l[k].ids.length)),(21,.g (.i a.1))])
    (fun a=>[.mp (kvC a.2),.arr 0 5 [.g (tseg l[k])]])
    (fun a=>a.1≤l[k].ids.length∧CntM a.2 ((leftN v k++(liveD v[k] a.1).map fun d=>(k,d)).map (idP l))) (fun a=>l[k].ids.length-a.1) (0,m) ?_ ?_ ?_
   ·exact ⟨Nat.zero_le _,by simpa [liveD] using hm⟩
   ·exact Refi.sub rfl (by simp [subT,subV,tm,tmGo,strs])
   ·rintro ⟨j,m⟩ ⟨hj,hm⟩
    dsimp only at hj hm ⊢
    conv=>whnf
    refine Br.dec (fun h=>?_) (fun h=>?_)
    ·have hj':j < l[k].ids.length:=by omega
     have hjv:j < v[k].length:=by omega
     have hs:=liveD_succ (x:=v[k]) (j:=j) hjv
     have hll:=liveD_le (x:=v[k]) (j:=j)
     (try conv=>whnf);repeat ((first|refine ⟨_,getZ (by omega),?_⟩|refine ⟨by omega,rfl,?_⟩|refine ⟨by (simp;omega),rfl,?_⟩);conv=>whnf)
     refine Br.intro (fun e1=>?_) (fun e1=>?_)
     ·rw [e1,if_pos rfl] at hs
      have hidp:idP l (k,j)=l[k].ids[j]:=by rw [idP,getD_at _ hk',getD_at _ hj']
      have hP:(leftN v k++(liveD v[k] (j+1)).map fun d=>(k,d)).map (idP l)=(leftN v k++(liveD v[k] j).map fun d=>(k,d)).map (idP l)++[l[k].ids[j]]:=by
       rw [hs,List.map_append,List.map_append,List.map_append,List.map_append,List.append_assoc]
       simp [hidp]
      have hPl:((leftN v k++(liveD v[k] j).map fun d=>(k,d)).map (idP l)).length≤64000000064:=by
       simp only [List.length_map,List.length_append];omega
      by_cases hin:l[k].ids[j]∈m.map (·.1)
      ·obtain ⟨i,hi,ei⟩:=List.getElem_of_mem hin
       simp only [List.length_map] at hi
       simp only [List.getElem_map] at ei
       have g1:=kvC_at hm.nd hi ei (n:=0)
       have hc:=hm.le _ (List.getElem_mem hi)
       (try conv=>whnf);repeat ((first|refine ⟨rfl,_,g1,?_⟩|refine ⟨in64 (by omega) (by omega),?_⟩);conv=>whnf)
       refine ⟨⟨(j+1,m.set i (l[k].ids[j],m[i].2+1)),⟨hj',by rw [hP];exact hm.up hi ei⟩,by show l[k].ids.length-(j+1) < l[k].ids.length-j;omega,Refi.sub ?_ (by simp [subT,subV,tm,tmGo,strs])⟩⟩
       simp [mput,kvC,List.map_set]
      ·have g1:=kvC_no hin (n:=0)
       (try conv=>whnf);repeat ((first|refine ⟨rfl,_,g1,?_⟩|refine ⟨in64 (by omega) (by omega),?_⟩);conv=>whnf)
       refine ⟨⟨(j+1,m++[(l[k].ids[j],1)]),⟨hj',by rw [hP];exact hm.add hin⟩,by show l[k].ids.length-(j+1) < l[k].ids.length-j;omega,Refi.sub ?_ (by simp [subT,subV,tm,tmGo,strs])⟩⟩
       simp [mput,kvC]
     ·rw [e1,if_neg (by simp),List.append_nil] at hs
      (try conv=>whnf);repeat ((first|refine ⟨in64 (by omega) (by omega),?_⟩);conv=>whnf)
      refine ⟨⟨(j+1,m),⟨hj',by rw [hs];exact hm⟩,by show l[k].ids.length-(j+1) < l[k].ids.length-j;omega,Refi.sub rfl (by simp [subT,subV,tm,tmGo,strs])⟩⟩
    ·have:j=l[k].ids.length:=by omega
     subst this
     (try conv=>whnf);repeat ((first|refine ⟨in64 (by omega) (by omega),?_⟩);conv=>whnf)
     refine ⟨⟨(k+1,m),⟨hk',by rw [leftN_succ,getD_at _ hkv,q2];exact hm⟩,by show l.length-(k+1) < l.length-k;omega,Refi.back (H':=[.mp (kvC m)]) (L:=[_]) rfl (Nat.zero_le _) (by simp [Blk.lt]) (by simp [subT,subV,tm,tmGo,cutV,ltB,ltS])⟩⟩
  ·have:k=l.length:=by omega
   subst this
   have hlen:=leftN_le hr (k:=l.length) (by omega)
   have hP:(leftN v l.length).map (idP l)=(leftP v).map (idP l):=by rw [leftP,← r1]
   rw [hP] at hm
   have hle:=hm.len
   have hmn:((leftP v).map (idP l)).length=manyN v:=by rw [List.length_map,leftP_len]
   have hkv:(kvC m).length=m.length:=by simp [kvC]
   have hres:decide (((m.length:Nat):Int) < ((manyN v:Nat):Int))=decide (¬ ((leftP v).map (idP l)).Nodup):=by
    refine decide_eq_decide.2 ?_
    rw [← hm.iff];omega
   (try conv=>whnf);repeat ((first|refine (c_merge_many v h2 h4).go rfl ?_);conv=>whnf)
   rw [hkv,hres]
   exact ⟨Ends.ground (H:=[]) (L:=[_]) 0 rfl ⟨rfl,rfl⟩⟩
end Go.Aw
namespace Go.Aw
open Go.Proofs Go.Sort Go.RowKit Go.Shelf
set_option maxRecDepth 100000
set_option maxHeartbeats 4000000
theorem or3 (x y z:Int) (b:Nat) (W:World) (h0:W.cell? ⟨b,0,none⟩=some (.int .i64 x)) (h1:W.cell? ⟨b,1,none⟩=some (.int .i64 y)) (h2:W.cell? ⟨b,2,none⟩=some (.int .i64 z)) :
  Calls Tryz.prog 166 #[.slice (some ⟨b,0,none⟩) 3 3] W fun e w'=>e=.returned (.int .i64 (firstNZ [x,y,z]))∧w'=W:=by
 go_enter Tryz.func166,Tryz.ntmps166
 go_wp2
 refine wp_loop_rounds 4 ?_
 rw [rounds_succ]
 go_wp2
 ·rename_i hx
  go_ret
  exact ⟨by rw [firstNZ,if_neg (by simpa using hx)];rfl,rfl⟩
 ·rename_i hx
  have hx':x=0:=by simpa using hx
  rw [rounds_succ]
  go_wp2
  ·rename_i hy
   go_ret
   exact ⟨by rw [firstNZ,if_pos hx',firstNZ,if_neg (by simpa using hy)];rfl,rfl⟩
  ·rename_i hy
   have hy':y=0:=by simpa using hy
   rw [rounds_succ]
   go_wp2
   ·rename_i hz
    go_ret
    exact ⟨by rw [firstNZ,if_pos hx',firstNZ,if_pos hy',firstNZ,if_neg (by simpa using hz)];rfl,rfl⟩
   ·rename_i hz
    have hz':z=0:=by simpa using hz
    rw [rounds_succ]
    go_wp2
    go_ret
    exact ⟨by rw [firstNZ,if_pos hx',firstNZ,if_pos hy',firstNZ,if_pos hz',firstNZ];rfl,rfl⟩
def cmp3 (ks:List Int) (ds:List ByteArray) (i j:Nat):Int:=firstNZ [cmpI (ks.getD i 0) (ks.getD j 0),cmpS (ds.getD i default) (ds.getD j default),(i:Int)-j]
theorem closure_ord3 (ks:List Int) (ds:List ByteArray) (hd:ds.length=ks.length) (hl:ks.length < 1000000000):CmpI Tryz.prog 247 (ks.map (Value.int .i64)).length (ks.map (Value.int .i64)) (ds.map Value.string) (cmp3 ks ds):=by
 intro A B W ka oa kb ob c1 c2 hA hB hc1 hc2 hk hs i j hi hj
 simp only [List.length_map] at hi hj hA hB hc1 hc2
 have a1:W.cell? ⟨ka,oa+i,none⟩=some (.int .i64 (ks.getD i 0)):=hk i _ (by simp [List.getD,hi])
 have a2:W.cell? ⟨ka,oa+j,none⟩=some (.int .i64 (ks.getD j 0)):=hk j _ (by simp [List.getD,hj])
 have b1:W.cell? ⟨kb,ob+i,none⟩=some (.string (ds.getD i default)):=hs i _ (by simp [List.getD,hd,hi])
 have b2:W.cell? ⟨kb,ob+j,none⟩=some (.string (ds.getD j default)):=hs j _ (by simp [List.getD,hd,hj])
 clear hk hs
 unfold cmp3
 generalize ks.getD i 0=x1 at a1 ⊢
 generalize ks.getD j 0=x2 at a2 ⊢
 generalize ds.getD i default=y1 at b1 ⊢
 generalize ds.getD j default=y2 at b2 ⊢
 generalize ks.length=n at *
 clear hd ks ds
 have hq1:=fun W'=>AnyG.cmp_Compare_int Tryz.cmpInt x1 x2 W'
 change ∀ W',Calls Tryz.prog 167 _ _ _ at hq1
 have hq2:=fun W'=>Tryz.strings_Compare y1 y2 W'
 rw [compareI] at hq1
 unfold cmpS
 generalize cmpI x1 x2=r at hq1 ⊢
 generalize Lib.compareBytes y1.data.toList y2.data.toList=r2 at hq2 ⊢
 have hor:=fun B W' h0 h1 h2=>or3 r r2 ((i:Int)-j) B W' h0 h1 h2
 generalize firstNZ [r,r2,(i:Int)-j]=r3 at hor ⊢
 go_enter Tryz.func247,Tryz.ntmps247
 go_wp2
 refine wp_region_still_tail 21 (by kernel_rfl) (by kernel_rfl) ?_
 simp only [List.take_succ_cons,List.take_zero,List.drop_succ_cons,List.drop_zero]
 still_step
 still_step
 still_step
 still_step
 still_step
 still_step
 still_step
 still_step
 still_call (hq1 _)
 still_step
 still_step
 still_step
 still_step
 still_step
 still_step
 still_step
 still_step
 still_call (hq2 _)
 still_step
 still_step
 still_step
 try refine wpStill_nil ?_
 change wpList _ _ _ _ _ W.drew
 have hg2:∃ q os',grow (W.drewN q) os'=W.drew:=⟨1,#[],by rw [grow_empty];rfl⟩
 generalize W.drew=W3 at hg2 ⊢
 go_wp2_with (go_at_call 166;refine (hor _ _ (by simp) (by simp) (by simp)).mono ?_;rintro e w' ⟨rfl,rfl⟩)
 go_ret
 obtain ⟨q,os',hq⟩:=hg2
 exact ⟨rfl,q,_,by rw [← hq,alloc_eq_grow,grow_grow]⟩
end Go.Aw
namespace Go.Aw
open Go.Proofs Go.Sort
set_option maxRecDepth 100000
set_option maxHeartbeats 4000000
def vI (l:List Int):List V:=l.map fun x=>V.g (.i x)
theorem storeI (y z:Int):storeV (V.g (T.i y)) 0 (V.g (T.i z))=V.g (T.i z):=rfl
theorem vI_T (l:List Int):(l.map T.i).map V.g=vI l:=by rw [List.map_map];rfl
theorem vI_gr {l:List Int} {n d b g:Nat} {h:List Blk} (hb:h[b]?=some (.arr g 1 (vI l))) (hn:n≤b):gr n h (d+1) (.own b g 0 l.length)=some (tints l) :=
 gr_own (f:=fun x=>V.g (.i x)) (e:=T.i) hb hn rfl fun _ _=>gr_g
theorem c_Clone_own (xs:List Int) (hl:xs.length < 1000000000):ACalls Tryz.prog 130 [.g (tints xs)] [] (fun r h=>∃ g,r=.own 0 g 0 xs.length∧h=[.arr g 1 (vI xs)]):=by
 refine k_slices_Clone_Lint_int.calls ?_
 conv=>whnf
 intro r hr
 conv=>whnf
 refine Br.intro (fun h=>?_) (fun h=>?_)
 ·conv=>whnf
  have:xs=[]:=by simpa using hr h
  subst this
  exact ⟨Ends.valloc ⟨0,rfl,rfl⟩⟩
 ·conv=>whnf
  refine ⟨rfl,?_⟩
  conv=>whnf
  refine ⟨by simp;omega,⟨rfl,rfl,rfl⟩,[],⟨[],rfl⟩,rfl,?_⟩
  conv=>whnf
  have el:((xs.map T.i).map V.g).length=xs.length:=by simp
  refine ⟨Ends.keep ⟨0+1,?_,?_⟩⟩
  ·rw [el];simp
  ·rw [vI_T];rfl
theorem c_Repeat_ints (n:Nat) (x:Int) (hn:n≤1100):ACalls Tryz.prog 246 [.g (tints [x]),.g (.i n)] [] (fun r h=>r=.own 0 0 0 n∧h=[.arr 0 1 (vI (List.replicate n x))]):=by
 refine k_slices_Repeat_Lint_int.calls ?_
 obtain ⟨i,hi⟩:∃ i:Int,i=n:=⟨_,rfl⟩
 rw [← hi]
 have hw:IntKind.u64.wrap i=n:=by rw [wrap_in (by simp [inR,IntKind.min,IntKind.max,IntKind.signed,IntKind.bits];omega)];exact hi
 have hw2:IntKind.i64.wrap (n:Int)=n:=wrap_in (in64 (by omega) (by omega))
 have hmul:=c_bits_Mul 1 n (by omega) (by omega)
 have e1:1*n / 18446744073709551616=0:=by omega
 have e2:1*n % 18446744073709551616=n:=by omega
 rw [e1,e2] at hmul
 conv=>whnf
 refine Br.dec (fun h=>absurd h (by omega)) (fun h=>?_)
 conv=>whnf
 rw [hw]
 refine hmul.go rfl ?_
 conv=>whnf
 refine Br.dec (fun h2=>absurd h2 (by omega)) (fun h2=>?_)
 conv=>whnf
 rw [hw2]
 refine ⟨⟨by omega,by omega⟩,rfl,?_⟩
 conv=>whnf
 refine ⟨rfl,?_⟩
 conv=>whnf
 refine ⟨⟨rfl,rfl⟩,?_⟩
 conv=>whnf
 refine SW.loopR (α:=Nat) (fun m=>tm 48 [(7,.own 0 0 0 n),(8,.g (.i m))]) (fun m=>[.arr 0 1 (List.replicate m (V.g (.i x))++List.replicate (n-m) (V.g (.i 0)))]) (fun m=>(1≤m∨n=0)∧m≤n) (fun m=>n-m) (min 1 n) ?_ ?_ ?_
 ·omega
 ·refine Refi.sub ?_ ?_
  ·rcases Nat.eq_zero_or_pos n with h0|h0
   ·subst h0;simp
   ·have:min 1 n=1:=by omega
    simp [this]
  ·simp [subT,subV,tm,tmGo]
 ·rintro m ⟨hm1,hm2⟩
  dsimp only at hm1 hm2 ⊢
  conv=>whnf
  refine Br.dec (fun h=>?_) (fun h=>?_)
  ·conv=>whnf
   refine ⟨rfl,?_⟩
   conv=>whnf
   refine ⟨⟨by omega,by omega,by omega⟩,?_⟩
   conv=>whnf
   refine ⟨rfl,?_⟩
   conv=>whnf
   refine ⟨⟨by omega,by omega,by omega⟩,?_⟩
   conv=>whnf
   refine ⟨⟨rfl,by simp,rfl⟩,?_⟩
   conv=>whnf
   refine ⟨⟨rfl,rfl⟩,?_⟩
   conv=>whnf
   have hy:(((List.replicate m (V.g (.i x))++List.replicate (n-m) (V.g (.i 0))).drop (0+Int.toNat 0)).take ((m:Int).toNat-Int.toNat 0))=List.replicate m (V.g (.i x)):=by simp
   rw [hy]
   have hmn:min (List.replicate m (V.g (T.i x))).length ((n:Int).toNat-(m:Int).toNat)=min m (n-m):=by simp
   rw [hmn]
   refine ⟨in64 (by omega) (by omega),?_⟩
   conv=>whnf
   refine ⟨⟨m+min m (n-m),⟨by omega,by omega⟩,by omega,Refi.sub ?_ ?_⟩⟩
   ·have hk:min m (n-m)≤m∧min m (n-m)≤n-m:=by omega
    generalize min m (n-m)=k at hk
    rw [show 0+(m:Int).toNat=m from by simp,List.take_append_of_le_length (by simp),List.take_replicate,Nat.min_self,List.take_replicate,Nat.min_eq_left hk.1,List.drop_append,List.drop_replicate,List.drop_replicate,List.length_replicate,
     show m-(m+k)=0 from by omega,List.replicate_zero,List.nil_append,List.replicate_append_replicate,show n-m-(m+k-m)=n-(m+k) from by omega]
   ·simp [subT,subV,tm,tmGo]
  ·conv=>whnf
   have:m=n:=by omega
   subst this
   exact ⟨Ends.keep ⟨rfl,by simp [vI]⟩⟩
def tabK (x:List Bool) (n k:Nat):List Int:=(List.range k).map fun j=>if x.getD j false then ((n+cntB (x.take j):Nat):Int) else -1
def tabS (x:List Bool) (n:Nat):List Int:=tabK x n x.length
theorem c_live_May (x:List Bool) (hx:x.length < 1000000000):CG Tryz.prog 244 [tbools x] (.b (decide (x.length≤64))):=by
 refine ⟨k_live_May.calls ?_⟩
 have hm:(x.map T.b).length=x.length:=by simp
 try conv=>whnf
 rw [hm]
 have e:decide ((x.length:Int)≤64)=decide (x.length≤64):=decide_eq_decide.2 (by omega)
 rw [e]
 exact ⟨Ends.ground (H:=[]) (L:=[]) 0 rfl ⟨rfl,rfl⟩⟩
theorem c_remap_TableS1 (b:Bool) (n:Nat) (hn:n < 1000000000) (L:Blk):ACalls Tryz.prog 245 [.g (.b b),.pa 0 0 0 0] [.arr 0 1 [.g (.i n)],L] (fun r h=>r=.g (.i (if b then (n:Int) else -1))∧h=[.arr 0 1 [.g (.i (if b then ((n+1:Nat):Int) else n))],L]):=by
 refine k_remap_TableS1.calls ?_
 try conv=>whnf
 refine Br.not (fun e=>?_) (fun e=>?_)
 ·subst e
  try conv=>whnf
  exact ⟨Ends.keep ⟨rfl,rfl⟩⟩
 ·subst e
  (try conv=>whnf);repeat ((first|refine ⟨rfl,_,rfl,⟨rfl,rfl,by decide⟩,?_⟩|refine ⟨rfl,_,rfl,?_⟩|refine ⟨in64 (by omega) (by omega),?_⟩);conv=>whnf)
  rw [show (n:Int)+1-1=n from by omega]
  exact ⟨Ends.keep ⟨rfl,rfl⟩⟩
theorem c_remap_Table (x:List Bool) (n:Nat) (hx:x.length≤64) (hn:n≤1100):CG Tryz.prog 203 [tbools x,.i n] (tints (tabS x n)):=by
 refine ⟨k_remap_Table.calls ?_⟩
 have hm:(x.map T.b).length=x.length:=by simp
 have cm:=c_live_May x (by omega)
 rw [decide_eq_true hx] at cm
 (try conv=>whnf);repeat ((first|refine (cm).go rfl ?_|refine ⟨rfl,_,rfl,?_⟩|refine ⟨⟨rfl,rfl⟩,?_⟩|refine Br.dec (fun hh=>absurd hh (by omega)) (fun _=>?_));conv=>whnf)
 refine SW.loopR (α:=Nat) (fun k=>tm 35 [(5,.own 1 k 0 k),(6,.fn 245 [.pa 0 0 0 0]),(21,.g (tbools x)),(22,.g (.i x.length)),(23,.g (.i k))])
  (fun k=>[.arr 0 1 [.g (.i ((n+cntB (x.take k):Nat):Int))],.arr k 1 (vI (tabK x n k))]) (fun k=>k≤x.length) (fun k=>x.length-k) 0 ?_ ?_ ?_
 ·exact Nat.zero_le _
 ·refine (Refi.valloc 5 1 rfl).trans (Refi.sub ?_ ?_)
  ·simp [tabK,vI,cntB,addB_eq]
  ·simp [subT,subV,tm,tmGo,tbools,setT]
   rfl
 ·intro k hk
  dsimp only at hk ⊢
  have hc:cntB (x.take k)≤k:=Nat.le_trans (cntB_le _) (by simp;omega)
  conv=>whnf
  refine Br.dec (fun h=>?_) (fun h=>?_)
  ·have hk':k < x.length:=by omega
   have e:cntB (x.take (k+1))=cntB (x.take k)+(if x[k] then 1 else 0):=by
    rw [List.take_succ_eq_append_getElem hk',cntB,List.filter_append,List.length_append]
    cases x[k] <;> rfl
   have htl:(vI (tabK x n k)).length=k:=by simp [vI,tabK]
   have ht:vI (tabK x n (k+1))=vI (tabK x n k)++[V.g (.i (if x[k] then ((n+cntB (x.take k):Nat):Int) else -1))]:=by
    rw [tabK,List.range_succ,List.map_append,vI,List.map_append]
    simp [vI,tabK,hk']
   (try conv=>whnf);repeat ((first|refine ⟨_,getZ (by omega),?_⟩|refine ⟨by omega,rfl,?_⟩);conv=>whnf)
   refine (c_remap_TableS1 x[k] (n+cntB (x.take k)) (by omega) _).mono ?_
   rintro r h ⟨rfl,rfl⟩
   (try conv=>whnf);repeat ((first|refine ⟨by simp;omega,⟨rfl,rfl,rfl⟩,_,⟨[],(List.append_nil _).symm⟩,by simp [htl],?_⟩|refine And.intro (show cellsAll _ _ from by repeat (first|exact trivial|refine ⟨⟨rfl,rfl⟩,?_⟩)) ?_|refine ⟨rfl,?_⟩|refine ⟨in64 (by omega) (by omega),?_⟩);conv=>whnf)
   refine ⟨⟨k+1,hk',by omega,Refi.sub ?_ (by simp [subT,subV,tm,tmGo])⟩⟩
   rw [ht,e]
   cases x[k] <;> simp [Nat.add_assoc]
  ·have:k=x.length:=by omega
   subst this
   try conv=>whnf
   refine ⟨Ends.ground (H:=[]) (L:=[_,_]) (t:=tints (tabS x n)) 1 ?_ ⟨rfl,rfl⟩⟩
   have e:x.length=(tabK x n x.length).length:=by simp [tabK]
   have:=vI_gr (l:=tabK x n x.length) (n:=0) (d:=0) (b:=1) (g:=x.length) (h:=[.arr 0 1 [.g (.i ((n+cntB (x.take x.length):Nat):Int))],.arr x.length 1 (vI (tabK x n x.length))]) rfl (Nat.zero_le _)
   rw [← e] at this
   exact this
def thenV (p:List Int) (y:Int):Int:=if 0≤y∧y < p.length then p.getD y.toNat (-1) else -1
theorem c_remap_Then (t p:List Int) (ht:t.length < 1000000000):CG Tryz.prog 206 [tints t,tints p] (tints (t.map (thenV p))):=by
 refine ⟨k_remap_Then.calls ?_⟩
 have hmt:(t.map T.i).length=t.length:=by simp
 have hmp:(p.map T.i).length=p.length:=by simp
 try conv=>whnf
 refine (c_Clone_own t ht).mono ?_
 rintro r h ⟨g,rfl,rfl⟩
 try conv=>whnf
 refine SW.loopR (α:=Nat) (fun k=>tm 37 [(1,.g (tints p)),(5,.own 0 g 0 t.length),(10,.g (tints t)),(11,.g (.i t.length)),(12,.g (.i k))])
  (fun k=>[.arr g 1 (vI ((t.take k).map (thenV p)++t.drop k))]) (fun k=>k≤t.length) (fun k=>t.length-k) 0 ?_ ?_ ?_
 ·exact Nat.zero_le _
 ·exact Refi.sub (by simp) (by simp [subT,subV,tm,tmGo,tints])
 ·intro k hk
  dsimp only at hk ⊢
  conv=>whnf
  refine Br.dec (fun h=>?_) (fun h=>?_)
  ·have hk':k < t.length:=by omega
   have hnx:(t.take (k+1)).map (thenV p)=(t.take k).map (thenV p)++[thenV p t[k]]:=by
    rw [List.take_succ_eq_append_getElem hk',List.map_append];rfl
   have hal:((t.take k).map (thenV p)).length=k:=by simp;omega
   rw [List.drop_eq_getElem_cons hk']
   have fin:∀ y:Int,thenV p t[k]=y→Blk.arr g 1 (vI ((t.take k).map (thenV p)++y::t.drop (k+1)))=Blk.arr g 1 (vI ((t.take (k+1)).map (thenV p)++t.drop (k+1))):=fun y e=>by
    rw [hnx,e,List.append_assoc];rfl
   generalize (t.take k).map (thenV p)=A at hal hnx fin ⊢
   have hg:∀ y:Int,(vI (A++y::t.drop (k+1)))[0+(k:Int).toNat]?=some (V.g (.i y)):=fun y=>by
    rw [Nat.zero_add,Int.toNat_natCast,vI,List.getElem?_map,List.getElem?_append_right (by omega),hal];simp
   have hs:∀ y z:Int,(vI (A++y::t.drop (k+1))).set (0+(k:Int).toNat) (V.g (.i z))=vI (A++z::t.drop (k+1)):=fun y z=>by
    rw [Nat.zero_add,Int.toNat_natCast,vI,vI,List.map_append,List.map_append,List.set_append_right _ _ (by simp;omega)];simp [hal]
   have hg2:∀ y z:Int,((vI (A++y::t.drop (k+1))).set (0+(k:Int).toNat) (V.g (.i z)))[0+(k:Int).toNat]?=some (V.g (.i z)):=fun y z=>by rw [hs];exact hg z
   (try conv=>whnf);repeat ((first|refine ⟨_,hg _,⟨rfl,rfl,by decide⟩,?_⟩|refine ⟨_,getZ (by omega),?_⟩|refine ⟨by omega,rfl,?_⟩|refine ⟨rfl,?_⟩|refine ⟨⟨by omega,by omega⟩,⟨rfl,rfl⟩,?_⟩);conv=>whnf)
   refine Br.dec (fun h2=>?_) (fun h2=>?_)
   ·try conv=>whnf
    refine Br.dec (fun h3=>?_) (fun h3=>?_)
    ·have hp':t[k].toNat < p.length:=by omega
     have et:thenV p t[k]=p[t[k].toNat]:=by rw [thenV,if_pos (by omega)];simp [List.getD,hp']
     (try conv=>whnf);repeat ((first|refine ⟨_,hg2 _ _,⟨rfl,rfl,by decide⟩,?_⟩|refine ⟨_,getI (by omega) (by omega),?_⟩|refine ⟨by omega,rfl,?_⟩|refine ⟨rfl,?_⟩|refine ⟨⟨by omega,by omega⟩,⟨rfl,rfl⟩,?_⟩|refine ⟨in64 (by omega) (by omega),?_⟩);conv=>whnf)
     exact ⟨⟨k+1,hk',by omega,Refi.sub (by rw [storeI,storeI,hs,hs,fin _ et]) (by simp [subT,subV,tm,tmGo,tints])⟩⟩
    ·have et:thenV p t[k]=-1:=by rw [thenV,if_neg (by omega)]
     (try conv=>whnf);repeat ((first|refine ⟨in64 (by omega) (by omega),?_⟩);conv=>whnf)
     exact ⟨⟨k+1,hk',by omega,Refi.sub (by rw [storeI,hs,fin _ et]) (by simp [subT,subV,tm,tmGo,tints])⟩⟩
   ·have et:thenV p t[k]=-1:=by rw [thenV,if_neg (by omega)]
    (try conv=>whnf);repeat ((first|refine ⟨in64 (by omega) (by omega),?_⟩);conv=>whnf)
    exact ⟨⟨k+1,hk',by omega,Refi.sub (by rw [storeI,hs,fin _ et]) (by simp [subT,subV,tm,tmGo,tints])⟩⟩
  ·have:k=t.length:=by omega
   subst this
   try conv=>whnf
   rw [List.take_length,List.drop_length,List.append_nil]
   refine ⟨Ends.ground (H:=[]) (L:=[_]) (t:=tints (t.map (thenV p))) 1 ?_ ⟨rfl,rfl⟩⟩
   have:=vI_gr (l:=t.map (thenV p)) (n:=0) (d:=0) (b:=0) (g:=g) (h:=[.arr g 1 (vI (t.map (thenV p)))]) rfl (Nat.zero_le _)
   rw [List.length_map] at this
   exact this
end Go.Aw
namespace Go.Aw
open Go.Proofs Go.Sort Go.RowKit Go.Shelf
set_option maxRecDepth 100000
set_option maxHeartbeats 4000000
def ofN (p:List Nat):List Int:=p.map fun (n:Nat)=>(n:Int)
def turnK (p:List Nat) (k:Nat):List Int:=(List.range p.length).map fun x=>if x∈p.take k then ((p.idxOf x:Nat):Int) else -1
def turnP (p:List Nat):List Int:=turnK p p.length
theorem idx_nd {p:List Nat} (hn:p.Nodup) {k:Nat} (hk:k < p.length):p.idxOf p[k]=k:=by
 have h1:p.idxOf p[k] < p.length:=List.idxOf_lt_length_of_mem (List.getElem_mem hk)
 have h2:p[p.idxOf p[k]]=p[k]:=List.getElem_idxOf h1
 exact (List.getElem_inj hn).1 h2
theorem turn_set {p:List Nat} (hn:p.Nodup) {k:Nat} (hk:k < p.length):(turnK p k).set p[k] (k:Int)=turnK p (k+1):=by
 refine List.ext_getElem (by simp [turnK]) fun i h1 h2=>?_
 have hi:i < p.length:=by simpa [turnK] using h2
 rw [List.getElem_set]
 simp only [turnK,List.getElem_map,List.getElem_range,List.take_succ_eq_append_getElem hk,List.mem_append,List.mem_singleton]
 by_cases e:p[k]=i
 ·subst e
  rw [if_pos rfl,if_pos (.inr rfl),idx_nd hn hk]
 ·rw [if_neg e]
  by_cases h3:i∈p.take k
  ·rw [if_pos h3,if_pos (.inl h3)]
  ·rw [if_neg h3,if_neg (by rintro (h|h);exact h3 h;exact e h.symm)]
theorem turn_at {p:List Nat} (hn:p.Nodup) {k:Nat} (hk:k < p.length) (hlt:p[k] < p.length):(turnK p k)[p[k]]?=some (-1):=by
 have:p[k]∉p.take k:=fun h=>by
  obtain ⟨i,hi,e⟩:=List.getElem_of_mem h
  have hi':i < k:=by simp at hi;omega
  rw [List.getElem_take] at e
  have:=(List.getElem_inj hn).1 e
  omega
 simp [turnK,hlt,this]
theorem c_remap_Turn (p:List Nat) (hp:p.Perm (List.range p.length)) (hl:p.length≤1100):CG Tryz.prog 204 [tints (ofN p)] (tints (turnP p)):=by
 refine ⟨k_remap_Turn.calls ?_⟩
 have hn:p.Nodup:=hp.nodup_iff.2 List.nodup_range
 have hm:((ofN p).map T.i).length=p.length:=by simp [ofN]
 have hml:(ofN p).length=p.length:=by simp [ofN]
 (try conv=>whnf);repeat ((first|refine And.intro (show cellsAll _ _ from by repeat (first|exact trivial|refine ⟨⟨rfl,rfl⟩,?_⟩)) ?_|refine Br.dec (fun hh=>absurd hh (by omega)) (fun _=>?_));conv=>whnf)
 rw [hm]
 refine (c_Repeat_ints p.length (-1) hl).mono ?_
 rintro r h ⟨rfl,rfl⟩
 try conv=>whnf
 refine SW.loopR (α:=Nat) (fun k=>tm 41 [(0,.g (tints (ofN p))),(3,.own 0 0 0 p.length),(13,.g (tints (ofN p))),(14,.g (.i p.length)),(15,.g (.i k))])
  (fun k=>[.arr 0 1 (vI (turnK p k))]) (fun k=>k≤p.length) (fun k=>p.length-k) 0 ?_ ?_ ?_
 ·exact Nat.zero_le _
 ·refine Refi.sub ?_ ?_
  ·have:List.replicate p.length (-1:Int)=turnK p 0:=by simp [turnK,List.map_const']
   rw [this]
  ·simp [subT,subV,tm,tmGo,tints,hml]
 ·intro k hk
  dsimp only at hk ⊢
  conv=>whnf
  refine Br.dec (fun h=>?_) (fun h=>?_)
  ·have hk':k < p.length:=by omega
   have hlt:p[k] < p.length:=by
    have:=hp.mem_iff.1 (List.getElem_mem hk');simpa using this
   have hko:k < (ofN p).length:=by omega
   have hq:(ofN p)[k]=((p[k]:Nat):Int):=by simp [ofN]
   have hat:(vI (turnK p k))[0+((ofN p)[k]).toNat]?=some (V.g (.i (-1))):=by
    rw [hq,Int.toNat_natCast,Nat.zero_add,vI,List.getElem?_map,turn_at hn hk' hlt];rfl
   have hset:(vI (turnK p k)).set (0+((ofN p)[k]).toNat) (V.g (.i k))=vI (turnK p (k+1)):=by
    rw [hq,Int.toNat_natCast,Nat.zero_add,← turn_set hn hk',vI,vI,List.map_set]
   have q1:0≤(ofN p)[k]:=by omega
   have q2:(ofN p)[k] < p.length:=by omega
   (try conv=>whnf);repeat ((first|refine ⟨_,hat,?_⟩|refine ⟨_,getZ (by omega),?_⟩|refine ⟨by omega,rfl,?_⟩|refine ⟨⟨rfl,rfl,by decide⟩,?_⟩|refine ⟨rfl,?_⟩|refine ⟨⟨by omega,by omega⟩,⟨rfl,rfl⟩,?_⟩|refine ⟨in64 (by omega) (by omega),?_⟩|refine Br.dec (fun hh=>absurd hh (by omega)) (fun _=>?_));conv=>whnf)
   exact ⟨⟨k+1,hk',by omega,Refi.sub (by rw [storeI,hset]) (by simp [subT,subV,tm,tmGo,tints])⟩⟩
  ·have:k=p.length:=by omega
   subst this
   try conv=>whnf
   refine ⟨Ends.ground (H:=[]) (L:=[_]) (t:=tints (turnP p)) 1 ?_ ⟨rfl,rfl⟩⟩
   have:=vI_gr (l:=turnK p p.length) (n:=0) (d:=0) (b:=0) (g:=0) (h:=[.arr 0 1 (vI (turnK p p.length))]) rfl (Nat.zero_le _)
   rw [show (turnK p p.length).length=p.length from by simp [turnK]] at this
   exact this
theorem nz3 (m n s d:Int):firstNZ [cmpI m n,s,d] < 0↔m < n∨(m=n∧(s < 0∨s=0∧d < 0)):=by
 by_cases h:m < n
 ·have:cmpI m n=-1:=by rw [cmpI,if_pos h]
  rw [this];simp [firstNZ,h]
 ·by_cases h2:n < m
  ·have:cmpI m n=1:=by rw [cmpI,if_neg h,if_pos h2]
   rw [this];simp [firstNZ];omega
  ·have h3:m=n:=by omega
   have:cmpI m n=0:=by rw [cmpI,if_neg h,if_neg h2]
   rw [this,firstNZ,if_pos rfl,firstNZ]
   by_cases h4:s=0
   ·rw [if_pos h4,firstNZ,firstNZ]
    by_cases h5:d=0
    ·rw [if_pos h5];omega
    ·rw [if_neg h5];omega
   ·rw [if_neg h4];omega
def lt3 (ks:List Int) (ds:List ByteArray) (i j:Nat):Prop:=ks.getD i 0 < ks.getD j 0∨(ks.getD i 0=ks.getD j 0∧(cmpS (ds.getD i default) (ds.getD j default) < 0∨cmpS (ds.getD i default) (ds.getD j default)=0∧i < j))
theorem cmp3_lt {ks:List Int} {ds:List ByteArray} {i j:Nat}:cmp3 ks ds i j < 0↔lt3 ks ds i j:=by
 rw [cmp3,nz3,lt3];omega
theorem lt3_trans {ks:List Int} {ds:List ByteArray} {i j k:Nat} (h1:lt3 ks ds i j) (h2:lt3 ks ds j k):lt3 ks ds i k:=by
 unfold lt3 at *
 have ht:=cmpS_trans (a:=ds.getD i default) (b:=ds.getD j default) (c:=ds.getD k default)
 rcases h1 with h1|⟨h1,h3⟩
 ·left;omega
 ·rcases h2 with h2|⟨h2,h4⟩
  ·left;omega
  ·right
   refine ⟨by omega,?_⟩
   have:=ht (by omega) (by omega)
   by_cases h0:cmpS (ds.getD i default) (ds.getD k default)=0
   ·have:=this.2 h0;omega
   ·omega
theorem lt3_tri {ks:List Int} {ds:List ByteArray} {i j:Nat} (h1:¬ lt3 ks ds i j) (h2:¬ lt3 ks ds j i):i=j:=by
 unfold lt3 at *
 have:=cmpS_neg (ds.getD i default) (ds.getD j default)
 omega
theorem lt3_irr {ks:List Int} {ds:List ByteArray} {i:Nat}:¬ lt3 ks ds i i:=by
 unfold lt3;rw [cmpS_self];omega
theorem swo_3 (ks:List Int) (ds:List ByteArray):SWO (ltOf (cmp3 ks ds)) where
 irrefl:=fun x=>by rw [ltOf,decide_eq_false_iff_not,cmp3_lt];exact lt3_irr
 trans:=fun x y z h k=>by
  rw [ltOf,decide_eq_true_eq,cmp3_lt] at *
  exact lt3_trans h k
 ntrans:=fun x y z h k=>by
  rw [ltOf,decide_eq_false_iff_not,cmp3_lt] at *
  intro e
  by_cases h3:lt3 ks ds y x
  ·exact k (lt3_trans h3 e)
  ·have:=lt3_tri h h3;subst this;exact k e
instance (ks:List Int) (ds:List ByteArray) (i j:Nat):Decidable (lt3 ks ds i j):=by unfold lt3;exact inferInstance
def ordN (ks:List Int) (ds:List ByteArray):List Nat:=(List.range ks.length).mergeSort fun i j=>decide (¬ lt3 ks ds j i)
theorem ordN_perm {ks:List Int} {ds:List ByteArray}:(ordN ks ds).Perm (List.range ks.length):=List.mergeSort_perm _ _
theorem ordN_pw {ks:List Int} {ds:List ByteArray}:(ordN ks ds).Pairwise fun i j=>¬ lt3 ks ds j i:=by
 have:=List.pairwise_mergeSort (le:=fun i j=>decide (¬ lt3 ks ds j i)) (fun a b c h1 h2=>by
  simp only [decide_eq_true_eq] at *
  intro e
  by_cases h3:lt3 ks ds a b
  ·exact h2 (lt3_trans e h3)
  ·have:=lt3_tri h1 h3;subst this;exact h2 e) (fun a b=>by
  simp only [Bool.or_eq_true,decide_eq_true_eq]
  by_cases h:lt3 ks ds b a
  ·exact .inr fun e=>lt3_irr (lt3_trans h e)
  ·exact .inl h) (List.range ks.length)
 exact this.imp fun h=>of_decide_eq_true h
theorem ordN_uniq {ks:List Int} {ds:List ByteArray} {p:List Nat} (hp:p.Perm (List.range ks.length)) (hs:p.Pairwise fun i j=>¬ lt3 ks ds j i):p=ordN ks ds :=
 List.Perm.eq_of_pairwise (le:=fun i j=>¬ lt3 ks ds j i) (fun _ _ _ _ h1 h2=>lt3_tri h2 h1) hs ordN_pw (hp.trans ordN_perm.symm)
end Go.Aw
