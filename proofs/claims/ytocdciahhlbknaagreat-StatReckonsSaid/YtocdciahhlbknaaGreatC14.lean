/- Contracts of functions of the given program, by the abstract walk, for law StatReckons: what each one hands back; no condition but those that each theorem states. -/
import Derived.Test.YtocdciahhlbknaaGreatC13
import Derived.Test.YtocdciahhlbknaaGreatW3
namespace Go.Aw
open Go.Proofs Go.Sort
set_option maxRecDepth 100000
set_option maxHeartbeats 4000000
def okL (l:List Cd):Bool:=l.all mayC && decide (l.map (·.id)).Nodup
def wlS (ws:List ByteArray):List ByteArray:=ws.foldl addS []
def ordO (l:List Cd) (b:Bool):List Cd:=if b=true then inC l else l
def noSg:Sg:=⟨[],[],[],[],false⟩
def tmOf (o:List Cd) (x:ByteArray):Tm:=⟨x,pst (o.map (·.w)) x⟩
def segOf (o:List Cd) (b:Bool):Sg:=⟨o.map (·.id),o.map (·.key),o.map fun c=>(c.w.length:Int),(wlS (o.flatMap (·.w))).map (tmOf o),b⟩
def buildS (l:List Cd) (b:Bool):Sg×Int:=if okL l=false then (noSg,1) else if 64 < l.length then (noSg,8) else if 200 < (wlS ((ordO l b).flatMap (·.w))).length then (noSg,8) else (segOf (ordO l b) b,0)
def bndC (l:List Cd):Prop:=l.length < 100000000∧(l.flatMap (·.w)).length < 100000000∧∀ c∈l,c.id.size < bigB∧∀ x∈c.w,x.size < bigB
theorem addS_mem:∀ {l:List ByteArray} {x y:ByteArray},y∈addS l x↔y∈l∨y=x
 | [],_,_=>by simp [addS]
 | z::r,x,y=>by
  have ih:=addS_mem (l:=r) (x:=x) (y:=y)
  unfold addS;split
  ·simp [ih,or_assoc]
  ·split
   ·rename_i h;subst h;simp
    intro h;exact .inl h
   ·simp [or_comm,or_left_comm]
theorem wl_mem {ws:List ByteArray} {y:ByteArray}:y∈wlS ws↔y∈ws:=by
 have:∀ (ws m:List ByteArray),y∈ws.foldl addS m↔y∈m∨y∈ws:=by
  intro ws
  induction ws with
  | nil=>simp
  | cons c l ih=>intro m;simp [ih,addS_mem,or_assoc]
 simp [wlS,this]
theorem insC_perm:∀ {l:List Cd} {c:Cd},(insC l c).Perm (c::l)
 | [],_=>.refl _
 | y::r,c=>by
  unfold insC;split
  ·exact (insC_perm (l:=r) (c:=c)).cons y |>.trans (.swap ..)
  ·exact .refl _
theorem inC_perm {l:List Cd}:(inC l).Perm l:=by
 have:∀ (l m:List Cd),(l.foldl insC m).Perm (m++l):=by
  intro l
  induction l with
  | nil=>simp
  | cons c l ih =>
   intro m
   refine (ih (insC m c)).trans ?_
   refine ((insC_perm (l:=m) (c:=c)).append_right l).trans ?_
   simpa using (List.perm_middle (a:=c) (l₁:=m) (l₂:=l)).symm
 have:=this l []
 unfold inC
 simpa using this
theorem ordO_perm {l:List Cd} {b:Bool}:(ordO l b).Perm l:=by
 unfold ordO;split
 ·exact inC_perm
 ·exact .refl _
theorem bndC.perm {l m:List Cd} (h:bndC l) (p:m.Perm l):bndC m:=by
 obtain ⟨h1,h2,h3⟩:=h
 exact ⟨by rw [p.length_eq];exact h1,by rw [(p.flatMap_right fun c:Cd=>c.w).length_eq];exact h2,fun c hc=>h3 c (p.mem_iff.1 hc)⟩
theorem bndC.w {l:List Cd} (h:bndC l):∀ c∈l,c.w.length < 100000000:=fun c hc=>by
 have:c.w.length≤(l.flatMap (·.w)).length:=by
  obtain ⟨i,hi,rfl⟩:=List.getElem_of_mem hc
  have e:l=l.take i++l[i]::l.drop (i+1):=by rw [← List.drop_eq_getElem_cons hi,List.take_append_drop]
  have:(l.flatMap (·.w)).length=((l.take i).flatMap (·.w)).length+(l[i].w.length+((l.drop (i+1)).flatMap (·.w)).length):=by
   conv=>lhs;rw [e]
   simp only [List.flatMap_append,List.flatMap_cons,List.length_append]
  omega
 have:=h.2.1;omega
theorem flat_pre {o:List Cd} {i j:Nat} (hi:i < o.length):((o.take i).flatMap (·.w)++o[i].w.take j).length≤(o.flatMap (·.w)).length:=by
 have e:o=o.take i++o[i]::o.drop (i+1):=by rw [← List.drop_eq_getElem_cons hi,List.take_append_drop]
 have:(o.flatMap (·.w)).length=((o.take i).flatMap (·.w)).length+(o[i].w.length+((o.drop (i+1)).flatMap (·.w)).length):=by
  conv=>lhs;rw [e]
  simp only [List.flatMap_append,List.flatMap_cons,List.length_append]
 rw [this]
 simp only [List.length_append,List.length_take];omega
theorem okL_no1 {l:List Cd} {i:Nat} (hi:i < l.length) (h:mayC l[i]=false):okL l=false:=by
 have:l.all mayC=false:=List.all_eq_false.2 ⟨l[i],List.getElem_mem _,by simp [h]⟩
 rw [okL,this];rfl
theorem okL_no2 {l:List Cd} {k i:Nat} (hi:i < l.length) (hk:k < i) (h:l[k].id=l[i].id):okL l=false:=by
 have:¬ (l.map (·.id)).Nodup:=fun hn=>by
  have:=List.pairwise_iff_getElem.1 hn k i (by simp;omega) (by simpa using hi) hk
  simp at this;exact this h
 rw [okL,decide_eq_false this,Bool.and_false]
theorem okL_yes {l:List Cd} (h:∀ c∈l,mayC c=true) (k:(l.map (·.id)).Nodup):okL l=true:=by
 rw [okL,List.all_eq_true.2 h,decide_eq_true k];rfl
def zSeg:V:=.ag [.nil 1,.nil 1,.nil 1,.nil 2,.g (.b false)]
def rowS (l:List ByteArray):List V:=l.map fun s=>V.g (T.s s)
end Go.Aw
namespace Go.Aw
open Go.Proofs Go.Sort
set_option maxRecDepth 100000
set_option maxHeartbeats 4000000
theorem bl_ltL:∀ (a b:List UInt8),Op.bytesLess a b=decide (Lib.compareBytes a b < 0)
 | [],[]=>rfl
 | [],_::_=>rfl
 | _::_,[]=>rfl
 | a::x,b::y=>by
  have ih:=bl_ltL x y
  have e:Lib.compareBytes (a::x) (b::y)=if a < b then -1 else if b < a then 1 else Lib.compareBytes x y:=rfl
  simp only [Op.bytesLess,ih]
  by_cases h1:a < b
  ·rw [if_pos h1] at e
   rw [e,decide_eq_true h1];rfl
  ·rw [if_neg h1] at e
   by_cases h2:b < a
   ·rw [if_pos h2] at e
    rw [e,decide_eq_false h1,show (a == b)=false from by rw [beq_eq_false_iff_ne];rintro rfl;rw [u8_lt] at h2;omega];rfl
   ·have:a=b:=by rw [u8_eq];rw [u8_lt] at h1 h2;omega
    rw [if_neg h2] at e
    rw [e,this,beq_self_eq_true];simp
theorem bl_lt (a b:ByteArray):Op.bytesLess a.toList b.toList=ltB' a b:=by
 rw [ByteArray.toList_eq,ByteArray.toList_eq,bl_ltL];rfl
theorem bl_le (a b:ByteArray):(Op.bytesLess a.toList b.toList || a.toList == b.toList)=!ltB' b a:=by
 have h:=cmpL_neg a.data.toList b.data.toList
 rw [ByteArray.toList_eq,ByteArray.toList_eq,bl_ltL,ltB',cmpS,h]
 by_cases e:a.data.toList=b.data.toList
 ·have:=cmpL_zero.2 e
  rw [this,e];simp
 ·have:Lib.compareBytes a.data.toList b.data.toList≠0:=fun q=>e (cmpL_zero.1 q)
  rw [show (a.data.toList == b.data.toList)=false from by rw [beq_eq_false_iff_ne];exact e,Bool.or_false]
  by_cases q:Lib.compareBytes a.data.toList b.data.toList < 0
  ·rw [decide_eq_true q,decide_eq_false (by omega)];rfl
  ·rw [decide_eq_false q,decide_eq_true (by omega)];rfl
def DmP (l:List ByteArray):Prop:=(∀ (k:Nat) (h:k < l.length),fitsS l[k] 32=true∧(0 < k→ltB' (l[k-1]'(by omega)) l[k]=true))∧l.length≤200
instance (l:List ByteArray):Decidable (DmP l):=by unfold DmP;exact inferInstance
def dmS (l:List ByteArray):Bool:=decide (DmP l)
theorem c_dict_May (l:List ByteArray) (hl:l.length < 1000000000):CG Tryz.prog 234 [tstrs l] (.b (dmS l)):=by
 refine ⟨k_dict_May.calls ?_⟩
 have hma:(l.map T.s).length=l.length:=by simp
 have no:¬ DmP l→Ends [] (fun r h=>r=V.g (T.b (dmS l))∧h=[]) (V.g (T.sc (Value.bool false))) []:=fun e=>by
  rw [dmS,decide_eq_false e];exact Ends.ground (H:=[]) (L:=[]) 0 rfl ⟨rfl,rfl⟩
 try conv=>whnf
 refine SW.loopR (α:=Nat) (fun k=>tm 37 [(0,strs l),(5,strs l),(6,.g (.i l.length)),(7,.g (.i k))]) (fun _=>[]) (fun n=>n≤l.length∧∀ (k:Nat) (h:k < l.length),k < n→fitsS l[k] 32=true∧(0 < k→ltB' (l[k-1]'(by omega)) l[k]=true)) (fun k=>l.length-k) 0 ?_ ?_ ?_
 ·simp
 ·exact Refi.sub rfl (by simp [subT,subV,tm,tmGo,strs,tstrs])
 ·rintro n ⟨hn,he⟩
  dsimp only at hn he ⊢
  conv=>whnf
  refine Br.dec (fun h=>?_) (fun h=>?_)
  ·have hn':n < l.length:=by omega
   have next:fitsS l[n] 32=true→(0 < n→ltB' (l[n-1]'(by omega)) l[n]=true)→∀ (k:Nat) (h:k < l.length),k < n+1→fitsS l[k] 32=true∧(0 < k→ltB' (l[k-1]'(by omega)) l[k]=true):=fun e1 e2 k h hk=>by
    by_cases e:k=n
    ·subst e;exact ⟨e1,e2⟩
    ·exact he k h (by omega)
   (try conv=>whnf);repeat ((first|refine ⟨_,getZ (by omega),?_⟩|refine ⟨by omega,rfl,?_⟩);conv=>whnf)
   refine Br.dec (fun h1=>?_) (fun h1=>?_)
   ·try conv=>whnf
    exact ⟨no fun e=>by have:=fits32.1 (e.1 n hn').1;omega⟩
   ·try conv=>whnf
    refine Br.dec (fun h2=>?_) (fun h2=>?_)
    ·try conv=>whnf
     exact ⟨no fun e=>by have:=fits32.1 (e.1 n hn').1;omega⟩
    ·have hf:fitsS l[n] 32=true:=fits32.2 (by omega)
     try conv=>whnf
     refine Br.dec (fun h3=>?_) (fun h3=>?_)
     ·(try conv=>whnf);repeat ((first|refine ⟨_,getI (by omega) (by omega),?_⟩|refine ⟨by omega,rfl,?_⟩|refine ⟨in64 (by omega) (by omega),?_⟩);conv=>whnf)
      rw [bl_le]
      refine Br.not (fun h4=>?_) (fun h4=>?_)
      ·try conv=>whnf
       refine ⟨no fun e=>?_⟩
       have:=(e.1 n hn').2 (by omega)
       simp only [show ((n:Int)-1).toNat=n-1 from by omega] at h4
       rw [this] at h4;cases h4
      ·simp only [show ((n:Int)-1).toNat=n-1 from by omega] at h4
       (try conv=>whnf);repeat ((first|refine ⟨in64 (by omega) (by omega),?_⟩);conv=>whnf)
       exact ⟨⟨n+1,⟨hn',next hf (fun _=>h4)⟩,by omega,Refi.sub rfl (by simp [subT,subV,tm,tmGo,strs])⟩⟩
     ·(try conv=>whnf);repeat ((first|refine ⟨in64 (by omega) (by omega),?_⟩);conv=>whnf)
      exact ⟨⟨n+1,⟨hn',next hf (fun h=>absurd h (by omega))⟩,by omega,Refi.sub rfl (by simp [subT,subV,tm,tmGo,strs])⟩⟩
  ·have:n=l.length:=by omega
   subst this
   try conv=>whnf
   have e:dmS l=decide (((l.map T.s).length:Int)≤200):=by
    rw [dmS,hma]
    by_cases h:l.length≤200
    ·exact (decide_eq_true (⟨fun k hk=>he k hk hk,h⟩:DmP l)).trans (decide_eq_true (by omega)).symm
    ·exact (decide_eq_false (fun q:DmP l=>h q.2)).trans (decide_eq_false (by omega)).symm
   rw [e]
   exact ⟨Ends.ground (H:=[]) (L:=[]) 0 rfl ⟨rfl,rfl⟩⟩
end Go.Aw
namespace Go.Aw
open Go.Proofs Go.Sort
set_option maxRecDepth 100000
set_option maxHeartbeats 4000000
theorem mfind_no {kk:Bool×List Nat} {k:Value}:∀ {kvs:List (Value×Value)} {n:Nat},(∀ p∈kvs,sameK kk k p.1=some false)→mfind kk kvs k n=some none
 | [],_,_=>rfl
 | p::r,n,h=>by
  have h1:=h p (by simp)
  have ih:=mfind_no (kvs:=r) (n:=n+1) fun q hq=>h q (by simp [hq])
  obtain ⟨a,v⟩:=p
  simp only at h1
  rw [mfind,h1];exact ih
theorem mfind_at {kk:Bool×List Nat} {k:Value}:∀ {kvs:List (Value×Value)} {n i:Nat} (_:i < kvs.length),(∀ j (_:j < i),sameK kk k (kvs[j]'(by omega)).1=some false)→sameK kk k kvs[i].1=some true→mfind kk kvs k n=some (some (n+i,kvs[i].2))
 | p::r,n,0,_,_,e=>by
  obtain ⟨a,v⟩:=p
  simp only [List.getElem_cons_zero] at e ⊢
  rw [mfind,e];rfl
 | p::r,n,i+1,hi,h,e=>by
  have h1:=h 0 (by omega)
  have ih:=mfind_at (kvs:=r) (n:=n+1) (i:=i) (by simpa using hi) (fun j hj=>by have:=h (j+1) (by omega);simpa using this) (by simpa using e)
  obtain ⟨a,v⟩:=p
  simp only [List.getElem_cons_zero] at h1
  rw [mfind,h1]
  simp only [List.getElem_cons_succ]
  rw [show n+(i+1)=n+1+i from by omega]
  exact ih
def keyQ (q:Int×Int):Value:=.agg #[.int .i64 q.1,.int .i64 q.2]
theorem sameQ (p q:Int×Int):sameK (true,[6,6]) (keyQ p) (keyQ q)=some (decide (p=q)):=by
 obtain ⟨a,b⟩:=p;obtain ⟨c,d⟩:=q
 show some ((a == c) && ((b == d) && true))=_
 congr 1
 rw [Bool.and_true,Bool.eq_iff_iff]
 simp
theorem sameT (x y:ByteArray):sameK (false,[2]) (.string x) (.string y)=some (decide (x=y)):=by
 show some (x == y)=_
 rw [ba_beq]
def prT (x:Tm):List (Int×Int):=x.p.flatMap fun p=>p.2.map fun a=>(p.1,a)
def prs (l:List Tm):List (Int×Int):=l.flatMap prT
def PlP (s:Sg):Prop:=(∀ x∈s.terms,x.p≠[]∧mayP x.p=true)∧(prs s.terms).Nodup∧(∀ q∈prs s.terms,q.1 < s.lens.length∧q.2 < s.lens.getD q.1.toNat 0)∧dmS (s.terms.map (·.t))=true∧s.lens.sum=(prs s.terms).length
instance (s:Sg):Decidable (PlP s):=by unfold PlP;exact inferInstance
def kvQ (l:List (Int×Int)):List (Value×Value):=l.map fun q=>(keyQ q,.int .i64 1)
theorem kvQ_no {l:List (Int×Int)} {q:Int×Int} (h:q∉l) {n:Nat}:mfind (true,[6,6]) (kvQ l) (keyQ q) n=some none:=mfind_no fun p hp=>by
 obtain ⟨x,hx,rfl⟩:=List.mem_map.1 hp
 rw [sameQ,decide_eq_false (fun e=>h (by rw [e];exact hx))]
theorem kvQ_at {l:List (Int×Int)} {q:Int×Int} (hn:l.Nodup) {i:Nat} (hi:i < l.length) (e:l[i]=q) {n:Nat}:mfind (true,[6,6]) (kvQ l) (keyQ q) n=some (some (n+i,.int .i64 1)):=by
 have:=mfind_at (kk:=(true,[6,6])) (k:=keyQ q) (kvs:=kvQ l) (n:=n) (i:=i) (by simpa [kvQ] using hi) (fun j hj=>by
  have:=List.pairwise_iff_getElem.1 hn j i (by omega) hi hj
  simp only [kvQ,List.getElem_map,sameQ]
  rw [decide_eq_false (fun h=>this (by rw [← h,e]))]) (by simp [kvQ,sameQ,e])
 simpa [kvQ] using this
theorem kvQ_put {l:List (Int×Int)} {q:Int×Int}:kvQ (l++[q])=kvQ l++[(keyQ q,.int .i64 1)]:=by simp [kvQ]
theorem kvQ_len {l:List (Int×Int)}:(kvQ l).length=l.length:=by simp [kvQ]
theorem mset_last {kvs:List (Value×Value)} {k v u:Value} {i:Nat} (hi:i=kvs.length):mset (kvs++[(k,u)]) i v=kvs++[(k,v)]:=by
 subst hi;simp [mset]
theorem mfind_set {kk:Bool×List Nat} {kvs:List (Value×Value)} {k k' v:Value} {n i:Nat} (hi:i < kvs.length) (h:∀ j (_:j < i),sameK kk k (kvs[j]'(by omega)).1=some false) (e:sameK kk k k'=some true) :
  mfind kk (kvs.set i (k',v)) k n=some (some (n+i,v)):=by
 have:=mfind_at (kk:=kk) (k:=k) (kvs:=kvs.set i (k',v)) (n:=n) (i:=i) (by simpa using hi) (fun j hj=>by rw [List.getElem_set_ne (by omega)];exact h j hj) (by simp [e])
 simpa using this
def OkQ (lens:List Int) (l:List (Int×Int)):Prop:=l.Nodup∧∀ q∈l,q.1 < lens.length∧q.2 < lens.getD q.1.toNat 0
theorem OkQ.put {lens:List Int} {l:List (Int×Int)} {q:Int×Int} (h:OkQ lens l) (h1:q∉l) (h2:q.1 < lens.length) (h3:q.2 < lens.getD q.1.toNat 0):OkQ lens (l++[q]):=by
 refine ⟨?_,fun x hx=>?_⟩
 ·unfold List.Nodup
  rw [List.pairwise_append]
  exact ⟨h.1,by simp,fun a ha b hb=>by simp at hb;subst hb;exact fun e=>h1 (by rw [← e];exact ha)⟩
 ·rcases List.mem_append.1 hx with hx|hx
  ·exact h.2 x hx
  ·simp at hx;subst hx;exact ⟨h2,h3⟩
theorem OkQ.pre {lens:List Int} {l m:List (Int×Int)} (h:OkQ lens (l++m)):OkQ lens l:=by
 obtain ⟨h1,h2⟩:=h
 unfold List.Nodup at h1
 rw [List.pairwise_append] at h1
 exact ⟨h1.1,fun q hq=>h2 q (List.mem_append_left _ hq)⟩
theorem PlP.okq {s:Sg} (h:PlP s):OkQ s.lens (prs s.terms):=⟨h.2.1,h.2.2.1⟩
theorem prs_at {l:List Tm} {k:Nat} (hk:k < l.length):prs l=prs (l.take k)++(prT l[k]++prs (l.drop (k+1))):=by
 have e:l=l.take k++l[k]::l.drop (k+1):=by rw [← List.drop_eq_getElem_cons hk,List.take_append_drop]
 conv=>lhs;rw [e]
 simp only [prs,List.flatMap_append,List.flatMap_cons]
theorem prs_succ {l:List Tm} {k:Nat} (hk:k < l.length):prs (l.take (k+1))=prs (l.take k)++prT l[k]:=by
 rw [List.take_succ_eq_append_getElem hk,prs,List.flatMap_append];simp [prs]
def prP (l:List Po):List (Int×Int):=l.flatMap fun p=>p.2.map fun a=>(p.1,a)
theorem prP_at {l:List Po} {k:Nat} (hk:k < l.length):prP l=prP (l.take k)++(l[k].2.map (fun a=>(l[k].1,a))++prP (l.drop (k+1))):=by
 have e:l=l.take k++l[k]::l.drop (k+1):=by rw [← List.drop_eq_getElem_cons hk,List.take_append_drop]
 conv=>lhs;rw [e]
 simp only [prP,List.flatMap_append,List.flatMap_cons]
theorem prP_succ {l:List Po} {k:Nat} (hk:k < l.length):prP (l.take (k+1))=prP (l.take k)++l[k].2.map (fun a=>(l[k].1,a)):=by
 rw [List.take_succ_eq_append_getElem hk,prP,List.flatMap_append];simp [prP]
theorem prs_pre {l:List Tm} {k j m:Nat} (hk:k < l.length) (hj:j < l[k].p.length) (hm:m < l[k].p[j].2.length) :
  ∃ r,prs l=(prs (l.take k)++(prP (l[k].p.take j)++(l[k].p[j].2.take m).map (fun a=>(l[k].p[j].1,a))))++[(l[k].p[j].1,l[k].p[j].2[m])]++r:=by
 have e:l[k].p[j].2=l[k].p[j].2.take m++l[k].p[j].2[m]::l[k].p[j].2.drop (m+1):=by rw [← List.drop_eq_getElem_cons hm,List.take_append_drop]
 have e2:prT l[k]=prP (l[k].p.take j)++(l[k].p[j].2.map (fun a=>(l[k].p[j].1,a))++prP (l[k].p.drop (j+1))):=prP_at hj
 have e3:l[k].p[j].2.map (fun a=>(l[k].p[j].1,a))=(l[k].p[j].2.take m).map (fun a=>(l[k].p[j].1,a))++(l[k].p[j].1,l[k].p[j].2[m])::(l[k].p[j].2.drop (m+1)).map (fun a=>(l[k].p[j].1,a)):=by
  conv=>lhs;rw [e]
  simp only [List.map_append,List.map_cons]
 refine ⟨(l[k].p[j].2.drop (m+1)).map (fun a=>(l[k].p[j].1,a))++(prP (l[k].p.drop (j+1))++prs (l.drop (k+1))),?_⟩
 rw [prs_at hk,e2,e3]
 simp only [List.append_assoc,List.cons_append,List.nil_append]
theorem sum_bnd:∀ {l:List Int},(∀ v∈l,0≤v∧v≤120)→0≤l.sum∧l.sum≤120*l.length
 | [],_=>by simp
 | v::l,h=>by
  have h1:=h v (by simp)
  have h2:=sum_bnd (l:=l) fun u hu=>h u (by simp [hu])
  simp only [List.sum_cons,List.length_cons]
  omega
theorem getL_lt {l:List Int} {i:Nat} (h:i < l.length):l.getD i 0=l[i]:=by simp [List.getD,h]
def hpQ (s:Sg) (k:Nat) (ps:List (Int×Int)):List Blk:=[.arr 0 5 [.g (tseg s)],.mp (kvQ ps),.arr k 1 (rowS ((s.terms.take k).map (·.t)))]
theorem c_seg_placed (s:Sg) (hb:bndT s.terms) (hl:s.lens.length≤64) (hv:∀ v∈s.lens,0≤v∧v≤120):CG Tryz.prog 188 [tseg s] (.b (decide (PlP s))):=by
 refine ⟨k_seg_placed.calls ?_⟩
 obtain ⟨hb1,hb2⟩:=hb
 have hma:(s.terms.map tterm).length=s.terms.length:=by simp
 have hml:(s.lens.map T.i).length=s.lens.length:=by simp
 have no:¬ PlP s→∀ L,Ends [] (fun r h=>r=V.g (T.b (decide (PlP s)))∧h=[]) (V.g (T.sc (Value.bool false))) L:=fun e L=>by
  rw [decide_eq_false e];exact Ends.ground (H:=[]) (L:=L) 0 rfl ⟨rfl,rfl⟩
 (try conv=>whnf);repeat ((first|refine ⟨rfl,_,rfl,?_⟩|refine ⟨⟨rfl,rfl⟩,?_⟩);conv=>whnf)
 refine SW.loopR (α:=Nat) (fun k=>tm 107 [(1,.pa 0 0 0 0),(3,.mp 1),(4,.own 2 k 0 k),(16,terms s.terms),(17,.g (.i s.terms.length)),(18,.g (.i k))])
  (fun k=>hpQ s k (prs (s.terms.take k))) (fun k=>k≤s.terms.length∧(∀ x∈s.terms.take k,x.p≠[]∧mayP x.p=true)∧OkQ s.lens (prs (s.terms.take k))) (fun k=>s.terms.length-k) 0 ?_ ?_ ?_
 ·exact ⟨Nat.zero_le _,by simp,by simp [OkQ,prs]⟩
 ·refine (Refi.valloc 4 1 rfl).trans (Refi.sub rfl ?_)
  simp [subT,subV,tm,tmGo,terms,setT]
 ·rintro k ⟨hk,hx,hq⟩
  dsimp only at hk hx hq ⊢
  unfold hpQ
  conv=>whnf
  refine Br.dec (fun h=>?_) (fun h=>?_)
  ·have hk':k < s.terms.length:=by omega
   obtain ⟨hp1,hp2⟩:=hb2 _ (List.getElem_mem hk')
   have hn1:(rowS ((s.terms.take k).map (·.t))).length=k:=by simp [rowS];omega
   have hmp:(s.terms[k].p.map tpost).length=s.terms[k].p.length:=by simp
   (try conv=>whnf);repeat ((first|refine And.intro (show cellsAll _ _ from by repeat (first|exact trivial|refine ⟨⟨rfl,rfl⟩,?_⟩)) ?_|refine ⟨_,getZ (by omega),?_⟩|refine ⟨by omega,rfl,?_⟩|refine ⟨rfl,_,rfl,⟨rfl,rfl,by decide⟩,?_⟩|refine ⟨rfl,_,rfl,?_⟩|refine ⟨rfl,?_⟩);conv=>whnf)
   refine ⟨by simp;omega,⟨rfl,rfl,rfl⟩,_,⟨[],(List.append_nil _).symm⟩,hn1.symm,?_⟩
   (try conv=>whnf);repeat ((first|refine ⟨rfl,_,rfl,?_⟩);conv=>whnf)
   refine Br.dec (fun h1=>?_) (fun h1=>?_)
   ·have:s.terms[k].p=[]:=List.length_eq_zero_iff.1 (by omega)
    try conv=>whnf
    exact ⟨no (fun e=>(e.1 _ (List.getElem_mem hk')).1 this) _⟩
   ·(try conv=>whnf);repeat ((first|refine (c_post_May s.terms[k].p hp1 hp2).go rfl ?_|refine ⟨rfl,_,rfl,?_⟩);conv=>whnf)
    refine Br.not (fun h2=>?_) (fun h2=>?_)
    ·try conv=>whnf
     refine ⟨no (fun e=>?_) _⟩
     have:=(e.1 _ (List.getElem_mem hk')).2
     rw [this] at h2;cases h2
    ·(try conv=>whnf);repeat ((first|refine ⟨rfl,_,rfl,?_⟩);conv=>whnf)
     obtain ⟨x,hxx⟩:∃ x,s.terms[k]=x:=⟨_,rfl⟩
     refine SW.loopR (α:=Nat) (fun j=>tm 107 [(1,.pa 0 0 0 0),(3,.mp 1),(4,.own 2 (k+1) 0 (k+1)),(16,terms s.terms),(17,.g (.i s.terms.length)),(18,.g (.i k)),(38,posts s.terms[k].p),(39,.g (.i s.terms[k].p.length)),(40,.g (.i j))])
      (fun j=>hpQ s (k+1) (prs (s.terms.take k)++prP (s.terms[k].p.take j))++[.arr 0 2 [.g (tterm s.terms[k])]]) (fun j=>j≤s.terms[k].p.length∧OkQ s.lens (prs (s.terms.take k)++prP (s.terms[k].p.take j))) (fun j=>s.terms[k].p.length-j) 0 ?_ ?_ ?_
     ·exact ⟨Nat.zero_le _,by simpa [prP] using hq⟩
     ·refine Refi.sub ?_ ?_
      ·rw [show prs (s.terms.take k)++prP (s.terms[k].p.take 0)=prs (s.terms.take k) from by simp [prP]]
       rw [hpQ,show rowS ((s.terms.take (k+1)).map (·.t))=rowS ((s.terms.take k).map (·.t))++[V.g (T.s s.terms[k].t)] from by rw [List.take_succ_eq_append_getElem hk',rowS,rowS,List.map_append,List.map_append];rfl]
       rfl
      ·simp [subT,subV,tm,tmGo,terms,posts]
     ·rintro j ⟨hj,hqj⟩
      dsimp only at hj hqj ⊢
      unfold hpQ
      conv=>whnf
      refine Br.dec (fun h=>?_) (fun h=>?_)
      ·have hj':j < s.terms[k].p.length:=by omega
       have hpj:=hp2 _ (List.getElem_mem hj')
       have hmj:(s.terms[k].p[j].2.map T.i).length=s.terms[k].p[j].2.length:=by simp
       have hpo:=mayP_doc h2 _ (List.getElem_mem hj')
       have hpr:=(mayP_ok h2 _ (List.getElem_mem hj')).2.2
       (try conv=>whnf);repeat ((first|refine ⟨_,getZ (by omega),?_⟩|refine ⟨by omega,rfl,?_⟩|refine ⟨rfl,_,rfl,⟨rfl,rfl,by decide⟩,?_⟩|refine ⟨rfl,_,rfl,?_⟩|refine ⟨rfl,?_⟩);conv=>whnf)
       refine SW.loopR (α:=Nat) (fun m=>tm 107 [(1,.pa 0 0 0 0),(3,.mp 1),(4,.own 2 (k+1) 0 (k+1)),(8,.pa 4 0 0 0),(16,terms s.terms),(17,.g (.i s.terms.length)),(18,.g (.i k)),(38,posts s.terms[k].p),(39,.g (.i s.terms[k].p.length)),(40,.g (.i j)),(45,ints s.terms[k].p[j].2),(46,.g (.i s.terms[k].p[j].2.length)),(47,.g (.i m))])
        (fun m=>hpQ s (k+1) (prs (s.terms.take k)++(prP (s.terms[k].p.take j)++(s.terms[k].p[j].2.take m).map (fun a=>(s.terms[k].p[j].1,a))))++[.arr 0 2 [.g (tterm s.terms[k])],.arr 0 2 [.g (tpost s.terms[k].p[j])]])
        (fun m=>m≤s.terms[k].p[j].2.length∧OkQ s.lens (prs (s.terms.take k)++(prP (s.terms[k].p.take j)++(s.terms[k].p[j].2.take m).map (fun a=>(s.terms[k].p[j].1,a))))) (fun m=>s.terms[k].p[j].2.length-m) 0 ?_ ?_ ?_
       ·exact ⟨Nat.zero_le _,by simpa using hqj⟩
       ·refine Refi.sub ?_ ?_
        ·rw [show prP (s.terms[k].p.take j)++(s.terms[k].p[j].2.take 0).map (fun a=>(s.terms[k].p[j].1,a))=prP (s.terms[k].p.take j) from by simp]
         rfl
        ·simp [subT,subV,tm,tmGo,terms,posts,ints]
       ·rintro m ⟨hm,hqm⟩
        dsimp only at hm hqm ⊢
        unfold hpQ
        conv=>whnf
        refine Br.dec (fun h=>?_) (fun h=>?_)
        ·have hm':m < s.terms[k].p[j].2.length:=by omega
         obtain ⟨rr,hpre⟩:=prs_pre hk' hj' hm'
         have bad:¬ OkQ s.lens ((prs (s.terms.take k)++(prP (s.terms[k].p.take j)++(s.terms[k].p[j].2.take m).map (fun a=>(s.terms[k].p[j].1,a))))++[(s.terms[k].p[j].1,s.terms[k].p[j].2[m])])→¬ PlP s:=fun e h=>e (by have:=h.okq;rw [hpre] at this;exact this.pre)
         have hpl:=(risE_ge hpr).2 _ (List.getElem_mem hm')
         obtain ⟨ps,hps⟩:∃ ps,prs (s.terms.take k)++(prP (s.terms[k].p.take j)++(s.terms[k].p[j].2.take m).map (fun a=>(s.terms[k].p[j].1,a)))=ps:=⟨_,rfl⟩
         rw [hps] at hqm bad ⊢
         have hkl:(kvQ ps).length=ps.length:=kvQ_len
         by_cases hin:(s.terms[k].p[j].1,s.terms[k].p[j].2[m])∈ps
         ·have nq:=no (bad fun e=>by
           have:=e.1
           unfold List.Nodup at this
           rw [List.pairwise_append] at this
           exact this.2.2 _ hin _ (by simp) rfl)
          obtain ⟨i,hi,ei⟩:=List.getElem_of_mem hin
          have f1:=kvQ_at hqm.1 hi ei (n:=0)
          have f2:mfind (true,[6,6]) (mset ((kvQ ps).set (0+i) (keyQ (s.terms[k].p[j].1,s.terms[k].p[j].2[m]),.int .i64 1)) ((0+i:Nat):Int).toNat (.int .i64 (1+1))) (keyQ (s.terms[k].p[j].1,s.terms[k].p[j].2[m])) 0=some (some (0+i,.int .i64 2)):=by
           have e0:mset ((kvQ ps).set (0+i) (keyQ (s.terms[k].p[j].1,s.terms[k].p[j].2[m]),.int .i64 1)) ((0+i:Nat):Int).toNat (.int .i64 (1+1))=(kvQ ps).set i (keyQ (s.terms[k].p[j].1,s.terms[k].p[j].2[m]),.int .i64 2):=by
            rw [Int.toNat_natCast,Nat.zero_add,mset,List.getElem?_set_self (by omega)]
            simp
           rw [e0]
           refine mfind_set (by omega) (fun j' hj'=>?_) (by rw [sameQ,decide_eq_true rfl])
           have:=List.pairwise_iff_getElem.1 hqm.1 j' i (by omega) hi hj'
           simp only [kvQ,List.getElem_map,sameQ]
           rw [decide_eq_false (fun h=>this (by rw [← h,ei]))]
          (try conv=>whnf);repeat ((first|refine ⟨rfl,_,f1,?_⟩|refine ⟨by simp;omega,?_⟩|refine ⟨_,getZ (by omega),?_⟩|refine ⟨rfl,_,rfl,?_⟩|refine ⟨rfl,?_⟩|refine ⟨in64 (by omega) (by omega),?_⟩);conv=>whnf)
          refine Br.dec (fun h3=>?_) (fun h3=>?_)
          ·try conv=>whnf
           exact ⟨nq _⟩
          ·(try conv=>whnf);repeat ((first|refine ⟨_,getI (by omega) (by omega),?_⟩|refine ⟨by omega,rfl,?_⟩|refine ⟨rfl,_,rfl,?_⟩);conv=>whnf)
           refine Br.dec (fun h4=>?_) (fun h4=>?_)
           ·try conv=>whnf
            exact ⟨nq _⟩
           ·(try conv=>whnf);repeat ((first|refine ⟨rfl,_,f2,?_⟩|refine ⟨rfl,_,rfl,?_⟩);conv=>whnf)
            exact ⟨nq _⟩
         ·have f1:=kvQ_no hin (n:=0)
          have hset:mset (kvQ ps++[(keyQ (s.terms[k].p[j].1,s.terms[k].p[j].2[m]),.int .i64 0)]) ((kvQ ps).length:Int).toNat (.int .i64 (0+1))=kvQ (ps++[(s.terms[k].p[j].1,s.terms[k].p[j].2[m])]):=by
           rw [mset_last (Int.toNat_natCast _),kvQ_put];rfl
          (try conv=>whnf);repeat ((first|refine ⟨rfl,_,f1,?_⟩|refine ⟨_,getZ (by omega),?_⟩|refine ⟨by omega,rfl,?_⟩|refine ⟨by (simp;omega),rfl,?_⟩|refine ⟨rfl,_,rfl,?_⟩|refine ⟨in64 (by omega) (by omega),?_⟩|refine ⟨_,rfl,?_⟩);conv=>whnf)
          refine Br.dec (fun h3=>?_) (fun h3=>?_)
          ·try conv=>whnf
           exact ⟨no (bad fun e=>by have:=(e.2 (s.terms[k].p[j].1,s.terms[k].p[j].2[m]) (by simp)).1;dsimp only at this;omega) _⟩
          ·have hd:s.terms[k].p[j].1.toNat < s.lens.length:=by omega
           (try conv=>whnf);repeat ((first|refine ⟨_,getI (by omega) (by omega),?_⟩|refine ⟨by omega,rfl,?_⟩|refine ⟨rfl,_,rfl,?_⟩);conv=>whnf)
           refine Br.dec (fun h4=>?_) (fun h4=>?_)
           ·try conv=>whnf
            refine ⟨no (bad fun e=>?_) _⟩
            have:=(e.2 (s.terms[k].p[j].1,s.terms[k].p[j].2[m]) (by simp)).2
            dsimp only at this
            rw [getL_lt hd] at this
            omega
           ·have hput:=hqm.put hin (by dsimp only;omega) (by dsimp only;rw [getL_lt hd];omega)
            have f2:mfind (true,[6,6]) (mset (kvQ ps++[(keyQ (s.terms[k].p[j].1,s.terms[k].p[j].2[m]),.int .i64 0)]) ((kvQ ps).length:Int).toNat (.int .i64 (0+1))) (keyQ (s.terms[k].p[j].1,s.terms[k].p[j].2[m])) 0=some (some (0+ps.length,.int .i64 1)):=by
             rw [hset]
             exact kvQ_at hput.1 (i:=ps.length) (by simp) (by simp)
            (try conv=>whnf);repeat ((first|refine ⟨rfl,_,f2,?_⟩|refine ⟨rfl,_,rfl,?_⟩|refine ⟨in64 (by omega) (by omega),?_⟩);conv=>whnf)
            have e6:prs (s.terms.take k)++(prP (s.terms[k].p.take j)++(s.terms[k].p[j].2.take (m+1)).map (fun a=>(s.terms[k].p[j].1,a)))=ps++[(s.terms[k].p[j].1,s.terms[k].p[j].2[m])]:=by
             rw [← hps,List.take_succ_eq_append_getElem hm',List.map_append]
             simp only [List.append_assoc,List.map_cons,List.map_nil]
            refine ⟨⟨m+1,⟨hm',by rw [e6];exact hput⟩,by omega,Refi.sub ?_ ?_⟩⟩
            ·show _=hpQ s (k+1) (prs (s.terms.take k)++(prP (s.terms[k].p.take j)++(s.terms[k].p[j].2.take (m+1)).map (fun a=>(s.terms[k].p[j].1,a))))++_
             rw [e6,hpQ,← hset]
             rfl
            ·simp [subT,subV,tm,tmGo,terms,posts,ints]
        ·have:m=s.terms[k].p[j].2.length:=by omega
         subst this
         rw [List.take_length] at hqm ⊢
         (try conv=>whnf);repeat ((first|refine ⟨in64 (by omega) (by omega),?_⟩);conv=>whnf)
         rw [← prP_succ hj'] at hqm ⊢
         refine ⟨⟨j+1,⟨hj',hqm⟩,by omega,Refi.back (L:=[_]) rfl (Nat.zero_le _) ?_ ?_⟩⟩
         ·intro y hy
          simp at hy
          rcases hy with rfl|rfl|rfl|rfl
          ·exact Blk.lt_g1
          ·trivial
          ·exact Blk.lt_g
          ·exact Blk.lt_g1
         ·simp [subT,subV,tm,tmGo,terms,posts,cutV,ltB,ltS]
      ·have:j=s.terms[k].p.length:=by omega
       subst this
       rw [List.take_length] at hqj ⊢
       (try conv=>whnf);repeat ((first|refine ⟨in64 (by omega) (by omega),?_⟩);conv=>whnf)
       rw [show prs (s.terms.take k)++prP s.terms[k].p=prs (s.terms.take (k+1)) from (prs_succ hk').symm] at hqj ⊢
       refine ⟨⟨k+1,⟨hk',fun c hc=>?_,hqj⟩,by omega,Refi.back (L:=[_]) rfl (Nat.zero_le _) ?_ ?_⟩⟩
       ·rw [List.take_succ_eq_append_getElem hk',List.mem_append,List.mem_singleton] at hc
        rcases hc with hc|rfl
        ·exact hx c hc
        ·exact ⟨fun e=>h1 (by rw [e];rfl),h2⟩
       ·intro y hy
        simp at hy
        rcases hy with rfl|rfl|rfl
        ·exact Blk.lt_g1
        ·trivial
        ·exact Blk.lt_g
       ·simp [subT,subV,tm,tmGo,terms,posts,cutV,ltB,ltS]
  ·have:k=s.terms.length:=by omega
   subst this
   rw [List.take_length] at hx hq ⊢
   (try conv=>whnf);repeat ((first|refine ⟨rfl,_,rfl,?_⟩);conv=>whnf)
   refine SW.loopR (α:=Nat) (fun i=>tm 107 [(1,.pa 0 0 0 0),(3,.mp 1),(4,.own 2 s.terms.length 0 s.terms.length),(11,.g (.i (s.lens.take i).sum)),(89,ints s.lens),(90,.g (.i s.lens.length)),(91,.g (.i i))])
    (fun i=>[.arr 0 5 [.g (tseg s)],.mp (kvQ (prs s.terms)),.arr s.terms.length 1 (rowS (s.terms.map (·.t)))]) (fun i=>i≤s.lens.length) (fun i=>s.lens.length-i) 0 ?_ ?_ ?_
   ·exact Nat.zero_le _
   ·exact Refi.sub rfl (by simp [subT,subV,tm,tmGo,ints])
   ·intro i hi
    dsimp only at hi ⊢
    conv=>whnf
    refine Br.dec (fun h=>?_) (fun h=>?_)
    ·have hi':i < s.lens.length:=by omega
     have hvi:=hv _ (List.getElem_mem hi')
     have hsm:=sum_bnd (l:=s.lens.take i) (fun v hv'=>hv v (List.mem_of_mem_take hv'))
     rw [List.length_take] at hsm
     (try conv=>whnf);repeat ((first|refine ⟨_,getZ (by omega),?_⟩|refine ⟨by omega,rfl,?_⟩|refine ⟨in64 (by omega) (by omega),?_⟩);conv=>whnf)
     refine ⟨⟨i+1,hi',by omega,Refi.sub rfl ?_⟩⟩
     rw [List.take_succ_eq_append_getElem hi',List.sum_append]
     simp [subT,subV,tm,tmGo,ints]
    ·have:i=s.lens.length:=by omega
     subst this
     rw [List.take_length]
     try conv=>whnf
     refine CG.lend1 (c_dict_May (s.terms.map (·.t)) (by simp;omega)) trivial 1 (gr_strs rfl (Nat.zero_le _) (by simp)) ?_
     have fin:∀ b:Bool,b=decide (PlP s)→∀ L,Ends [] (fun r h=>r=V.g (T.b (decide (PlP s)))∧h=[]) (V.g (T.sc (Value.bool b))) L:=fun b e L=>by
      rw [← e];exact Ends.ground (H:=[]) (L:=L) 0 rfl ⟨rfl,rfl⟩
     try conv=>whnf
     refine Br.intro (fun h5=>?_) (fun h5=>?_)
     ·try conv=>whnf
      refine ⟨fin _ ?_ _⟩
      rw [kvQ_len,Bool.eq_iff_iff,beq_iff_eq,decide_eq_true_iff]
      exact ⟨fun e=>⟨hx,hq.1,hq.2,h5,e⟩,fun e=>e.2.2.2.2⟩
     ·try conv=>whnf
      refine ⟨fin _ ?_ _⟩
      refine (decide_eq_false fun e=>?_).symm
      rw [e.2.2.2.1] at h5;cases h5
end Go.Aw
namespace Go.Aw
open Go.Proofs Go.Sort
set_option maxRecDepth 100000
set_option maxHeartbeats 4000000
def okD (s:Sg) (k:Nat):Prop :=
 fitsS (s.ids.getD k default) 16=true∧(0≤s.keys.getD k 0∧s.keys.getD k 0≤1073741824)∧(0≤s.lens.getD k 0∧s.lens.getD k 0≤120) ∧
 (s.sorted=true→0 < k→befC ⟨s.ids.getD (k-1) default,s.keys.getD (k-1) 0,[]⟩ ⟨s.ids.getD k default,s.keys.getD k 0,[]⟩=true)
instance (s:Sg) (k:Nat):Decidable (okD s k):=by unfold okD;exact inferInstance
def SgP (s:Sg):Prop:=s.ids.length≤64∧s.keys.length=s.ids.length∧s.lens.length=s.ids.length∧s.ids.Nodup∧(∀ k,k < s.ids.length→okD s k)∧PlP s
instance (s:Sg):Decidable (SgP s):=by unfold SgP;exact inferInstance
def kvT (l:List ByteArray):List (Value×Value):=l.map fun x=>(.string x,.int .i64 1)
theorem kvT_no {l:List ByteArray} {q:ByteArray} (h:q∉l) {n:Nat}:mfind (false,[2]) (kvT l) (.string q) n=some none:=mfind_no fun p hp=>by
 obtain ⟨x,hx,rfl⟩:=List.mem_map.1 hp
 rw [sameT,decide_eq_false (fun e=>h (by rw [e];exact hx))]
theorem kvT_at {l:List ByteArray} {q:ByteArray} (hn:l.Nodup) {i:Nat} (hi:i < l.length) (e:l[i]=q) {n:Nat}:mfind (false,[2]) (kvT l) (.string q) n=some (some (n+i,.int .i64 1)):=by
 have:=mfind_at (kk:=(false,[2])) (k:=.string q) (kvs:=kvT l) (n:=n) (i:=i) (by simpa [kvT] using hi) (fun j hj=>by
  have:=List.pairwise_iff_getElem.1 hn j i (by omega) hi hj
  simp only [kvT,List.getElem_map,sameT]
  rw [decide_eq_false (fun h=>this (by rw [← h,e]))]) (by simp [kvT,sameT,e])
 simpa [kvT] using this
theorem kvT_put {l:List ByteArray} {q:ByteArray}:kvT (l++[q])=kvT l++[(.string q,.int .i64 1)]:=by simp [kvT]
theorem kvT_len {l:List ByteArray}:(kvT l).length=l.length:=by simp [kvT]
theorem mayC0 {x:ByteArray} {k:Int}:mayC ⟨x,k,[]⟩=(fitsS x 16 && (decide (0≤k) && decide (k≤1073741824))):=by simp [mayC]
def pid (s:Sg) (k:Nat):ByteArray:=if k=0 then ⟨#[]⟩ else s.ids.getD (k-1) default
def pkey (s:Sg) (k:Nat):Int:=if k=0 then 0 else s.keys.getD (k-1) 0
def cdV (x:ByteArray) (k:Int):V:=.ag [.g (.s x),.g (.i k),.nil 1]
theorem getI_lt {l:List ByteArray} {i:Nat} (h:i < l.length):l.getD i default=l[i]:=by simp [List.getD,h]
theorem c_seg_May (s:Sg) (hb:bndT s.terms) (h1:s.ids.length < 1000000000):CG Tryz.prog 127 [tseg s] (.b (decide (SgP s))):=by
 refine ⟨k_seg_May.calls ?_⟩
 have hmi:(s.ids.map T.s).length=s.ids.length:=by simp
 have hmk:(s.keys.map T.i).length=s.keys.length:=by simp
 have hml:(s.lens.map T.i).length=s.lens.length:=by simp
 have no:¬ SgP s→∀ L,Ends [] (fun r h=>r=V.g (T.b (decide (SgP s)))∧h=[]) (V.g (T.sc (Value.bool false))) L:=fun e L=>by
  rw [decide_eq_false e];exact Ends.ground (H:=[]) (L:=L) 0 rfl ⟨rfl,rfl⟩
 (try conv=>whnf);repeat ((first|refine ⟨rfl,_,rfl,?_⟩|refine ⟨⟨rfl,rfl⟩,?_⟩);conv=>whnf)
 refine Br.dec (fun e1=>?_) (fun e1=>?_)
 ·try conv=>whnf
  exact ⟨no (fun q=>by have:=q.1;omega) _⟩
 (try conv=>whnf);repeat ((first|refine ⟨rfl,_,rfl,?_⟩);conv=>whnf)
 refine Br.ne (fun e2=>?_) (fun e2=>?_)
 ·try conv=>whnf
  exact ⟨no (fun q=>by have:=q.2.1;omega) _⟩
 (try conv=>whnf);repeat ((first|refine ⟨rfl,_,rfl,?_⟩);conv=>whnf)
 refine Br.ne (fun e3=>?_) (fun e3=>?_)
 ·try conv=>whnf
  exact ⟨no (fun q=>by have:=q.2.2.1;omega) _⟩
 have f1:s.ids.length≤64:=by omega
 have f2:s.keys.length=s.ids.length:=by omega
 have f3:s.lens.length=s.ids.length:=by omega
 (try conv=>whnf);repeat ((first|refine ⟨rfl,_,rfl,⟨rfl,rfl,by decide⟩,?_⟩|refine ⟨rfl,_,rfl,?_⟩|refine ⟨rfl,?_⟩);conv=>whnf)
 refine SW.loopR (α:=Nat) (fun k=>tm 92 [(1,.pa 0 0 0 0),(4,.mp 1),(5,.pa 2 0 0 0),(31,strs s.ids),(32,.g (.i s.ids.length)),(33,.g (.i k))])
  (fun k=>[.arr 0 5 [.g (tseg s)],.mp (kvT (s.ids.take k)),.arr 0 3 [cdV (pid s k) (pkey s k)]]) (fun k=>k≤s.ids.length∧(s.ids.take k).Nodup∧∀ i,i < k→okD s i) (fun k=>s.ids.length-k) 0 ?_ ?_ ?_
 ·exact ⟨Nat.zero_le _,by simp,fun i h=>absurd h (by omega)⟩
 ·exact Refi.sub rfl (by simp [subT,subV,tm,tmGo,strs])
 ·rintro k ⟨hk,hn,hd⟩
  dsimp only at hk hn hd ⊢
  conv=>whnf
  refine Br.dec (fun h=>?_) (fun h=>?_)
  ·have hk':k < s.ids.length:=by omega
   have hkk:k < s.keys.length:=by omega
   have hkl:k < s.lens.length:=by omega
   have cm:=c_seg_may ⟨s.ids[k],s.keys[k],[]⟩ (by simp)
   by_cases hin:s.ids[k]∈s.ids.take k
   ·have nq:=no (fun q=>by
     have:=q.2.2.2.1
     rw [← List.take_append_drop k s.ids,List.drop_eq_getElem_cons hk'] at this
     unfold List.Nodup at this
     rw [List.pairwise_append] at this
     exact this.2.2 _ hin _ List.mem_cons_self rfl)
    obtain ⟨i,hi,ei⟩:=List.getElem_of_mem hin
    have g1:=kvT_at hn hi ei (n:=0)
    have hkv:(kvT (s.ids.take k)).length=k:=by rw [kvT_len];simp;omega
    have g2:mfind (false,[2]) (mput (kvT (s.ids.take k)) (.string s.ids[k]) (.int .i64 (1+1)) (some (0+i,.int .i64 1))) (.string s.ids[k]) 0=some (some (0+i,.int .i64 2)):=by
     show mfind (false,[2]) ((kvT (s.ids.take k)).set (0+i) (.string s.ids[k],.int .i64 2)) (.string s.ids[k]) 0=_
     rw [Nat.zero_add]
     have hik:i < k:=by simp at hi;omega
     rw [mfind_set (by omega) (fun j' hj'=>?_) (by rw [sameT,decide_eq_true rfl]),Nat.zero_add]
     have:=List.pairwise_iff_getElem.1 hn j' i (by omega) hi hj'
     simp only [kvT,List.getElem_map,sameT]
     rw [decide_eq_false (fun h=>this (by rw [← h,ei]))]
    (try conv=>whnf);repeat ((first|refine ⟨rfl,_,g1,?_⟩|refine ⟨_,getZ (by omega),?_⟩|refine ⟨by omega,rfl,?_⟩|refine ⟨rfl,_,rfl,⟨rfl,rfl,by decide⟩,?_⟩|refine ⟨rfl,_,rfl,?_⟩|refine ⟨rfl,?_⟩|refine ⟨in64 (by omega) (by omega),?_⟩);conv=>whnf)
    refine CG.lend1 cm trivial 1 rfl ?_
    try conv=>whnf
    refine Br.not (fun h2=>?_) (fun h2=>?_)
    ·try conv=>whnf
     exact ⟨nq _⟩
    ·(try conv=>whnf);repeat ((first|refine ⟨rfl,_,g2,?_⟩);conv=>whnf)
     exact ⟨nq _⟩
   ·have g1:=kvT_no hin (n:=0)
    have hn':(s.ids.take (k+1)).Nodup:=by
     rw [List.take_succ_eq_append_getElem hk']
     unfold List.Nodup
     rw [List.pairwise_append]
     exact ⟨hn,by simp,fun a ha b hb=>by simp at hb;subst hb;exact fun e=>hin (by rw [← e];exact ha)⟩
    have hset:mput (kvT (s.ids.take k)) (.string s.ids[k]) (.int .i64 (0+1)) none=kvT (s.ids.take (k+1)):=by
     rw [List.take_succ_eq_append_getElem hk',kvT_put];rfl
    have g2:mfind (false,[2]) (mput (kvT (s.ids.take k)) (.string s.ids[k]) (.int .i64 (0+1)) none) (.string s.ids[k]) 0=some (some (0+k,.int .i64 1)):=by
     rw [hset]
     exact kvT_at hn' (by simp;omega) (by simp)
    have bad:¬ okD s k→¬ SgP s:=fun e q=>e (q.2.2.2.2.1 k hk')
    have hD:okD s k↔(fitsS s.ids[k] 16=true∧(0≤s.keys[k]∧s.keys[k]≤1073741824)∧(0≤s.lens[k]∧s.lens[k]≤120)∧(s.sorted=true→0 < k→befC ⟨pid s k,pkey s k,[]⟩ ⟨s.ids[k],s.keys[k],[]⟩=true)):=by
     unfold okD
     rw [getI_lt hk',getL_lt hkk,getL_lt hkl]
     refine and_congr_right fun _=>and_congr_right fun _=>and_congr_right fun _=>?_
     constructor
     ·intro h h1 h2
      rw [pid,pkey,if_neg (by omega),if_neg (by omega)]
      exact h h1 h2
     ·intro h h1 h2
      have:=h h1 h2
      rw [pid,pkey,if_neg (by omega),if_neg (by omega)] at this
      exact this
    (try conv=>whnf);repeat ((first|refine ⟨rfl,_,g1,?_⟩|refine ⟨_,getZ (by omega),?_⟩|refine ⟨by omega,rfl,?_⟩|refine ⟨rfl,_,rfl,⟨rfl,rfl,by decide⟩,?_⟩|refine ⟨rfl,_,rfl,?_⟩|refine ⟨rfl,?_⟩|refine ⟨in64 (by omega) (by omega),?_⟩);conv=>whnf)
    refine CG.lend1 cm trivial 1 rfl ?_
    try conv=>whnf
    rw [mayC0]
    refine Br.not (fun h2=>?_) (fun h2=>?_)
    ·try conv=>whnf
     refine ⟨no (bad fun e=>?_) _⟩
     have e:=hD.1 e
     rw [e.1,decide_eq_true e.2.1.1,decide_eq_true e.2.1.2] at h2
     cases h2
    ·simp only [Bool.and_eq_true,decide_eq_true_eq] at h2
     (try conv=>whnf);repeat ((first|refine ⟨rfl,_,g2,?_⟩|refine ⟨_,getZ (by omega),?_⟩|refine ⟨by omega,rfl,?_⟩|refine ⟨rfl,_,rfl,?_⟩);conv=>whnf)
     refine Br.dec (fun h3=>?_) (fun h3=>?_)
     ·try conv=>whnf
      exact ⟨no (bad fun e=>by have:=(hD.1 e).2.2.1;omega) _⟩
     (try conv=>whnf);repeat ((first|refine ⟨_,getZ (by omega),?_⟩|refine ⟨by omega,rfl,?_⟩|refine ⟨rfl,_,rfl,?_⟩);conv=>whnf)
     refine Br.dec (fun h4=>?_) (fun h4=>?_)
     ·try conv=>whnf
      exact ⟨no (bad fun e=>by have:=(hD.1 e).2.2.1;omega) _⟩
     have back:okD s k→∀ i,i < k+1→okD s i:=fun e i hi=>by
      by_cases q:i=k
      ·subst q;exact e
      ·exact hd i (by omega)
     have pe:pid s (k+1)=s.ids[k]∧pkey s (k+1)=s.keys[k]:=by
      rw [pid,pkey,if_neg (by omega),if_neg (by omega),Nat.add_sub_cancel,getI_lt hk',getL_lt hkk];exact ⟨rfl,rfl⟩
     have clo:∀ y∈[Blk.arr 0 5 [.g (tseg s)],.mp (kvT (s.ids.take (k+1))),.arr 0 3 [cdV (pid s (k+1)) (pkey s (k+1))]],y.lt 3:=by
      intro y hy
      simp only [List.mem_cons,List.not_mem_nil,or_false] at hy
      rcases hy with rfl|rfl|rfl
      ·exact Blk.lt_g1
      ·trivial
      ·intro i v hv
       rcases i with _|_|_|i <;> cases hv
       ·exact .g
       ·exact .g
       ·exact .nil
     (try conv=>whnf);repeat ((first|refine ⟨rfl,_,rfl,?_⟩);conv=>whnf)
     refine Br.intro (fun h5=>?_) (fun h5=>?_)
     ·try conv=>whnf
      refine Br.dec (fun h6=>?_) (fun h6=>?_)
      ·(try conv=>whnf);repeat ((first|refine ⟨rfl,_,rfl,?_⟩);conv=>whnf)
       refine CG.lend2 (c_seg_Before ⟨pid s k,pkey s k,[]⟩ ⟨s.ids[k],s.keys[k],[]⟩) trivial 1 rfl rfl ?_
       try conv=>whnf
       refine Br.not (fun h7=>?_) (fun h7=>?_)
       ·try conv=>whnf
        refine ⟨no (bad fun e=>?_) _⟩
        have:=(hD.1 e).2.2.2 h5 (by omega)
        rw [this] at h7;cases h7
       ·(try conv=>whnf);repeat ((first|refine ⟨rfl,_,rfl,⟨rfl,rfl,by decide⟩,?_⟩|refine ⟨rfl,_,rfl,?_⟩|refine ⟨in64 (by omega) (by omega),?_⟩);conv=>whnf)
        refine ⟨⟨k+1,⟨hk',hn',back (hD.2 ⟨h2.1,h2.2,by omega,fun _ _=>h7⟩)⟩,by omega,Refi.back (H':=[Blk.arr 0 5 [.g (tseg s)],.mp (kvT (s.ids.take (k+1))),.arr 0 3 [cdV (pid s (k+1)) (pkey s (k+1))]]) (L:=[.arr 0 3 [cdV s.ids[k] s.keys[k]]]) ?_ (Nat.zero_le _) clo ?_⟩⟩
        ·rw [pe.1,pe.2,← hset];rfl
        ·simp [subT,subV,tm,tmGo,strs,cutV,ltB,ltS]
      ·(try conv=>whnf);repeat ((first|refine ⟨rfl,_,rfl,⟨rfl,rfl,by decide⟩,?_⟩|refine ⟨rfl,_,rfl,?_⟩|refine ⟨in64 (by omega) (by omega),?_⟩);conv=>whnf)
       refine ⟨⟨k+1,⟨hk',hn',back (hD.2 ⟨h2.1,h2.2,by omega,fun _ q=>absurd q (by omega)⟩)⟩,by omega,Refi.back (H':=[Blk.arr 0 5 [.g (tseg s)],.mp (kvT (s.ids.take (k+1))),.arr 0 3 [cdV (pid s (k+1)) (pkey s (k+1))]]) (L:=[.arr 0 3 [cdV s.ids[k] s.keys[k]]]) ?_ (Nat.zero_le _) clo ?_⟩⟩
       ·rw [pe.1,pe.2,← hset];rfl
       ·simp [subT,subV,tm,tmGo,strs,cutV,ltB,ltS]
     ·(try conv=>whnf);repeat ((first|refine ⟨rfl,_,rfl,⟨rfl,rfl,by decide⟩,?_⟩|refine ⟨rfl,_,rfl,?_⟩|refine ⟨in64 (by omega) (by omega),?_⟩);conv=>whnf)
      refine ⟨⟨k+1,⟨hk',hn',back (hD.2 ⟨h2.1,h2.2,by omega,fun q=>by rw [h5] at q;cases q⟩)⟩,by omega,Refi.back (H':=[Blk.arr 0 5 [.g (tseg s)],.mp (kvT (s.ids.take (k+1))),.arr 0 3 [cdV (pid s (k+1)) (pkey s (k+1))]]) (L:=[.arr 0 3 [cdV s.ids[k] s.keys[k]]]) ?_ (Nat.zero_le _) clo ?_⟩⟩
      ·rw [pe.1,pe.2,← hset];rfl
      ·simp [subT,subV,tm,tmGo,strs,cutV,ltB,ltS]
  ·have:k=s.ids.length:=by omega
   subst this
   rw [List.take_length] at hn
   have hvv:∀ v∈s.lens,0≤v∧v≤120:=fun v hv=>by
    obtain ⟨i,hi,rfl⟩:=List.getElem_of_mem hv
    have:=(hd i (by omega)).2.2.1
    rw [getL_lt hi] at this
    exact this
   (try conv=>whnf);repeat ((first|refine (c_seg_placed s hb (by omega) hvv).go rfl ?_|refine ⟨rfl,_,rfl,?_⟩);conv=>whnf)
   have:decide (PlP s)=decide (SgP s):=decide_eq_decide.2 ⟨fun e=>⟨f1,f2,f3,hn,hd,e⟩,fun e=>e.2.2.2.2.2⟩
   rw [this]
   exact ⟨Ends.ground (H:=[]) (L:=[_,_,_]) 0 rfl ⟨rfl,rfl⟩⟩
end Go.Aw
namespace Go.Aw
open Go.Proofs Go.Sort
set_option maxRecDepth 100000
set_option maxHeartbeats 4000000
theorem c_seg_HasS1 (x:Tm) (y:ByteArray):CG Tryz.prog 129 [tterm x,.s y] (.i (cmpS x.t y)):=by
 refine ⟨k_seg_HasS1.calls ?_⟩
 (try conv=>whnf);repeat ((first|refine (c_strings_Compare x.t y).go rfl ?_|refine ⟨rfl,_,rfl,?_⟩|refine ⟨⟨rfl,rfl⟩,?_⟩);conv=>whnf)
 exact ⟨Ends.ground (H:=[]) (L:=[_]) 0 rfl ⟨rfl,rfl⟩⟩
def SrtT (l:List Tm):Prop:=l.Pairwise fun x y=>ltB' x.t y.t=true
def lowT (l:List Tm) (y:ByteArray):Nat:=(l.filter fun x=>ltB' x.t y).length
theorem ltB_trans {a b c:ByteArray} (h:ltB' a b=true) (k:ltB' b c=true):ltB' a c=true:=by
 have h1:Lib.compareBytes a.data.toList b.data.toList < 0:=of_decide_eq_true h
 have k1:Lib.compareBytes b.data.toList c.data.toList < 0:=of_decide_eq_true k
 have:=cmpL_trans (a:=a.data.toList) (b:=b.data.toList) (c:=c.data.toList) (by omega) (by omega)
 refine decide_eq_true ?_
 show Lib.compareBytes a.data.toList c.data.toList < 0
 by_cases e:Lib.compareBytes a.data.toList c.data.toList=0
 ·have:=(this.2 e).1;omega
 ·omega
theorem ltB_irr {a:ByteArray}:ltB' a a=false:=by simp [ltB',cmpS_zero.2 rfl]
theorem SrtT.get {l:List Tm} (h:SrtT l) {i j:Nat} (hi:i < j) (hj:j < l.length):ltB' l[i].t l[j].t=true:=List.pairwise_iff_getElem.1 h i j (by omega) hj hi
theorem lowT_eq {l:List Tm} {y:ByteArray} {i:Nat} (hi:i≤l.length) (h1:∀ (k:Nat) (h:k < l.length),k < i→ltB' l[k].t y=true) (h2:∀ (k:Nat) (h:k < l.length),i≤k→ltB' l[k].t y=false):lowT l y=i:=by
 rw [lowT,← List.take_append_drop i l,List.filter_append]
 have e1:(l.take i).filter (fun x=>ltB' x.t y)=l.take i:=by
  rw [List.filter_eq_self]
  intro a ha
  obtain ⟨k,hk,rfl⟩:=List.getElem_of_mem ha
  rw [List.getElem_take];exact h1 k (by simp at hk;omega) (by simp at hk;omega)
 have e2:(l.drop i).filter (fun x=>ltB' x.t y)=[]:=by
  rw [List.filter_eq_nil_iff]
  intro a ha
  obtain ⟨k,hk,rfl⟩:=List.getElem_of_mem ha
  rw [List.getElem_drop,h2 (i+k) (by simp at hk;omega) (by omega)];simp
 rw [e1,e2,List.append_nil,List.length_take];omega
theorem c_bsfT (l:List Tm) (y:ByteArray) (hl:l.length < 1000000000) (hs:SrtT l) :
  ACalls Tryz.prog 128 [terms l,.g (.s y),.fn 129 []] [] (fun r h=>r=.tu [.g (.i (lowT l y)),.g (.b (l.any fun x=>decide (x.t=y)))]∧h=[]):=by
 refine k_slices_BinarySearchFunc_LTerm_Term_string.calls ?_
 have hm:(l.map tterm).length=l.length:=by simp
 try conv=>whnf
 refine SW.loopR (α:=Nat×Nat) (fun a=>tm 49 [(0,terms l),(1,.g (.s y)),(2,.fn 129 []),(8,.g (.i l.length)),(9,.g (.i a.1)),(10,.g (.i a.2))]) (fun _=>[])
  (fun a=>a.1≤a.2∧a.2≤l.length∧(∀ (k:Nat) (h:k < l.length),k < a.1→ltB' l[k].t y=true)∧(∀ (k:Nat) (h:k < l.length),a.2≤k→ltB' l[k].t y=false)) (fun a=>a.2-a.1) (0,l.length) ?_ ?_ ?_
 ·exact ⟨Nat.zero_le _,Nat.le_refl _,fun _ _ h=>by simp at h,fun k h1 h2=>by dsimp only at h2;omega⟩
 ·exact Refi.sub rfl (by simp [subT,subV,tm,tmGo,terms])
 ·rintro ⟨i,j⟩ ⟨h1,h2',h3',h4⟩
  dsimp only at h1 h2' h3' h4 ⊢
  conv=>whnf
  refine Br.dec (fun h=>?_) (fun h=>?_)
  ·conv=>whnf
   refine ⟨in64 (by omega) (by omega),?_⟩
   conv=>whnf
   have e:=half i j (by omega)
   refine ⟨by omega,?_⟩
   conv=>whnf
   rw [e]
   have hmid:i≤(i+j) / 2∧(i+j) / 2 < j:=by omega
   generalize (i+j) / 2=m at hmid
   have hm':m < l.length:=by omega
   (try conv=>whnf);repeat ((first|refine (c_seg_HasS1 l[m] y).go rfl ?_|refine ⟨_,getZ (by omega),?_⟩|refine ⟨by omega,rfl,?_⟩);conv=>whnf)
   refine Br.dec (fun h5=>?_) (fun h5=>?_)
   ·have h5':ltB' l[m].t y=true:=decide_eq_true h5
    (try conv=>whnf);repeat ((first|refine ⟨in64 (by omega) (by omega),?_⟩);conv=>whnf)
    refine ⟨⟨(m+1,j),⟨by dsimp only;omega,h2',fun k hk hkm=>?_,h4⟩,by show j-(m+1) < j-i;omega,Refi.sub rfl (by simp [subT,subV,tm,tmGo,terms])⟩⟩
    rcases Nat.lt_or_ge k m with h6|h6
    ·exact ltB_trans (hs.get h6 hm') h5'
    ·have:k=m:=by dsimp only at hkm;omega
     subst this;exact h5'
   ·have h5':ltB' l[m].t y=false:=decide_eq_false h5
    try conv=>whnf
    refine ⟨⟨(i,m),⟨by dsimp only;omega,by dsimp only;omega,h3',fun k hk hkm=>?_⟩,by show m-i < j-i;omega,Refi.sub rfl (by simp [subT,subV,tm,tmGo,terms])⟩⟩
    rcases Nat.lt_or_ge m k with h6|h6
    ·cases q:ltB' l[k].t y with
     | false=>rfl
     | true=>rw [ltB_trans (hs.get h6 hk) q] at h5';cases h5'
    ·have:k=m:=by dsimp only at hkm;omega
     subst this;exact h5'
  ·have:i=j:=by omega
   subst this
   have hp:=lowT_eq h2' h3' h4
   rw [hp]
   have any1:∀ (hi:i < l.length),(l.any fun x=>decide (x.t=y))=decide (l[i].t=y):=fun hi=>by
    by_cases q:l[i].t=y
    ·rw [decide_eq_true q,List.any_eq_true];exact ⟨l[i],List.getElem_mem _,by simp [q]⟩
    ·rw [decide_eq_false q,List.any_eq_false]
     intro a ha
     obtain ⟨k,hk,rfl⟩:=List.getElem_of_mem ha
     simp only [decide_eq_true_eq]
     intro e
     rcases Nat.lt_trichotomy k i with h6|h6|h6
     ·have:=h3' k hk h6;rw [e,ltB_irr] at this;cases this
     ·subst h6;exact q e
     ·have:=hs.get h6 hk;rw [e,h4 i hi (Nat.le_refl _)] at this;cases this
   try conv=>whnf
   refine Br.dec (fun h5=>?_) (fun h5=>?_)
   ·have hi':i < l.length:=by omega
    (try conv=>whnf);repeat ((first|refine (c_seg_HasS1 l[i] y).go rfl ?_|refine ⟨_,getZ (by omega),?_⟩|refine ⟨by omega,rfl,?_⟩);conv=>whnf)
    rw [any1 hi',show decide (l[i].t=y)=(cmpS l[i].t y == 0) from by rw [Bool.eq_iff_iff,decide_eq_true_iff,beq_iff_eq,cmpS_zero]]
    exact ⟨Ends.keep ⟨rfl,rfl⟩⟩
   ·have hi':¬ i < l.length:=by omega
    have:(l.any fun x=>decide (x.t=y))=false:=by
     rw [List.any_eq_false]
     intro a ha
     obtain ⟨k,hk,rfl⟩:=List.getElem_of_mem ha
     simp only [decide_eq_true_eq]
     intro e
     have:=h3' k hk (by omega);rw [e,ltB_irr] at this;cases this
    rw [this]
    try conv=>whnf
    exact ⟨Ends.keep ⟨rfl,rfl⟩⟩
theorem dm_srt {l:List Tm} (h:dmS (l.map (·.t))=true):SrtT l:=by
 have h:=of_decide_eq_true h
 have adj:∀ k (hk:k+1 < l.length),ltB' l[k].t l[k+1].t=true:=fun k hk=>by
  have:=(h.1 (k+1) (by simpa using hk)).2 (by omega)
  simpa using this
 refine List.pairwise_iff_getElem.2 fun i j hi hj hij=>?_
 obtain ⟨d,rfl⟩:∃ d,j=i+1+d:=⟨j-(i+1),by omega⟩
 clear hij
 induction d with
 | zero=>exact adj i hj
 | succ d ih=>exact ltB_trans (ih (by omega)) (adj (i+1+d) hj)
theorem SrtT.find {l:List Tm} (h:SrtT l) {x:Tm} (hx:x∈l):∃ (hi:lowT l x.t < l.length),l[lowT l x.t]=x:=by
 obtain ⟨i,hi,rfl⟩:=List.getElem_of_mem hx
 have e:lowT l l[i].t=i:=lowT_eq (by omega) (fun k hk hki=>h.get hki hi) (fun k hk hki=>by
  rcases Nat.lt_or_ge i k with h6|h6
  ·cases q:ltB' l[k].t l[i].t with
   | false=>rfl
   | true=>have:=ltB_trans (h.get h6 hk) q;rw [ltB_irr] at this;cases this
  ·have:k=i:=by omega
   subst this;exact ltB_irr)
 exact ⟨by omega,by simp only [e]⟩
def hasS (s:Sg) (y:ByteArray):List Po:=if SgP s then (match s.terms.find? (fun x=>decide (x.t=y)) with|some x=>x.p|none=>[]) else []
theorem c_Clone_intsB (xs:List Int) (hl:xs.length < 1000000000):CG Tryz.prog 130 [tints xs] (tints xs):=by
 refine ⟨k_slices_Clone_Lint_int.calls ?_⟩
 conv=>whnf
 intro r hr
 conv=>whnf
 refine Br.intro (fun h=>?_) (fun h=>?_)
 ·conv=>whnf
  have:xs=[]:=by simpa using hr h
  subst this
  exact ⟨Ends.ground (H:=[]) (L:=[]) 0 rfl ⟨rfl,rfl⟩⟩
 ·conv=>whnf
  refine ⟨rfl,?_⟩
  conv=>whnf
  refine ⟨by simp;omega,⟨rfl,rfl,rfl⟩,[],⟨[],rfl⟩,rfl,?_⟩
  conv=>whnf
  refine ⟨Ends.ground (H:=[]) (L:=[_]) (t:=tints xs) 1 ?_ ⟨rfl,rfl⟩⟩
  have e:((xs.map T.i).map V.g)=xs.map fun x=>V.g (.i x):=by rw [List.map_map];rfl
  have:=gr_own (n:=0) (d:=0) (b:=0) (g:=1) (sz:=1) (len:=0+((xs.map T.i).map V.g).length) (h:=[.arr 1 1 ([]++(xs.map T.i).map V.g)]) (l:=xs) (f:=fun x=>V.g (.i x)) (e:=T.i) (by rw [e];rfl) (Nat.le_refl _) (by simp) (fun x _=>gr_g)
  exact this
theorem c_seg_Has (s:Sg) (y:ByteArray) (hb:bndT s.terms) (h1:s.ids.length < 1000000000):CG Tryz.prog 57 [tseg s,.s y] (tposts (hasS s y)):=by
 refine ⟨k_seg_Has.calls ?_⟩
 have hmt:(s.terms.map tterm).length=s.terms.length:=by simp
 (try conv=>whnf);repeat ((first|refine (c_seg_May s hb h1).go rfl ?_|refine ⟨rfl,_,rfl,?_⟩|refine ⟨⟨rfl,rfl⟩,?_⟩);conv=>whnf)
 refine Br.not (fun e1=>?_) (fun e1=>?_)
 ·try conv=>whnf
  rw [hasS,if_neg (of_decide_eq_false e1)]
  exact ⟨Ends.ground (H:=[]) (L:=[_]) (t:=tposts []) 0 rfl ⟨rfl,rfl⟩⟩
 ·have e1:=of_decide_eq_true e1
  have hsr:=dm_srt e1.2.2.2.2.2.2.2.2.1
  rw [hasS,if_pos e1]
  (try conv=>whnf);repeat ((first|refine ⟨rfl,_,rfl,?_⟩);conv=>whnf)
  refine ACalls.fl (c_bsfT s.terms y hb.1 hsr) [] rfl rfl rfl flatH.nil (by rintro r h ⟨_,rfl⟩;exact flatH.nil) ?_
  rintro r h ⟨rfl,rfl⟩
  try conv=>whnf
  cases hf:s.terms.find? (fun x=>decide (x.t=y)) with
  | none =>
   have e2:(s.terms.any fun x=>decide (x.t=y))=false:=by
    rw [List.any_eq_false]
    intro x hx
    have:=List.find?_eq_none.1 hf x hx
    simpa using this
   rw [e2]
   try conv=>whnf
   exact ⟨Ends.ground (H:=[]) (L:=[_]) (t:=tposts []) 0 rfl ⟨rfl,rfl⟩⟩
  | some x =>
   have hx:=List.mem_of_find?_eq_some hf
   have hxy:x.t=y:=by have:=List.find?_some hf;simpa using this
   have e2:(s.terms.any fun x=>decide (x.t=y))=true:=by
    rw [List.any_eq_true];exact ⟨x,hx,by simp [hxy]⟩
   obtain ⟨hi,he⟩:=hsr.find hx
   subst hxy
   obtain ⟨hp1,hp2⟩:=hb.2 _ hx
   rw [e2]
   have hmp:(x.p.map tpost).length=x.p.length:=by simp
   (try conv=>whnf);repeat ((first|refine ⟨_,getZ (by omega),?_⟩|refine ⟨by omega,rfl,?_⟩|refine ⟨rfl,_,rfl,?_⟩);conv=>whnf)
   refine SW.loopR (α:=Nat) (fun k=>tm 43 [(5,.own 1 k 0 k),(26,posts x.p),(27,.g (.i x.p.length)),(28,.g (.i k))]) (fun k=>[.arr 0 5 [.g (tseg s)],.arr k 2 (vposts (x.p.take k))]) (fun k=>k≤x.p.length) (fun k=>x.p.length-k) 0 ?_ ?_ ?_
   ·exact Nat.zero_le _
   ·refine (Refi.valloc 5 2 rfl).trans (Refi.sub rfl ?_)
    simp [subT,subV,tm,tmGo,posts,setT,he]
   ·intro k hk
    dsimp only at hk ⊢
    conv=>whnf
    refine Br.dec (fun h=>?_) (fun h=>?_)
    ·have hk':k < x.p.length:=by omega
     have hn1:(vposts (x.p.take k)).length=k:=by simp [vposts];omega
     have hpk:=hp2 _ (List.getElem_mem hk')
     (try conv=>whnf);repeat ((first|refine ⟨_,getZ (by omega),?_⟩|refine ⟨by omega,rfl,?_⟩|refine ⟨rfl,_,rfl,⟨rfl,rfl,by decide⟩,?_⟩|refine ⟨rfl,_,rfl,?_⟩|refine ⟨rfl,?_⟩);conv=>whnf)
     refine ⟨_,(c_Clone_intsB x.p[k].2 hpk).go rfl ⟨rfl,rfl⟩,?_⟩
     (try conv=>whnf);repeat ((first|refine And.intro (show cellsAll _ _ from by repeat (first|exact trivial|refine ⟨⟨rfl,rfl⟩,?_⟩)) ?_|refine ⟨rfl,?_⟩);conv=>whnf)
     refine ⟨by simp;omega,⟨rfl,rfl,rfl⟩,_,⟨[],(List.append_nil _).symm⟩,hn1.symm,?_⟩
     (try conv=>whnf);repeat ((first|refine ⟨in64 (by omega) (by omega),?_⟩);conv=>whnf)
     refine ⟨⟨k+1,hk',by omega,Refi.back (H':=[.arr 0 5 [.g (tseg s)],.arr (k+1) 2 (vposts (x.p.take (k+1)))]) (L:=[.arr 0 2 [.g (tpost x.p[k])]]) ?_ (Nat.zero_le _) (lt_all2 Blk.lt_g1 Blk.lt_g) ?_⟩⟩
     ·rw [show vposts (x.p.take (k+1))=vposts (x.p.take k)++[V.g (tpost x.p[k])] from by rw [List.take_succ_eq_append_getElem hk',vposts,vposts,List.map_append];rfl]
      rfl
     ·simp [subT,subV,tm,tmGo,posts,cutV,ltB,ltS]
    ·have:k=x.p.length:=by omega
     subst this
     try conv=>whnf
     refine ⟨Ends.ground (H:=[]) (L:=[_,_]) (t:=tposts x.p) 1 ?_ ⟨rfl,rfl⟩⟩
     rw [List.take_length]
     exact gr_own rfl (Nat.zero_le _) rfl fun _ _=>gr_g
end Go.Aw
namespace Go.Aw
open Go.Proofs Go.Sort
set_option maxRecDepth 100000
set_option maxHeartbeats 4000000
theorem forceH_to {t t':List Blk} {k:List Blk→Prop} (e:t=t') (h:k t'):forceH t k:=by rw [forceH_eq,e];exact h
theorem getB_push (x y v:Blk) (D:List Blk):getB (x::y::(D++[v])) (x::y::D).length=some v:=by rw [getB_eq];simp
theorem setB_push (u v:Blk) (D:List Blk):setB (D++[v]) D.length u=D++[u]:=by rw [setB_eq];simp
abbrev Ops:=List ((Int×Int)×ByteArray)
def wAt (W:Ops) (q:Int×Int):ByteArray:=match W.find? (fun o=>decide (o.1=q)) with|some o=>o.2|none=>⟨#[]⟩
def opsT (l:List Tm):Ops:=l.flatMap fun x=>(prT x).map fun q=>(q,x.t)
def rowW (s:Sg) (W:Ops) (d:Nat):List ByteArray:=(List.range (s.lens.getD d 0).toNat).map fun (a:Nat)=>wAt W ((d:Int),(a:Int))
def cdW (s:Sg) (W:Ops) (d:Nat):Cd:=⟨s.ids.getD d default,s.keys.getD d 0,rowW s W d⟩
def cardsS (s:Sg):List Cd:=if SgP s then (List.range s.ids.length).map (cdW s (opsT s.terms)) else []
theorem opsT_keys {l:List Tm}:(opsT l).map (·.1)=prs l:=by
 induction l with
 | nil=>rfl
 | cons x l ih =>
  simp only [opsT,prs,List.flatMap_cons,List.map_append] at ih ⊢
  rw [ih,List.map_map]
  congr 1
  exact List.map_id'' (fun _=>rfl) _
end Go.Aw
