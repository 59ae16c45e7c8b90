/- Contracts of functions of the given program, by the abstract walk, for law StatReckons: what each one hands back; no condition but those that each theorem states. -/
import Derived.Test.YtocdciahhlbknaaGreatC15
import Derived.Test.YtocdciahhlbknaaGreatC16
import Derived.Test.YtocdciahhlbknaaGreatC21
import Derived.Test.YtocdciahhlbknaaGreatC4
namespace Go.Aw
open Go.Proofs Go.Sort
set_option maxRecDepth 100000
set_option maxHeartbeats 1000000
theorem CG.gc {P:Program} {f:Nat} {ts:List T} {t:T} (c:CG P f ts t):GC P f (ts.map V.g) (.g t) :=
 ⟨c.ok,fun i a h=>by
  rw [List.getElem?_map] at h
  obtain ⟨x,_,rfl⟩:=Option.map_eq_some_iff.1 h
  exact .g,.g⟩
theorem storeS (y z:ByteArray):storeV (V.g (T.s y)) 0 (V.g (T.s z))=V.g (T.s z):=rfl
def mergeS (l:List Sg) (v:List (List Bool)) (b:Bool):Sg×List (List Int)×Int :=
 if ¬ (rightP l v∧((leftP v).map (idP l)).Nodup) then (noSg,[],1) else if 64 < manyN v then (noSg,[],8)
 else if 200 < (wlS ((ordL l v b).flatMap (·.w))).length then (noSg,[],8) else (segOf (ordL l v b) b,tabsS l v b,0)
theorem setP {α:Type} {P:List (Nat×Nat)} (f:Nat×Nat→α) (d:α) (hn:P.Nodup) {k:Nat} {q:Nat×Nat} (hk:P[k]?=some q) {D D':Nat×Nat→Bool} (hD:∀ p,D' p=(D p || decide (p=q))) :
  (P.map fun p=>if D p then f p else d).set k (f q)=P.map fun p=>if D' p then f p else d:=by
 obtain ⟨hlt,hq⟩:=List.getElem?_eq_some_iff.1 hk
 refine List.ext_getElem (by simp) fun i h1 h2=>?_
 have hi:i < P.length:=by simpa using h2
 rw [List.getElem_set]
 split
 ·rename_i e;subst e
  rw [List.getElem_map,hD,hq]
  simp
 ·rename_i e
  have:P[i]≠q:=fun h=>e ((List.getElem_inj hn).1 (by rw [h,hq]))
  simp only [List.getElem_map]
  rw [hD,decide_eq_false this,Bool.or_false]
def dnP (i j:Nat) (p:Nat×Nat):Bool:=decide (p.1 < i∨(p.1=i∧p.2 < j))
theorem dnP_succ {i j:Nat} (p:Nat×Nat):dnP i (j+1) p=(dnP i j p || decide (p=(i,j))):=by
 obtain ⟨a,b⟩:=p
 simp only [dnP,Prod.mk.injEq]
 rw [← Bool.decide_or]
 refine decide_eq_decide.2 ?_
 omega
def arrP {α:Type} (P:List (Nat×Nat)) (i j:Nat) (f:Nat×Nat→α) (d:α):List α:=P.map fun p=>if dnP i j p then f p else d
theorem arrP_set {α:Type} {P:List (Nat×Nat)} {i j k:Nat} {f:Nat×Nat→α} {d:α} (hn:P.Nodup) (hk:P[k]?=some (i,j)):(arrP P i j f d).set k (f (i,j))=arrP P i (j+1) f d:=setP f d hn hk dnP_succ
theorem arrP_skip {α:Type} {P:List (Nat×Nat)} {i j:Nat} {f:Nat×Nat→α} {d:α} (hk:(i,j)∉P):arrP P i (j+1) f d=arrP P i j f d:=by
 refine List.map_congr_left fun p hp=>?_
 rw [dnP_succ,decide_eq_false (fun e=>hk (by rw [← e];exact hp)),Bool.or_false]
theorem arrP_next {α:Type} {P:List (Nat×Nat)} {i j:Nat} {f:Nat×Nat→α} {d:α} (h:∀ p∈P,p.1=i→p.2 < j):arrP P i j f d=arrP P (i+1) 0 f d:=by
 refine List.map_congr_left fun p hp=>?_
 have:dnP i j p=dnP (i+1) 0 p:=by
  refine decide_eq_decide.2 ?_
  have:=h p hp
  omega
 rw [this]
theorem arrP_len {α:Type} {P:List (Nat×Nat)} {i j:Nat} {f:Nat×Nat→α} {d:α}:(arrP P i j f d).length=P.length:=by simp [arrP]
theorem arrP_0 {α:Type} {P:List (Nat×Nat)} {f:Nat×Nat→α} {d:α}:arrP P 0 0 f d=List.replicate P.length d:=by
 refine List.ext_getElem (by simp [arrP]) fun i h1 h2=>?_
 simp [arrP,dnP]
theorem arrP_all {α:Type} {P:List (Nat×Nat)} {i:Nat} {f:Nat×Nat→α} {d:α} (h:∀ p∈P,p.1 < i):arrP P i 0 f d=P.map f:=by
 refine List.map_congr_left fun p hp=>?_
 rw [show dnP i 0 p=true from decide_eq_true (.inl (h p hp)),if_pos rfl]
def hpM (P:List (Nat×Nat)) (l:List Sg) (b:Bool) (ts:List Tm) (n i j:Nat):List Blk:=[.arr 0 5 [zSeg],.arr 1 1 (rowS (arrP P i j (idP l) ⟨#[]⟩)),.arr 1 1 (vI (arrP P i j (keyP l) 0)),.arr 1 1 (vI (arrP P i j (lenP' l) 0)),
 .arr 1 5 [.ag [.own 1 1 0 n,.own 2 1 0 n,.own 3 1 0 n,.g (tterms ts),.g (.b b)]]]
theorem c_merge_Merge (l:List Sg) (v:List (List Bool)) (b:Bool) (hb:bndM l v):CV Tryz.prog 73 [tsegs l,tlive v,.b b] (.tu [.g (tseg (mergeS l v b).1),.g (ttabs (mergeS l v b).2.1),.g (.i (mergeS l v b).2.2)]):=by
 refine ⟨k_merge_Merge.calls ?_,V.lt.gs (ts:=[_,_,_])⟩
 obtain ⟨h1,h2,h3,h4⟩:=id hb
 have hma:(l.map tseg).length=l.length:=by simp
 have err:∀ n:Int,mergeS l v b=(noSg,[],n)→∀ L:List Blk,Ends [] (fun r h=>r=V.tu [.g (tseg (mergeS l v b).1),.g (ttabs (mergeS l v b).2.1),.g (.i (mergeS l v b).2.2)]∧h=[]) (V.tu [zSeg,.nil 1,.g (.i n)]) L:=fun n e L=>by
  rw [e]
  exact Ends.grounds (H:=[]) (L:=L) 1 (ts:=[tseg noSg,ttabs [],.i n]) rfl ⟨rfl,rfl⟩
 have cr:=c_merge_right l v hb
 (try conv=>whnf);repeat ((first|refine (cr).go rfl ?_|refine ⟨rfl,?_⟩);conv=>whnf)
 by_cases hr:rightP l v
 case neg =>
  have e:=err 1 (by rw [mergeS,if_pos fun q=>hr q.1])
  rw [decide_eq_false hr]
  (try conv=>whnf);repeat ((first|refine ⟨rfl,_,rfl,⟨rfl,rfl,by decide⟩,?_⟩|refine ⟨rfl,_,rfl,?_⟩);conv=>whnf)
  exact ⟨e _⟩
 have ctw:=c_merge_twice l v hb hr
 rw [decide_eq_true hr]
 (try conv=>whnf);repeat ((first|refine (ctw).go rfl ?_);conv=>whnf)
 refine Br.dec (fun e1=>?_) (fun e1=>?_)
 ·have e:=err 1 (by rw [mergeS,if_pos fun q=>e1 q.2])
  (try conv=>whnf);repeat ((first|refine ⟨rfl,_,rfl,⟨rfl,rfl,by decide⟩,?_⟩|refine ⟨rfl,_,rfl,?_⟩);conv=>whnf)
  exact ⟨e _⟩
 have hnd:((leftP v).map (idP l)).Nodup:=Classical.not_not.1 e1
 have cm:=c_merge_many v h2 h4
 (try conv=>whnf);repeat ((first|refine (cm).go rfl ?_);conv=>whnf)
 refine Br.dec (fun e2=>?_) (fun e2=>?_)
 ·have e:=err 8 (by rw [mergeS,if_neg fun q=>q ⟨hr,hnd⟩,if_pos (by omega)])
  (try conv=>whnf);repeat ((first|refine ⟨rfl,_,rfl,⟨rfl,rfl,by decide⟩,?_⟩|refine ⟨rfl,_,rfl,?_⟩);conv=>whnf)
  exact ⟨e _⟩
 have hm64:manyN v≤64:=by omega
 have ct:=c_merge_tables l v b hb hr hm64
 have hWd:WdP l v (permL l v b) (tabsS l v b):=⟨hr,tab_ok,permL_perm⟩
 have hPl:(permL l v b).length=manyN v:=permL_len
 have cw:=c_merge_words l v (permL l v b) (tabsS l v b) hb hWd (by omega)
 (try conv=>whnf);repeat ((first|refine ⟨_,cw.gc,?_⟩|refine ⟨⟨by omega,by omega⟩,⟨rfl,rfl⟩,⟨Nat.le_of_ble_eq_true rfl,rfl⟩,?_⟩|refine ⟨⟨rfl,rfl⟩,⟨Nat.le_of_ble_eq_true rfl,rfl⟩,?_⟩|refine (ct).go rfl ?_|refine ⟨rfl,_,rfl,⟨rfl,rfl,by decide⟩,?_⟩|refine ⟨rfl,_,rfl,?_⟩);conv=>whnf)
 have hln:(List.map tterm (termsS (List.map (cdP l) (permL l v b)))).length=(wlS ((ordL l v b).flatMap (·.w))).length:=by simp [termsS,ordL]
 refine Br.dec (fun e3=>?_) (fun e3=>?_)
 ·have e:=err 8 (by rw [mergeS,if_neg fun q=>q ⟨hr,hnd⟩,if_neg (by omega),if_pos (by omega)])
  (try conv=>whnf);repeat ((first|refine ⟨rfl,_,rfl,⟨rfl,rfl,by decide⟩,?_⟩|refine ⟨rfl,_,rfl,?_⟩);conv=>whnf)
  exact ⟨e _⟩
 have spec:mergeS l v b=(segOf (ordL l v b) b,tabsS l v b,0):=by rw [mergeS,if_neg fun q=>q ⟨hr,hnd⟩,if_neg (by omega),if_neg (by omega)]
 have hzs:∀ {α:Type} (d:α),(List.replicate (manyN v) d)=arrP (permL l v b) 0 0 (fun _=>d) d:=fun d=>by rw [arrP_0,hPl]
 obtain ⟨P,hP⟩:∃ P,permL l v b=P:=⟨_,rfl⟩
 obtain ⟨tb,htb⟩:∃ tb,tabsS l v b=tb:=⟨_,rfl⟩
 rw [hP,htb] at hWd
 rw [hP] at hPl
 rw [htb] at spec
 have hPn:=hWd.nd
 have hord:ordL l v b=P.map (cdP l):=by rw [ordL,hP]
 obtain ⟨T0,hT0⟩:∃ T0,termsS (List.map (cdP l) P)=T0:=⟨_,rfl⟩
 have hmt:(tb.map tints).length=l.length:=by rw [List.length_map,hWd.tab.len,hr.1]
 have hin0:∀ p∈P,p.1 < l.length:=fun p hp=>(right_v hr (hWd.perm.mem_iff.1 hp)).1
 try conv=>whnf
 refine SW.loopR (α:=Nat) (fun i=>tm 101 [(6,.pa 0 0 0 0),(10,.g (ttabs tb)),(11,.pa 4 1 0 0),(51,segs l),(52,.g (.i l.length)),(53,.g (.i i))]) (fun i=>hpM P l b T0 (manyN v) i 0) (fun i=>i≤l.length) (fun i=>l.length-i) 0 ?_ ?_ ?_
 ·exact Nat.zero_le _
 ·refine Refi.sub ?_ ?_
  ·rw [hpM,arrP_0,arrP_0,arrP_0,hPl,← hT0,← hP]
   simp [rowS,vI,zSeg,tterms]
   rfl
  ·simp [subT,subV,tm,tmGo,tsegs,ttabs,htb]
 intro i hi
 dsimp only at hi ⊢
 unfold hpM
 conv=>whnf
 refine Br.dec (fun h=>?_) (fun h=>?_)
 ·have hi':i < l.length:=by omega
  have hiv:i < v.length:=by rw [← hr.1];exact hi'
  obtain ⟨q1,q2⟩:=hr.2 i hi'
  have hg0:l.getD i noSg=l[i]:=getD_at _ hi'
  have hit:i < tb.length:=by rw [hWd.tab.len];exact hiv
  have hg1:tb.getD i []=tb[i]:=getD_at _ hit
  have hrow:=hWd.tab.row i hiv
  rw [hg1,q2,hg0] at hrow
  rw [hg0] at q1
  have hk1:=q1.2.1
  have hk2:=q1.2.2.1
  have h64:=q1.1
  have hmr:(tb[i].map T.i).length=l[i].ids.length:=by simp [hrow]
  have hmi:(l[i].ids.map T.s).length=l[i].ids.length:=by simp
  have hmk:(l[i].keys.map T.i).length=l[i].ids.length:=by simp [hk1]
  have hml:(l[i].lens.map T.i).length=l[i].ids.length:=by simp [hk2]
  (try conv=>whnf);repeat ((first|refine ⟨_,getZ (by omega),?_⟩|refine ⟨by omega,rfl,?_⟩|refine ⟨rfl,_,rfl,⟨rfl,rfl,by decide⟩,?_⟩|refine ⟨rfl,?_⟩);conv=>whnf)
  refine SW.loopR (α:=Nat) (fun j=>tm 101 [(6,.pa 0 0 0 0),(10,.g (ttabs tb)),(11,.pa 4 1 0 0),(12,.g (.i i)),(13,.pa 5 0 0 0),(51,segs l),(52,.g (.i l.length)),(53,.g (.i i)),(61,.g (tints tb[i])),(62,.g (.i l[i].ids.length)),(63,.g (.i j))])
   (fun j=>hpM P l b T0 (manyN v) i j++[.arr 0 5 [.g (tseg l[i])]]) (fun j=>j≤l[i].ids.length) (fun j=>l[i].ids.length-j) 0 ?_ ?_ ?_
  ·exact Nat.zero_le _
  ·exact Refi.sub rfl (by simp [subT,subV,tm,tmGo,tints,hrow])
  intro j hj
  dsimp only at hj ⊢
  unfold hpM
  conv=>whnf
  refine Br.dec (fun h=>?_) (fun h=>?_)
  ·have hj':j < l[i].ids.length:=by omega
   have hjv:j < (v.getD i []).length:=by rw [q2,hg0];exact hj'
   have hjt:j < tb[i].length:=by omega
   have htj:(tb.getD i []).getD j (-1)=tb[i][j]:=by rw [hg1,getD_at _ hjt]
   cases hlv:(v.getD i []).getD j false with
   | false =>
    have hd:=hWd.tab.dead i j hiv hjv hlv
    rw [htj] at hd
    have hnm:(i,j)∉P:=fun hm=>by
     have:=(mem_left.1 (hWd.perm.mem_iff.1 hm)).2.2
     rw [hlv] at this;cases this
    (try conv=>whnf);repeat ((first|refine ⟨_,getZ (by omega),?_⟩|refine ⟨by omega,rfl,?_⟩|refine ⟨in64 (by omega) (by omega),?_⟩|refine Br.dec (fun hh=>absurd hh (by omega)) (fun _=>?_));conv=>whnf)
    exact ⟨⟨j+1,hj',by omega,Refi.sub (by simp only [arrP_skip hnm];rfl) (by simp [subT,subV,tm,tmGo])⟩⟩
   | true =>
    obtain ⟨k,hk,hd⟩:=hWd.tab.live i j hiv hjv hlv
    rw [htj] at hd
    have hkl:=lt_of_get hk
    have hjk:j < l[i].keys.length:=by omega
    have hjl:j < l[i].lens.length:=by omega
    have hp1:idP l (i,j)=l[i].ids[j]:=by rw [idP,hg0,getD_at _ hj']
    have hp2:keyP l (i,j)=l[i].keys[j]:=by rw [keyP,hg0,getD_at _ hjk]
    have hp3:lenP' l (i,j)=l[i].lens[j]:=by rw [lenP',hg0,getD_at _ hjl]
    have s1:∃ z,(rowS (arrP P i j (idP l) ⟨#[]⟩))[0+(k:Int).toNat]?=some (V.g (.s z)):=⟨(arrP P i j (idP l) ⟨#[]⟩)[k]'(by rw [arrP_len];exact hkl),by simp [rowS,hkl,arrP_len]⟩
    have s2:∃ z,(vI (arrP P i j (keyP l) 0))[0+(k:Int).toNat]?=some (V.g (.i z)):=⟨(arrP P i j (keyP l) 0)[k]'(by rw [arrP_len];exact hkl),by simp [vI,hkl,arrP_len]⟩
    have s3:∃ z,(vI (arrP P i j (lenP' l) 0))[0+(k:Int).toNat]?=some (V.g (.i z)):=⟨(arrP P i j (lenP' l) 0)[k]'(by rw [arrP_len];exact hkl),by simp [vI,hkl,arrP_len]⟩
    obtain ⟨z1,s1⟩:=s1
    obtain ⟨z2,s2⟩:=s2
    obtain ⟨z3,s3⟩:=s3
    have u1:(rowS (arrP P i j (idP l) ⟨#[]⟩)).set (0+(k:Int).toNat) (V.g (.s l[i].ids[j]))=rowS (arrP P i (j+1) (idP l) ⟨#[]⟩):=by rw [← arrP_set hPn hk,hp1,rowS,rowS,List.map_set];simp
    have u2:(vI (arrP P i j (keyP l) 0)).set (0+(k:Int).toNat) (V.g (.i l[i].keys[j]))=vI (arrP P i (j+1) (keyP l) 0):=by rw [← arrP_set hPn hk,hp2,vI,vI,List.map_set];simp
    have u3:(vI (arrP P i j (lenP' l) 0)).set (0+(k:Int).toNat) (V.g (.i l[i].lens[j]))=vI (arrP P i (j+1) (lenP' l) 0):=by rw [← arrP_set hPn hk,hp3,vI,vI,List.map_set];simp
    generalize rowS (arrP P i j (idP l) ⟨#[]⟩)=A1 at s1 u1 ⊢
    generalize vI (arrP P i j (keyP l) 0)=A2 at s2 u2 ⊢
    generalize vI (arrP P i j (lenP' l) 0)=A3 at s3 u3 ⊢
    (try conv=>whnf);repeat ((first|refine ⟨_,getZ (by omega),?_⟩|refine ⟨by omega,rfl,?_⟩|refine ⟨⟨rfl,rfl⟩,?_⟩|refine ⟨⟨by omega,by omega⟩,⟨rfl,rfl⟩,?_⟩|refine Br.dec (fun _=>?_) (fun hh=>absurd (by omega) hh)|refine ⟨_,rfl,?_⟩);conv=>whnf)
    rw [hd]
    (try conv=>whnf);repeat ((first|refine ⟨_,s1,⟨rfl,rfl,by decide⟩,?_⟩|refine ⟨_,s2,⟨rfl,rfl,by decide⟩,?_⟩|refine ⟨_,s3,⟨rfl,rfl,by decide⟩,?_⟩|refine ⟨⟨rfl,rfl⟩,?_⟩|refine ⟨⟨by omega,by omega⟩,⟨rfl,rfl⟩,?_⟩|refine ⟨in64 (by omega) (by omega),?_⟩);conv=>whnf)
    exact ⟨⟨j+1,hj',by omega,Refi.sub (by rw [storeS,storeI,storeI,u1,u2,u3];rfl) (by simp [subT,subV,tm,tmGo])⟩⟩
  ·have:j=l[i].ids.length:=by omega
   subst this
   (try conv=>whnf);repeat ((first|refine ⟨in64 (by omega) (by omega),?_⟩);conv=>whnf)
   have hnx:∀ p∈P,p.1=i→p.2 < l[i].ids.length:=fun p hp e=>by
    have:=(right_v hr (hWd.perm.mem_iff.1 hp)).2.2
    rw [e,hg0] at this;exact this
   refine ⟨⟨i+1,hi',by omega,Refi.back (H':=hpM P l b T0 (manyN v) (i+1) 0) (L:=[_]) (by rw [hpM,← arrP_next hnx,← arrP_next hnx,← arrP_next hnx];rfl) (Nat.zero_le _) ?_ (by simp [subT,subV,tm,tmGo,cutV,ltB,ltS,hpM])⟩⟩
   intro y hy
   simp only [hpM,List.mem_cons,List.not_mem_nil,or_false] at hy
   rcases hy with rfl|rfl|rfl|rfl|rfl
   ·refine Blk.lt_of fun e he u hu=>?_
    simp only [List.mem_cons,List.not_mem_nil,or_false] at he;subst he
    simp only [zSeg,V.cells,List.mem_cons,List.not_mem_nil,or_false] at hu
    rcases hu with rfl|rfl|rfl|rfl|rfl
    ·exact .nil
    ·exact .nil
    ·exact .nil
    ·exact .nil
    ·exact .g
   ·exact Blk.lt_g
   ·exact Blk.lt_g
   ·exact Blk.lt_g
   ·refine Blk.lt_of fun e he u hu=>?_
    simp only [List.mem_cons,List.not_mem_nil,or_false] at he;subst he
    simp only [V.cells,List.mem_cons,List.not_mem_nil,or_false] at hu
    have h5:(hpM P l b T0 (manyN v) (i+1) 0).length=5:=rfl
    rcases hu with rfl|rfl|rfl|rfl|rfl
    ·exact .own (by omega)
    ·exact .own (by omega)
    ·exact .own (by omega)
    ·exact .g
    ·exact .g
 ·have:i=l.length:=by omega
  subst this
  (try conv=>whnf);repeat ((first|refine ⟨rfl,_,rfl,⟨rfl,rfl,by decide⟩,?_⟩|refine ⟨rfl,_,rfl,?_⟩);conv=>whnf)
  rw [arrP_all hin0,arrP_all hin0,arrP_all hin0]
  have hPm:∀ p∈P,p∈leftP v:=fun p hp=>hWd.perm.mem_iff.1 hp
  have hseg:segOf (ordL l v b) b=⟨P.map (idP l),P.map (keyP l),P.map (lenP' l),T0,b⟩:=by
   have a1:(P.map (cdP l)).map (·.id)=P.map (idP l):=by rw [List.map_map];exact List.map_congr_left fun p hp=>cdP_id hr (hPm p hp)
   have a2:(P.map (cdP l)).map (·.key)=P.map (keyP l):=by rw [List.map_map];exact List.map_congr_left fun p hp=>cdP_key hr (hPm p hp)
   have a3:(P.map (cdP l)).map (fun c=>(c.w.length:Int))=P.map (lenP' l):=by rw [List.map_map];exact List.map_congr_left fun p hp=>cdP_w hr (hPm p hp)
   rw [hord,segOf,a1,a2,a3,← hT0];rfl
  rw [spec,hseg]
  refine ⟨Ends.grounds (H:=[]) (L:=[_,_,_,_,_]) 3 (ts:=[tseg ⟨P.map (idP l),P.map (keyP l),P.map (lenP' l),T0,b⟩,ttabs tb,.i 0]) ?_ ⟨rfl,rfl⟩⟩
  have g1:=fun h hb=>rowS_gr (l:=P.map (idP l)) (n:=0) (d:=1) (b:=1) (g:=1) (h:=h) hb (Nat.zero_le _)
  have g2:=fun h hb=>vI_gr (l:=P.map (keyP l)) (n:=0) (d:=1) (b:=2) (g:=1) (h:=h) hb (Nat.zero_le _)
  have g3:=fun h hb=>vI_gr (l:=P.map (lenP' l)) (n:=0) (d:=1) (b:=3) (g:=1) (h:=h) hb (Nat.zero_le _)
  simp only [List.length_map,hPl] at g1 g2 g3
  generalize hh:(_::_::_::_::_::[]:List Blk)=h
  have g1:=g1 h (by rw [← hh];rfl)
  have g2:=g2 h (by rw [← hh];rfl)
  have g3:=g3 h (by rw [← hh];rfl)
  show optL [(optL [gr 0 h 2 (.own 1 1 0 (manyN v)),gr 0 h 2 (.own 2 1 0 (manyN v)),gr 0 h 2 (.own 3 1 0 (manyN v)),gr 0 h 2 (.g (tterms T0)),gr 0 h 2 (.g (.b b))]).map T.ag,gr 0 h 3 (.g (ttabs tb)),gr 0 h 3 (.g (.i 0))]=_
  rw [g1,g2,g3,gr_g,gr_g,gr_g,gr_g]
  rfl
end Go.Aw
namespace Go.Aw
open Go.Proofs Go.Sort
set_option maxRecDepth 100000
set_option maxHeartbeats 1000000
end Go.Aw
namespace Go.Aw
open Go.Proofs Go.Sort
set_option maxRecDepth 100000
set_option maxHeartbeats 1000000
def fewT (x:Tm):Prop:=fewP x.p=true∧x.t.size≤40
instance (x:Tm):Decidable (fewT x):=by unfold fewT;exact inferInstance
def fewS (s:Sg):Prop:=s.ids.length≤70∧s.keys.length≤70∧s.lens.length≤70∧s.terms.length≤210∧(∀ x∈s.ids,x.size≤40)∧∀ x∈s.terms,fewT x
instance (s:Sg):Decidable (fewS s):=by unfold fewS;exact inferInstance
def few11 (l:List Sg) (v:List (List Bool)):Prop:=l.length≤6∧v.length≤6∧(∀ s∈l,fewS s)∧∀ x∈v,x.length≤70
instance (l:List Sg) (v:List (List Bool)):Decidable (few11 l v):=by unfold few11;exact inferInstance
end Go.Aw
namespace Go.Aw
open Go.Proofs Go.Sort
set_option maxRecDepth 100000
set_option maxHeartbeats 1000000
end Go.Aw
namespace Go.Aw
open Go.Proofs Go.Sort
set_option maxRecDepth 100000
set_option maxHeartbeats 1000000
def lcS (s:Sg) (x:List Bool):List Cd:=(liveD x x.length).map fun d=>(cardsS s).getD d noCd
theorem rightP_iff {l:List Sg} {v:List (List Bool)}:rightP l v↔l.length=v.length∧∀ p∈l.zip v,SgP p.1∧p.2.length=p.1.ids.length:=by
 constructor
 ·rintro ⟨h1,h2⟩
  refine ⟨h1,fun p hp=>?_⟩
  obtain ⟨i,hi,rfl⟩:=List.getElem_of_mem hp
  have hi1:i < l.length:=by simp at hi;omega
  have hi2:i < v.length:=by simp at hi;omega
  have:=h2 i hi1
  rw [getD_at _ hi1,getD_at _ hi2] at this
  simpa using this
 ·rintro ⟨h1,h2⟩
  refine ⟨h1,fun i hi=>?_⟩
  have hi2:i < v.length:=by omega
  rw [getD_at _ hi,getD_at _ hi2]
  exact h2 (l[i],v[i]) (List.mem_iff_getElem.2 ⟨i,by simp;omega,by simp⟩)
theorem wl_perm {a b:List ByteArray} (h:∀ x,x∈a↔x∈b):wlS a=wlS b :=
 srt_ext (fun _ _=>ltB_asy) (wl_srt _) (wl_srt _) fun x=>by rw [wl_mem,wl_mem,h]
theorem mem_w {o o':List Cd} (h:∀ c,c∈o↔c∈o') (x:ByteArray):x∈o.flatMap (·.w)↔x∈o'.flatMap (·.w):=by
 simp only [List.mem_flatMap,h]
theorem lc_may {s:Sg} (h:SgP s) {x:List Bool} (hx:x.length=s.ids.length):∀ c∈lcS s x,mayC c=true:=fun c hc=>by
 obtain ⟨d,hd,rfl⟩:=List.mem_map.1 hc
 rw [liveD,List.mem_filter] at hd
 have hr:rightP [s] [x]:=rightP_iff.2 ⟨rfl,fun p hp=>by simp at hp;subst hp;exact ⟨h,hx⟩⟩
 have:=cdP_fit (l:=[s]) (v:=[x]) hr (p:=(0,d)) (mem_left.2 ⟨by simp,by simpa using hd.1,hd.2⟩)
 exact this
theorem cards_ids {s:Sg} (h:SgP s):(cardsS s).map (·.id)=s.ids:=by have:=congrArg Sg.ids (seg_canon h);exact this
end Go.Aw
namespace Go.Aw
open Go.Proofs Go.Sort
set_option maxRecDepth 100000
set_option maxHeartbeats 1000000
theorem CV.gc {P:Program} {f:Nat} {ts:List T} {v:V} (c:CV P f ts v):GC P f (ts.map V.g) v :=
 ⟨c.ok,fun i a h=>by
  rw [List.getElem?_map] at h
  obtain ⟨x,_,rfl⟩:=Option.map_eq_some_iff.1 h
  exact .g,c.lt⟩
end Go.Aw
