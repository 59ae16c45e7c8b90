/- Contracts of functions of the given program, by the abstract walk, for law StatReckons: what each one hands back; no condition but those that each theorem states. -/
import Derived.Test.YtocdciahhlbknaaGreatC19
import Derived.Test.YtocdciahhlbknaaGreatP2
namespace Go.Aw
open Go.Proofs Go.Sort Go.RowKit Go.Shelf
set_option maxRecDepth 100000
set_option maxHeartbeats 4000000
theorem vN (l:List Nat):vI (ofN l)=l.map fun (i:Nat)=>V.g (.i i):=by rw [vI,ofN,List.map_map];rfl
theorem c_SortFunc_nums {ks:List Int} {ds:List ByteArray} (hd:ds.length=ks.length) (hl:ks.length < 1000000000) {H:List Blk} {b g0 b1 g1 b2 g2:Nat} (hb:H[b]?=some (.arr g0 1 (vI (ofN (List.range ks.length)))))
  (h1:H[b1]?=some (.arr g1 1 [.g (tints ks)])) (h2:H[b2]?=some (.arr g2 1 [.g (tstrs ds)])) (hb1:b≠b1) (hb2:b≠b2) :
  ACalls Tryz.prog 248 [.own b g0 0 ks.length,.fn 247 [.pa b1 g1 0 0,.pa b2 g2 0 0]] H (fun r h'=>r=.tu []∧h'=H.set b (.arr g0 1 (vI (ofN (ordN ks ds))))):=by
 have eg:∀ args w,(callFunc 247 args).run Tryz.prog w=.ok (.enter 247 args) w:=enters_of Tryz.func247 (by kernel_rfl) rfl
 have e1:(ks.map (Value.int .i64)).length=ks.length:=by simp
 have t1:tints ks=.sl 1 ((ks.map (Value.int .i64)).map T.sc):=by rw [List.map_map];rfl
 have t2:tstrs ds=.sl 1 ((ds.map Value.string).map T.sc):=by rw [List.map_map];rfl
 rw [t1] at h1
 rw [t2] at h2
 rw [vN] at hb
 have key:=sortN_ok (H:=H) Tryz.sortN Tryz.sortN0 (f:=248) rfl rfl k_slices_SortFunc_Lint_int.callOk (g:=247) eg (ks:=ks.map (Value.int .i64)) (ds:=ds.map Value.string) (swo_3 ks ds) (by simp [hd]) (closure_ord3 ks ds hd hl)
  (b:=b) (g0:=g0) (b1:=b1) (g1:=g1) (b2:=b2) (g2:=g2) (by rw [e1];omega) (by rw [e1];exact hb) h1 h2 hb1 hb2
 rw [e1] at key
 refine key.mono ?_
 rintro r h ⟨rfl,p,hp,hs,rfl⟩
 have hlt:∀ x∈p,x < ks.length:=fun x hx=>by simpa using hp.mem_iff.1 hx
 have:p=ordN ks ds:=ordN_uniq hp (hs.imp_of_mem fun {a b} ha hb h e=>h (by
  rw [ltOf,decide_eq_true_eq,if_pos (hlt _ ha),if_pos (hlt _ hb),cmp3_lt];exact e))
 subst this
 exact ⟨rfl,by rw [vN]⟩
theorem c_remap_Order (ks:List Int) (ds:List ByteArray) (hd:ds.length=ks.length) (hl:ks.length≤1100):CG Tryz.prog 205 [tints ks,tstrs ds] (tints (ofN (ordN ks ds))):=by
 refine ⟨k_remap_Order.calls ?_⟩
 have hm1:(ks.map T.i).length=ks.length:=by simp
 have hm2:(ds.map T.s).length=ks.length:=by simp [hd]
 have hol:(ofN (ordN ks ds)).length=ks.length:=by have:=(ordN_perm (ks:=ks) (ds:=ds)).length_eq;simpa [ofN] using this
 (try conv=>whnf);repeat ((first|refine ⟨rfl,_,rfl,?_⟩|refine ⟨⟨rfl,rfl⟩,?_⟩|refine Br.dec (fun hh=>absurd hh (by omega)) (fun _=>?_)|refine Br.ne (fun hh=>absurd hh (by omega)) (fun _=>?_));conv=>whnf)
 refine SW.loopR (α:=Nat) (fun k=>tm 35 [(2,.pa 0 0 0 0),(3,.pa 1 0 0 0),(5,.own 2 k 0 k),(18,.g (tints ks)),(19,.g (.i ks.length)),(20,.g (.i k))])
  (fun k=>[.arr 0 1 [.g (tints ks)],.arr 0 1 [.g (tstrs ds)],.arr k 1 (vI (ofN (List.range k)))]) (fun k=>k≤ks.length) (fun k=>ks.length-k) 0 ?_ ?_ ?_
 ·exact Nat.zero_le _
 ·refine (Refi.valloc 5 1 rfl).trans (Refi.sub ?_ ?_)
  ·simp [vI,ofN,addB_eq,tints,tstrs]
  ·simp [subT,subV,tm,tmGo,tints,setT]
 ·intro k hk
  dsimp only at hk ⊢
  conv=>whnf
  refine Br.dec (fun h=>?_) (fun h=>?_)
  ·have hk':k < ks.length:=by omega
   have htl:(vI (ofN (List.range k))).length=k:=by simp [vI,ofN]
   (try conv=>whnf);repeat ((first|refine ⟨by simp;omega,⟨rfl,rfl,rfl⟩,_,⟨[],(List.append_nil _).symm⟩,by simp [htl],?_⟩|refine And.intro (show cellsAll _ _ from by repeat (first|exact trivial|refine ⟨⟨rfl,rfl⟩,?_⟩)) ?_|refine ⟨rfl,?_⟩|refine ⟨in64 (by omega) (by omega),?_⟩);conv=>whnf)
   refine ⟨⟨k+1,hk',by omega,Refi.sub ?_ (by simp [subT,subV,tm,tmGo])⟩⟩
   have:vI (ofN (List.range (k+1)))=vI (ofN (List.range k))++[V.g (.i k)]:=by rw [List.range_succ,ofN,List.map_append,vI,List.map_append];rfl
   rw [this];rfl
  ·have:k=ks.length:=by omega
   subst this
   (try conv=>whnf);repeat ((first|refine ⟨rfl,_,rfl,⟨rfl,rfl,by decide⟩,?_⟩|refine ⟨rfl,_,rfl,?_⟩|refine ⟨rfl,?_⟩);conv=>whnf)
   refine (c_SortFunc_nums (H:=[.arr 0 1 [.g (tints ks)],.arr 0 1 [.g (tstrs ds)],.arr ks.length 1 (vI (ofN (List.range ks.length))),_]) (b:=2) (b1:=0) (b2:=1) hd (by omega) rfl rfl rfl (by decide) (by decide)).mono ?_
   rintro r h ⟨rfl,rfl⟩
   try conv=>whnf
   refine ⟨Ends.ground (H:=[]) (L:=[_,_,_,_]) (t:=tints (ofN (ordN ks ds))) 1 ?_ ⟨rfl,rfl⟩⟩
   have:=vI_gr (l:=ofN (ordN ks ds)) (n:=0) (d:=0) (b:=2) (g:=ks.length) (h:=[.arr 0 1 [.g (tints ks)],.arr 0 1 [.g (tstrs ds)],.arr ks.length 1 (vI (ofN (ordN ks ds))),.arr 0 1 [.ag [.fn 247 [.pa 0 0 0 0,.pa 1 0 0 0]]]]) rfl (Nat.zero_le _)
   rw [hol] at this
   exact this
end Go.Aw
namespace Go.Aw
open Go.Proofs Go.Sort
set_option maxRecDepth 100000
set_option maxHeartbeats 4000000
def ttabs (t:List (List Int)):T:=.sl 1 (t.map tints)
def vT (t:List (List Int)):List V:=t.map fun x=>V.g (tints x)
def tabs0 (v:List (List Bool)) (k:Nat):List (List Int):=(List.range k).map fun i=>tabS (v.getD i []) (leftN v i).length
def turnL (l:List Sg) (v:List (List Bool)):List Int:=turnP (ordN ((leftP v).map (keyP l)) ((leftP v).map (idP l)))
def tabsS (l:List Sg) (v:List (List Bool)) (b:Bool):List (List Int):=if b=true then (tabs0 v v.length).map fun t=>t.map (thenV (turnL l v)) else tabs0 v v.length
theorem leftN_many {v:List (List Bool)} {k:Nat} (hk:k≤v.length):(leftN v k).length≤manyN v:=by
 rw [leftN_len hk]
 have:manyN v=manyN (v.take k)+manyN (v.drop k):=by
  rw [manyN,manyN,manyN,← List.sum_append,← List.map_append,List.take_append_drop]
 omega
theorem vT_gr {t:List (List Int)} {n d b g:Nat} {h:List Blk} (hb:h[b]?=some (.arr g 1 (vT t))) (hn:n≤b):gr n h (d+1) (.own b g 0 t.length)=some (ttabs t) :=
 gr_own (f:=fun x=>V.g (tints x)) (e:=tints) hb hn rfl fun _ _=>gr_g
theorem rowS_gr {l:List ByteArray} {n d b g:Nat} {h:List Blk} (hb:h[b]?=some (.arr g 1 (rowS l))) (hn:n≤b):gr n h (d+1) (.own b g 0 l.length)=some (tstrs l) :=
 gr_own (f:=fun x=>V.g (.s x)) (e:=T.s) hb hn rfl fun _ _=>gr_g
theorem c_merge_tables (l:List Sg) (v:List (List Bool)) (b:Bool) (hb:bndM l v) (hr:rightP l v) (hn:manyN v≤64):CG Tryz.prog 145 [tsegs l,tlive v,.b b] (ttabs (tabsS l v b)):=by
 refine ⟨k_merge_tables.calls ?_⟩
 obtain ⟨h1,h2,h3,h4⟩:=hb
 obtain ⟨r1,r2⟩:=id hr
 have hma:(l.map tseg).length=l.length:=by simp
 try conv=>whnf
 refine SW.loopR (α:=Nat) (fun k=>tm 83 [(1,livs v),(2,.g (.b b)),(7,.own 1 (leftN v k).length 0 (leftN v k).length),(8,.own 2 (leftN v k).length 0 (leftN v k).length),(9,.own 0 k 0 k),(17,segs l),(18,.g (.i l.length)),(19,.g (.i k))])
  (fun k=>[.arr k 1 (vT (tabs0 v k)),.arr (leftN v k).length 1 (vI ((leftN v k).map (keyP l))),.arr (leftN v k).length 1 (rowS ((leftN v k).map (idP l)))]) (fun k=>k≤l.length) (fun k=>l.length-k) 0 ?_ ?_ ?_
 ·exact Nat.zero_le _
 ·refine (Refi.valloc 9 1 rfl).trans ((Refi.valloc 7 1 rfl).trans ((Refi.valloc 8 1 rfl).trans (Refi.sub ?_ ?_)))
  ·simp [leftN,tabs0,vT,vI,rowS,addB_eq]
  ·simp [subT,subV,tm,tmGo,tsegs,tlive,setT,leftN,addB_eq]
 ·intro k hk
  dsimp only at hk ⊢
  conv=>whnf
  refine Br.dec (fun h=>?_) (fun h=>?_)
  ·have hk':k < l.length:=by omega
   have hkv:k < v.length:=by omega
   obtain ⟨q1,q2⟩:=r2 k hk'
   rw [getD_at _ hk'] at q1 q2
   rw [getD_at _ hkv] at q2
   have hid:=q1.1
   have hll:=leftN_many (v:=v) (k:=k) (by omega)
   have hl2:=leftN_many (v:=v) (k:=k+1) (by omega)
   have hm2:(l[k].ids.map T.s).length=l[k].ids.length:=by simp
   have hm1:(v[k].map T.b).length=l[k].ids.length:=by simp [q2]
   have hmk:(l[k].keys.map T.i).length=l[k].ids.length:=by simp [q1.2.1]
   have htl:(vT (tabs0 v k)).length=k:=by simp [vT,tabs0]
   have hts:vT (tabs0 v (k+1))=vT (tabs0 v k)++[V.g (tints (tabS v[k] (leftN v k).length))]:=by
    rw [tabs0,List.range_succ,List.map_append,vT,List.map_append]
    simp [vT,tabs0,hkv]
   obtain ⟨m,hm⟩:∃ m,(leftN v k).length=m:=⟨_,rfl⟩
   have hcm:=c_remap_Table v[k] m (by omega) (by omega)
   rw [hm] at hts ⊢
   (try conv=>whnf);repeat ((first|refine ⟨by simp;omega,⟨rfl,rfl,rfl⟩,_,⟨[],(List.append_nil _).symm⟩,by simp [htl],?_⟩|refine (hcm).go rfl ?_|refine And.intro (show cellsAll _ _ from by repeat (first|exact trivial|refine ⟨⟨rfl,rfl⟩,?_⟩)) ?_|refine ⟨_,getZ (by omega),?_⟩|refine ⟨by omega,rfl,?_⟩|refine ⟨by (simp;omega),rfl,?_⟩|refine ⟨rfl,_,rfl,⟨rfl,rfl,by decide⟩,?_⟩|refine ⟨rfl,_,rfl,?_⟩|refine ⟨rfl,?_⟩);conv=>whnf)
   refine SW.loopR (α:=Nat) (fun j=>tm 83 [(1,livs v),(2,.g (.b b)),(7,.own 1 (m+(liveD v[k] j).length) 0 (m+(liveD v[k] j).length)),(8,.own 2 (m+(liveD v[k] j).length) 0 (m+(liveD v[k] j).length)),(9,.own 0 (k+1) 0 (k+1)),(10,.g (.i k)),(11,.pa 3 0 0 0),(17,segs l),(18,.g (.i l.length)),(19,.g (.i k)),(35,strs l[k].ids),(36,.g (.i l[k].ids.length)),(37,.g (.i j))])
    (fun j=>[.arr (k+1) 1 (vT (tabs0 v (k+1))),.arr (m+(liveD v[k] j).length) 1 (vI ((leftN v k++(liveD v[k] j).map fun d=>(k,d)).map (keyP l))),.arr (m+(liveD v[k] j).length) 1 (rowS ((leftN v k++(liveD v[k] j).map fun d=>(k,d)).map (idP l))),.arr 0 5 [.g (tseg l[k])]])
    (fun j=>j≤l[k].ids.length) (fun j=>l[k].ids.length-j) 0 ?_ ?_ ?_
   ·exact Nat.zero_le _
   ·exact Refi.sub (by simp [liveD,hts];exact ⟨rfl,rfl⟩) (by simp [subT,subV,tm,tmGo,strs,liveD])
   ·intro j hj
    dsimp only at hj ⊢
    have hll2:=liveD_le (x:=v[k]) (j:=j)
    conv=>whnf
    refine Br.dec (fun h=>?_) (fun h=>?_)
    ·have hj':j < l[k].ids.length:=by omega
     have hjv:j < v[k].length:=by omega
     have hjk:j < l[k].keys.length:=by have:=q1.2.1;omega
     have hs:=liveD_succ (x:=v[k]) (j:=j) hjv
     have hle:((leftN v k++(liveD v[k] j).map fun d=>(k,d)).map (keyP l)).length=m+(liveD v[k] j).length:=by simp [hm]
     have hle2:((leftN v k++(liveD v[k] j).map fun d=>(k,d)).map (idP l)).length=m+(liveD v[k] j).length:=by simp [hm]
     have hk2:keyP l (k,j)=l[k].keys[j]:=by rw [keyP,getD_at _ hk',getD_at _ hjk]
     have hi2:idP l (k,j)=l[k].ids[j]:=by rw [idP,getD_at _ hk',getD_at _ hj']
     have hP:leftN v k++(liveD v[k] j++[j]).map (fun d=>(k,d))=(leftN v k++(liveD v[k] j).map fun d=>(k,d))++[(k,j)]:=by simp
     generalize hP0:leftN v k++(liveD v[k] j).map (fun d=>(k,d))=P at hle hle2 hP ⊢
     have e1:vI ((P++[(k,j)]).map (keyP l))=vI (P.map (keyP l))++[V.g (.i l[k].keys[j])]:=by simp [vI,hk2]
     have e2:rowS ((P++[(k,j)]).map (idP l))=rowS (P.map (idP l))++[V.g (.s l[k].ids[j])]:=by simp [rowS,hi2]
     have f1:(vI (P.map (keyP l))).length=m+(liveD v[k] j).length:=by rw [vI,List.length_map];exact hle
     have f2:(rowS (P.map (idP l))).length=m+(liveD v[k] j).length:=by rw [rowS,List.length_map];exact hle2
     (try conv=>whnf);repeat ((first|refine ⟨_,getZ (by omega),?_⟩|refine ⟨by omega,rfl,?_⟩|refine ⟨by (simp;omega),rfl,?_⟩);conv=>whnf)
     refine Br.intro (fun e=>?_) (fun e=>?_)
     ·rw [e,if_pos rfl] at hs
      have hsl:(liveD v[k] (j+1)).length=(liveD v[k] j).length+1:=by rw [hs];simp
      (try conv=>whnf);repeat ((first|refine ⟨by simp;omega,⟨rfl,rfl,rfl⟩,_,⟨[],(List.append_nil _).symm⟩,by simp only [f1,f2],?_⟩|refine And.intro (show cellsAll _ _ from by repeat (first|exact trivial|refine ⟨⟨rfl,rfl⟩,?_⟩)) ?_|refine ⟨_,getZ (by omega),?_⟩|refine ⟨by omega,rfl,?_⟩|refine ⟨rfl,_,rfl,?_⟩|refine ⟨rfl,?_⟩|refine ⟨in64 (by omega) (by omega),?_⟩);conv=>whnf)
      refine ⟨⟨j+1,hj',by omega,Refi.sub ?_ ?_⟩⟩
      ·rw [hsl,hs,hP,e1,e2];rfl
      ·rw [hsl];simp [subT,subV,tm,tmGo,strs,Nat.add_assoc]
     ·rw [e,if_neg (by simp),List.append_nil] at hs
      (try conv=>whnf);repeat ((first|refine ⟨in64 (by omega) (by omega),?_⟩);conv=>whnf)
      exact ⟨⟨j+1,hj',by omega,Refi.sub (by rw [hs,hP0]) (by rw [hs];simp [subT,subV,tm,tmGo,strs])⟩⟩
    ·have:j=l[k].ids.length:=by omega
     subst this
     have hN:leftN v (k+1)=leftN v k++(liveD v[k] l[k].ids.length).map fun d=>(k,d):=by rw [leftN_succ,getD_at _ hkv,q2]
     have hNl:(leftN v (k+1)).length=m+(liveD v[k] l[k].ids.length).length:=by rw [hN];simp [hm]
     rw [← hN]
     (try conv=>whnf);repeat ((first|refine ⟨in64 (by omega) (by omega),?_⟩);conv=>whnf)
     refine ⟨⟨k+1,hk',by omega,Refi.back (H':=[.arr (k+1) 1 (vT (tabs0 v (k+1))),.arr (leftN v (k+1)).length 1 (vI ((leftN v (k+1)).map (keyP l))),.arr (leftN v (k+1)).length 1 (rowS ((leftN v (k+1)).map (idP l)))]) (L:=[_]) (by rw [hNl];rfl) (Nat.zero_le _) ?_ (by rw [hNl];simp [subT,subV,tm,tmGo,cutV,ltB,ltS])⟩⟩
     intro y hy
     simp only [List.mem_cons,List.not_mem_nil,or_false] at hy
     rcases hy with rfl|rfl|rfl <;> exact Blk.lt_g
  ·have:k=l.length:=by omega
   subst this
   rw [r1]
   have hlp:leftN v v.length=leftP v:=rfl
   have hml:=leftP_len (v:=v)
   rw [hlp]
   have hks:((leftP v).map (keyP l)).length=(leftP v).length:=by simp
   have hds:((leftP v).map (idP l)).length=(leftP v).length:=by simp
   have htl:(tabs0 v v.length).length=v.length:=by simp [tabs0]
   have fin:∀ (t:List (List Int)) (A B:Blk),t.length=v.length→gr 0 [.arr v.length 1 (vT t),A,B] 1 (.own 0 v.length 0 v.length)=some (ttabs t):=fun t A B e=>by
    have:=vT_gr (t:=t) (n:=0) (d:=0) (b:=0) (g:=v.length) (h:=[.arr v.length 1 (vT t),A,B]) rfl (Nat.zero_le _)
    rw [e] at this;exact this
   cases b with
   | false =>
    try conv=>whnf
    refine ⟨Ends.ground (H:=[]) (L:=[_,_,_]) (t:=ttabs (tabs0 v v.length)) 1 (fin _ _ _ htl) ⟨rfl,rfl⟩⟩
   | true =>
    have co:=c_remap_Order ((leftP v).map (keyP l)) ((leftP v).map (idP l)) (by simp) (by rw [hks];omega)
    have hpl:(ordN ((leftP v).map (keyP l)) ((leftP v).map (idP l))).length=(leftP v).length:=by have:=(ordN_perm (ks:=(leftP v).map (keyP l)) (ds:=(leftP v).map (idP l))).length_eq;simpa using this
    have ct:=c_remap_Turn (ordN ((leftP v).map (keyP l)) ((leftP v).map (idP l))) (by have:=ordN_perm (ks:=(leftP v).map (keyP l)) (ds:=(leftP v).map (idP l));rwa [hks,← hpl] at this) (by omega)
    have hgr:optL ([V.own 1 (leftP v).length 0 (leftP v).length,V.own 2 (leftP v).length 0 (leftP v).length].map (gr 1 [.arr v.length 1 (vT (tabs0 v v.length)),.arr (leftP v).length 1 (vI ((leftP v).map (keyP l))),.arr (leftP v).length 1 (rowS ((leftP v).map (idP l)))] 2))=some [tints ((leftP v).map (keyP l)),tstrs ((leftP v).map (idP l))]:=by
     have g1:=vI_gr (l:=(leftP v).map (keyP l)) (n:=1) (d:=1) (b:=1) (g:=(leftP v).length) (h:=[.arr v.length 1 (vT (tabs0 v v.length)),.arr (leftP v).length 1 (vI ((leftP v).map (keyP l))),.arr (leftP v).length 1 (rowS ((leftP v).map (idP l)))]) rfl (Nat.le_refl _)
     have g2:=rowS_gr (l:=(leftP v).map (idP l)) (n:=1) (d:=1) (b:=2) (g:=(leftP v).length) (h:=[.arr v.length 1 (vT (tabs0 v v.length)),.arr (leftP v).length 1 (vI ((leftP v).map (keyP l))),.arr (leftP v).length 1 (rowS ((leftP v).map (idP l)))]) rfl (by omega)
     rw [hks] at g1
     rw [hds] at g2
     simp only [List.map_cons,List.map_nil,g1,g2,optL]
    try conv=>whnf
    refine CG.give co 1 2 (noMp_cons (noMp_cons (noMp_cons noMp_nil))) hgr ?_
    (try conv=>whnf);repeat ((first|refine (ct).go rfl ?_);conv=>whnf)
    refine SW.loopR (α:=Nat) (fun i=>tm 83 [(9,.own 0 v.length 0 v.length),(14,.g (tints (turnL l v))),(68,.own 0 v.length 0 v.length),(69,.g (.i v.length)),(70,.g (.i i))])
     (fun i=>[.arr v.length 1 (vT (((tabs0 v v.length).take i).map (fun t=>t.map (thenV (turnL l v)))++(tabs0 v v.length).drop i)),.arr ((leftP v).length+1) 1 [],.arr ((leftP v).length+1) 1 []]) (fun i=>i≤v.length) (fun i=>v.length-i) 0 ?_ ?_ ?_
    ·exact Nat.zero_le _
    ·exact Refi.sub (by simp;exact ⟨rfl,rfl⟩) (by simp [subT,subV,tm,tmGo,turnL];rfl)
    ·intro i hi
     dsimp only at hi ⊢
     conv=>whnf
     refine Br.dec (fun h=>?_) (fun h=>?_)
     ·have hi':i < v.length:=by omega
      have hit:i < (tabs0 v v.length).length:=by omega
      have hti:(tabs0 v v.length)[i].length < 1000000000:=by
       have:=h4 _ (List.getElem_mem hi')
       simp only [tabs0,List.getElem_map,List.getElem_range,tabS,tabK,List.length_map,List.length_range,getD_at _ hi']
       omega
      have cth:=c_remap_Then (tabs0 v v.length)[i] (turnL l v) hti
      have hnx:((tabs0 v v.length).take (i+1)).map (fun t=>t.map (thenV (turnL l v)))=((tabs0 v v.length).take i).map (fun t=>t.map (thenV (turnL l v)))++[(tabs0 v v.length)[i].map (thenV (turnL l v))]:=by
       rw [List.take_succ_eq_append_getElem hit,List.map_append];rfl
      have hal:(((tabs0 v v.length).take i).map (fun t=>t.map (thenV (turnL l v)))).length=i:=by simp;omega
      rw [List.drop_eq_getElem_cons hit]
      generalize (tabs0 v v.length)[i]=x at *
      have hg:(vT (((tabs0 v v.length).take i).map (fun t=>t.map (thenV (turnL l v)))++x::(tabs0 v v.length).drop (i+1)))[0+(i:Int).toNat]?=some (V.g (tints x)):=by
       rw [Nat.zero_add,Int.toNat_natCast,vT,List.getElem?_map,List.getElem?_append_right (by omega),hal];simp
      have hs:∀ z:List Int,(vT (((tabs0 v v.length).take i).map (fun t=>t.map (thenV (turnL l v)))++x::(tabs0 v v.length).drop (i+1))).set (0+(i:Int).toNat) (storeV (V.g (tints x)) 0 (V.g (T.sl 1 (z.map T.i))))=vT (((tabs0 v v.length).take i).map (fun t=>t.map (thenV (turnL l v)))++z::(tabs0 v v.length).drop (i+1)):=fun z=>by
       rw [show storeV (V.g (tints x)) 0 (V.g (T.sl 1 (z.map T.i)))=V.g (tints z) from rfl,Nat.zero_add,Int.toNat_natCast,vT,vT,List.map_append,List.map_append,List.set_append_right _ _ (by simp;omega)]
       have:i-(List.map (fun x=>V.g (tints x)) (((tabs0 v v.length).take i).map (fun t=>t.map (thenV (turnL l v))))).length=0:=by rw [List.length_map,hal];omega
       rw [this];rfl
      (try conv=>whnf);repeat ((first|refine ⟨_,hg,?_⟩|refine (cth).go rfl ?_|refine ⟨⟨rfl,rfl,by decide⟩,?_⟩|refine ⟨rfl,?_⟩|refine ⟨⟨by omega,by omega⟩,⟨rfl,rfl⟩,?_⟩|refine ⟨in64 (by omega) (by omega),?_⟩);conv=>whnf)
      exact ⟨⟨i+1,hi',by omega,Refi.sub (by rw [hnx,List.append_assoc,hs];rfl) (by simp [subT,subV,tm,tmGo])⟩⟩
     ·have:i=v.length:=by omega
      subst this
      have e1:(tabs0 v v.length).take v.length=tabs0 v v.length:=by rw [List.take_of_length_le (by omega)]
      have e2:(tabs0 v v.length).drop v.length=[]:=List.drop_eq_nil_of_le (by omega)
      rw [e1,e2,List.append_nil]
      try conv=>whnf
      have e3:((tabs0 v v.length).map fun t=>t.map (thenV (turnL l v))).length=v.length:=by rw [List.length_map];exact htl
      exact ⟨Ends.ground (H:=[]) (L:=[_,_,_]) (t:=ttabs (tabsS l v true)) 1 (fin _ _ _ e3) ⟨rfl,rfl⟩⟩
end Go.Aw
namespace Go.Aw
open Go.Proofs Go.Sort
set_option maxRecDepth 100000
set_option maxHeartbeats 4000000
def tstr (s:Sg) (to:List Int) (a n:Nat):T:=.ag [.sl 1 (s.ids.map T.s),.sl 1 (s.keys.map T.i),.sl 1 (s.lens.map T.i),.sl 2 (s.terms.map tterm),.b s.sorted,.sl 1 (to.map T.i),.i a,.i n]
abbrev strB (s:Sg) (to:List Int) (a n:Nat):Blk:=.arr 0 8 [.g (tstr s to a n)]
def lessS (x y:ByteArray) (i j:Nat):Bool:=ltB' x y || (decide (x=y) && decide (i < j))
theorem c_merge_less (s1 s2:Sg) (t1 t2:List Int) (a1 a2 n1 n2:Nat) (h1:a1 < s1.terms.length) (h2:a2 < s2.terms.length) :
  ACalls Tryz.prog 207 [.pa 0 0 0 0,.pa 1 0 0 0] [strB s1 t1 a1 n1,strB s2 t2 a2 n2] (fun r h=>r=.g (.b (lessS s1.terms[a1].t s2.terms[a2].t n1 n2))∧h=[strB s1 t1 a1 n1,strB s2 t2 a2 n2]):=by
 refine k_merge_less.calls ?_
 have hm1:(s1.terms.map tterm).length=s1.terms.length:=by simp
 have hm2:(s2.terms.map tterm).length=s2.terms.length:=by simp
 unfold strB tstr
 (try conv=>whnf);repeat ((first|refine ⟨_,getZ (by omega),?_⟩|refine ⟨by omega,rfl,?_⟩|refine ⟨rfl,_,rfl,?_⟩);conv=>whnf)
 rw [bl_lt]
 refine Br.intro (fun e=>?_) (fun e=>?_)
 ·try conv=>whnf
  exact ⟨Ends.keep ⟨by rw [lessS,e];rfl,rfl⟩⟩
 ·try conv=>whnf
  rw [bl_beq]
  refine Br.intro (fun e2=>?_) (fun e2=>?_)
  ·(try conv=>whnf);repeat ((first|refine ⟨rfl,_,rfl,?_⟩);conv=>whnf)
   have e3:decide ((n1:Int) < (n2:Int))=decide (n1 < n2):=decide_eq_decide.2 (by omega)
   exact ⟨Ends.keep ⟨by rw [lessS,e,e2,← e3];rfl,rfl⟩⟩
  ·try conv=>whnf
   exact ⟨Ends.keep ⟨by rw [lessS,e,e2];rfl,rfl⟩⟩
def plcT (to:List Int) (p:Po):Option Po:=if 0≤to.getD p.1.toNat (-1) then some (to.getD p.1.toNat (-1),p.2) else none
def plS (to:List Int) (l:List Po):List Po:=l.filterMap (plcT to)
theorem c_merge_places (s:Sg) (to:List Int) (a n:Nat) (h1:a < s.terms.length) (_hl:s.terms.length < 1000000000) (ht:to.length < 1000000000) (hp:s.terms[a].p.length < 1000000000) (hq:∀ p∈s.terms[a].p,p.2.length < 1000000000) (hd:∀ p∈s.terms[a].p,0≤p.1∧p.1 < to.length) :
  ACalls Tryz.prog 210 [.pa 0 0 0 0] [strB s to a n] (fun r h=>r=.own 1 (plS to s.terms[a].p).length 0 (plS to s.terms[a].p).length∧h=[strB s to a n,.arr (plS to s.terms[a].p).length 2 (vposts (plS to s.terms[a].p))]):=by
 refine k_merge_stream_places.calls ?_
 have hm1:(s.terms.map tterm).length=s.terms.length:=by simp
 have hm2:(s.terms[a].p.map tpost).length=s.terms[a].p.length:=by simp
 unfold strB
 rw [show tstr s to a n=.ag [.sl 1 (s.ids.map T.s),.sl 1 (s.keys.map T.i),.sl 1 (s.lens.map T.i),.sl 2 (s.terms.map tterm),.b s.sorted,.sl 1 (to.map T.i),.i a,.i n] from rfl]
 (try conv=>whnf);repeat ((first|refine ⟨_,getZ (by omega),?_⟩|refine ⟨by omega,rfl,?_⟩|refine ⟨rfl,_,rfl,?_⟩);conv=>whnf)
 refine SW.loopR (α:=Nat) (fun k=>tm 49 [(0,.pa 0 0 0 0),(3,.own 1 (plS to (s.terms[a].p.take k)).length 0 (plS to (s.terms[a].p.take k)).length),(17,posts s.terms[a].p),(18,.g (.i s.terms[a].p.length)),(19,.g (.i k))])
  (fun k=>[strB s to a n,.arr (plS to (s.terms[a].p.take k)).length 2 (vposts (plS to (s.terms[a].p.take k)))]) (fun k=>k≤s.terms[a].p.length) (fun k=>s.terms[a].p.length-k) 0 ?_ ?_ ?_
 ·exact Nat.zero_le _
 ·refine (Refi.valloc 3 2 rfl).trans (Refi.sub ?_ ?_)
  ·simp [plS,vposts,addB_eq];rfl
  ·simp [subT,subV,tm,tmGo,posts,setT,plS]
 ·intro k hk
  dsimp only at hk ⊢
  unfold strB
  rw [show tstr s to a n=.ag [.sl 1 (s.ids.map T.s),.sl 1 (s.keys.map T.i),.sl 1 (s.lens.map T.i),.sl 2 (s.terms.map tterm),.b s.sorted,.sl 1 (to.map T.i),.i a,.i n] from rfl]
  have hle:(plS to (s.terms[a].p.take k)).length≤k:=Nat.le_trans (List.length_filterMap_le _ _) (by simp;omega)
  conv=>whnf
  refine Br.dec (fun h=>?_) (fun h=>?_)
  ·have hk':k < s.terms[a].p.length:=by omega
   obtain ⟨d1,d2⟩:=hd _ (List.getElem_mem hk')
   have hqk:=hq _ (List.getElem_mem hk')
   have hto:(to.map T.i).length=to.length:=by simp
   have hdn:s.terms[a].p[k].1.toNat < to.length:=by omega
   have hge:to.getD s.terms[a].p[k].1.toNat (-1)=to[s.terms[a].p[k].1.toNat]:=getD_at _ hdn
   have hpl:plcT to s.terms[a].p[k]=if 0≤to[s.terms[a].p[k].1.toNat] then some (to[s.terms[a].p[k].1.toNat],s.terms[a].p[k].2) else none:=by rw [plcT,hge]
   have htk:s.terms[a].p.take (k+1)=s.terms[a].p.take k++[s.terms[a].p[k]]:=List.take_succ_eq_append_getElem hk'
   have hcl:=c_slices_Clone_Lint_int s.terms[a].p[k].2 hqk
   have hvl:(vposts (plS to (s.terms[a].p.take k))).length=(plS to (s.terms[a].p.take k)).length:=by simp [vposts]
   (try conv=>whnf);repeat ((first|refine ⟨_,getZ (by omega),?_⟩|refine ⟨_,getI (by omega) (by omega),?_⟩|refine ⟨by omega,rfl,?_⟩|refine ⟨rfl,_,rfl,⟨rfl,rfl,by decide⟩,?_⟩|refine ⟨rfl,_,rfl,?_⟩|refine ⟨rfl,?_⟩);conv=>whnf)
   refine Br.dec (fun h2=>?_) (fun h2=>?_)
   ·have e:plS to (s.terms[a].p.take (k+1))=plS to (s.terms[a].p.take k)++[(to[s.terms[a].p[k].1.toNat],s.terms[a].p[k].2)]:=by
     rw [htk,plS,List.filterMap_append]
     simp only [List.filterMap_cons,List.filterMap_nil,hpl,if_pos h2]
     rfl
    (try conv=>whnf);repeat ((first|refine ⟨_,hcl.go rfl ⟨rfl,rfl⟩,?_⟩|refine ⟨by simp;omega,⟨rfl,rfl,rfl⟩,_,⟨[],(List.append_nil _).symm⟩,by simp [hvl],?_⟩|refine And.intro (show cellsAll _ _ from by repeat (first|exact trivial|refine ⟨⟨rfl,rfl⟩,?_⟩)) ?_|refine ⟨_,getI (by omega) (by omega),?_⟩|refine ⟨by omega,rfl,?_⟩|refine ⟨rfl,_,rfl,?_⟩|refine ⟨rfl,?_⟩|refine ⟨in64 (by omega) (by omega),?_⟩);conv=>whnf)
    refine ⟨⟨k+1,hk',by omega,Refi.back (H':=[strB s to a n,.arr (plS to (s.terms[a].p.take (k+1))).length 2 (vposts (plS to (s.terms[a].p.take (k+1))))]) (L:=[.arr 0 2 [.g (tpost s.terms[a].p[k])]]) ?_ (by simp) ?_ ?_⟩⟩
    ·rw [e];simp [vposts];repeat (first|rfl|refine ⟨rfl,?_⟩)
    ·intro y hy
     simp only [List.mem_cons,List.not_mem_nil,or_false] at hy
     rcases hy with rfl|rfl
     ·exact Blk.lt_g1
     ·exact Blk.lt_g
    ·rw [e];simp [subT,subV,tm,tmGo,posts,cutV,ltB,ltS]
   ·have e:plS to (s.terms[a].p.take (k+1))=plS to (s.terms[a].p.take k):=by
     rw [htk,plS,List.filterMap_append]
     simp only [List.filterMap_cons,List.filterMap_nil,hpl,if_neg (show ¬ 0≤to[s.terms[a].p[k].1.toNat] by omega),List.append_nil]
     rfl
    (try conv=>whnf);repeat ((first|refine ⟨in64 (by omega) (by omega),?_⟩);conv=>whnf)
    refine ⟨⟨k+1,hk',by omega,Refi.back (H':=[strB s to a n,.arr (plS to (s.terms[a].p.take (k+1))).length 2 (vposts (plS to (s.terms[a].p.take (k+1))))]) (L:=[_]) (by rw [e];rfl) (by simp) ?_ (by rw [e];simp [subT,subV,tm,tmGo,posts,cutV,ltB,ltS])⟩⟩
    intro y hy
    simp only [List.mem_cons,List.not_mem_nil,or_false] at hy
    rcases hy with rfl|rfl
    ·exact Blk.lt_g1
    ·exact Blk.lt_g
  ·have:k=s.terms[a].p.length:=by omega
   subst this
   rw [List.take_length]
   try conv=>whnf
   exact ⟨Ends.keep ⟨rfl,rfl⟩⟩
end Go.Aw
namespace Go.Aw
open Go.Proofs Go.Sort
set_option maxRecDepth 100000
set_option maxHeartbeats 4000000
abbrev ptr (b:Nat):V:=.pa b 0 0 0
abbrev heapB (g n:Nat):Blk:=.arr 0 2 [.ag [.own 1 g 0 n,.fn 207 []]]
structure StrAt (E:List Blk) (K:Nat→ByteArray×Nat) (b:Nat):Prop where
 ex:∃ s to a no,2≤b∧E[b-2]?=some (strB s to a no)∧∃ h:a < s.terms.length,K b=(s.terms[a].t,no)
def ltK (K:Nat→ByteArray×Nat) (b c:Nat):Bool:=lessS (K b).1 (K c).1 (K b).2 (K c).2
theorem less_at {H0 H1:Blk} {E:List Blk} {K:Nat→ByteArray×Nat} {b c:Nat} (hb:StrAt E K b) (hc:StrAt E K c) (hne:b≠c) :
  ACalls Tryz.prog 207 [ptr b,ptr c] (H0::H1::E) (fun r h=>r=.g (.b (ltK K b c))∧h=H0::H1::E):=by
 obtain ⟨s1,t1,a1,n1,b2,e1,l1,k1⟩:=hb.ex
 obtain ⟨s2,t2,a2,n2,c2,e2,l2,k2⟩:=hc.ex
 have g1:(H0::H1::E)[b]?=some (strB s1 t1 a1 n1):=by
  obtain ⟨d,rfl⟩:∃ d,b=d+2:=⟨b-2,by omega⟩
  simpa using e1
 have g2:(H0::H1::E)[c]?=some (strB s2 t2 a2 n2):=by
  obtain ⟨d,rfl⟩:∃ d,c=d+2:=⟨c-2,by omega⟩
  simpa using e2
 have hlt1:=lt_of_get g1
 have hlt2:=lt_of_get g2
 have hk:ltK K b c=lessS s1.terms[a1].t s2.terms[a2].t n1 n2:=by rw [ltK,k1,k2]
 rw [hk]
 refine ACalls.fl (c_merge_less s1 s2 t1 t2 a1 a2 n1 n2 l1 l2) [b,c] ?_ ?_ rfl (flatH.cons Blk.lt_g1 (flatH.cons Blk.lt_g1 flatH.nil)) (by rintro r h ⟨_,rfl⟩;exact (flatH.cons Blk.lt_g1 (flatH.cons Blk.lt_g1 flatH.nil))) ?_
 ·have q1:Nat.ble (b+1) (H0::H1::E).length=true:=Nat.ble_eq_true_of_le hlt1
  have q2:Nat.ble (c+1) (H0::H1::E).length=true:=Nat.ble_eq_true_of_le hlt2
  have q3:Nat.beq c b=false:=by
   cases h:Nat.beq c b with
   | false=>rfl
   | true=>exact absurd (Nat.eq_of_beq_eq_true h).symm hne
  simp only [nodupB,memN,q1,q2,q3];rfl
 ·simp [optL,g1,g2]
 ·rintro r h ⟨rfl,rfl⟩
  refine ⟨rfl,?_⟩
  show setB (setB (H0::H1::E) b (strB s1 t1 a1 n1)) c (strB s2 t2 a2 n2)=_
  rw [setB_eq,setB_eq,set_self g1,set_self g2]
theorem ltK_iff {K:Nat→ByteArray×Nat} {b c:Nat}:ltK K b c=true↔cmpS (K b).1 (K c).1 < 0∨(cmpS (K b).1 (K c).1=0∧(K b).2 < (K c).2):=by
 simp [ltK,lessS,ltB',cmpS_zero]
theorem swo_less {K:Nat→ByteArray×Nat}:SWO (ltK K) where
 irrefl:=fun x=>by rw [← Bool.not_eq_true,ltK_iff,cmpS_self];omega
 trans:=fun x y z h k=>by
  rw [ltK_iff] at *
  have h1:=cmpS_trans (a:=(K x).1) (b:=(K y).1) (c:=(K z).1) (by omega) (by omega)
  by_cases h0:cmpS (K x).1 (K z).1=0
  ·have:=h1.2 h0;omega
  ·omega
 ntrans:=fun x y z h k=>by
  rw [← Bool.not_eq_true,ltK_iff] at *
  have n1:=cmpS_neg (K x).1 (K y).1
  have n2:=cmpS_neg (K y).1 (K z).1
  have n3:=cmpS_neg (K x).1 (K z).1
  have h1:=cmpS_trans (a:=(K z).1) (b:=(K y).1) (c:=(K x).1) (by omega) (by omega)
  rintro (e|⟨e,e2⟩)
  ·omega
  ·have:=h1.2 (by omega);omega
def rowP (l:List Nat):List V:=l.map ptr
def fnL (l:List Nat):Nat→Nat:=fun j=>l.getD j 0
theorem swp_list {l:List Nat} {i u:Nat} (hi:i < l.length) (hu:u < l.length) (hne:i≠u):fnL ((l.set i l[u]).set u l[i])=swpF (fnL l) i u:=by
 funext j
 simp only [fnL,swpF,updF,List.getD_eq_getElem?_getD]
 by_cases h1:j=u
 ·subst h1;rw [if_pos rfl];simp [hu,hi]
 ·rw [if_neg h1,List.getElem?_set_ne (fun e=>h1 e.symm)]
  by_cases h2:j=i
  ·subst h2;rw [if_pos rfl];simp [hi,hu]
  ·rw [if_neg h2,List.getElem?_set_ne (fun e=>h2 e.symm)]
theorem swp_perm {l:List Nat} {i u:Nat} (hi:i < l.length) (hu:u < l.length):((l.set i l[u]).set u l[i]).Perm l:=by
 have:=List.set_set_perm hi hu
 exact this
theorem StrAt.app {E L:List Blk} {K:Nat→ByteArray×Nat} {b:Nat} (h:StrAt E K b):StrAt (E++L) K b:=by
 obtain ⟨s,to,a,no,h1,h2,h3⟩:=h.ex
 exact ⟨s,to,a,no,h1,by rw [List.getElem?_append_left (lt_of_get h2)];exact h2,h3⟩
theorem c_heap_push (g n:Nat) (ps J:List Nat) (x:Nat) (E:List Blk) (K:Nat→ByteArray×Nat) (hn:ps.length=n) (hl:n < 1000000000) (hx:StrAt E K x) (hp:∀ b∈ps,StrAt E K b) (hnd:(ps++[x]).Nodup) (hh:heapF (ltK K) (fnL ps) n) :
  ACalls Tryz.prog 208 [.pa 0 0 0 0,ptr x] (heapB g n::.arr g 1 (rowP (ps++J))::E)
   (fun r h=>r=.tu []∧∃ R:List Nat,R.Perm (ps++[x])∧heapF (ltK K) (fnL R) (n+1)∧h=heapB (g+1) (n+1)::.arr (g+1) 1 (rowP R)::E):=by
 refine k_merge_heap_merge_stream_push.calls ?_
 unfold heapB
 have hr:rowP (ps++J)=rowP ps++rowP J:=by simp [rowP]
 have hrl:(rowP ps).length=n:=by simp [rowP,hn]
 rw [hr]
 (try conv=>whnf);repeat ((first|refine (forceH_eq E _).mpr ?_|refine And.intro (show cellsAll _ _ from by repeat (first|exact trivial|refine ⟨⟨rfl,rfl⟩,?_⟩)) ?_|refine ⟨rfl,_,rfl,?_⟩);conv=>whnf)
 generalize hq:X.ev _ (X.t 11)=q
 obtain rfl:q=ptr x:=hq.symm
 clear hq
 refine forceH_to (addB_eq E _) ?_
 try conv=>whnf
 generalize hgb:getB _ _=ogb
 obtain rfl:=hgb.symm.trans (getB_push _ _ _ E)
 clear hgb
 conv=>whnf
 refine ⟨⟨rfl,Nat.le_refl _,rfl⟩,?_⟩
 conv=>whnf
 refine ⟨by simp;omega,⟨rfl,rfl,rfl⟩,rowP ps,⟨rowP J,rfl⟩,hrl.symm,?_⟩
 rw [show List.take [ptr x].length (List.drop 0 [ptr x])=[ptr x] from rfl,show [ptr x].length=1 from rfl]
 (try conv=>whnf);repeat ((first|refine (forceH_eq (E++_) _).mpr ?_|refine ⟨rfl,_,rfl,⟨rfl,rfl,by decide⟩,?_⟩|refine ⟨rfl,_,rfl,?_⟩|refine ⟨in64 (by omega) (by omega),?_⟩);conv=>whnf)
 rw [show ((n+1:Nat):Int)-1=n from by omega]
 refine SW.loopR (α:=Nat×List Nat) (fun a=>tm 74 [(0,.pa 0 0 0 0),(4,.g (.i a.1))]) (fun a=>heapB (g+1) (n+1)::.arr (g+1) 1 (rowP a.2)::(E++[.arr 0 1 [ptr x]]))
  (fun a=>a.1≤n∧a.2.Perm (ps++[x])∧upF (ltK K) (fnL a.2) (n+1) a.1) (fun a=>a.1) (n,ps++[x]) ?_ ?_ ?_
 ·refine ⟨Nat.le_refl _,.refl _,?_⟩
  have e:fnL (ps++[x])=updF (fnL ps) n x:=by
   funext j
   simp only [fnL,updF,List.getD_eq_getElem?_getD]
   rcases Nat.lt_trichotomy j n with h|h|h
   ·rw [if_neg (by omega),List.getElem?_append_left (by omega)]
   ·subst h;rw [if_pos rfl,List.getElem?_append_right (by omega),hn];simp
   ·rw [if_neg (by omega),List.getElem?_eq_none (by simp;omega),List.getElem?_eq_none (by omega)]
  rw [e];exact up_start hh
 ·refine Refi.sub ?_ ?_
  ·simp [rowP,heapB]
   rfl
  ·simp [subT,subV,tm,tmGo]
 ·have fin:∀ R:List Nat,R.Perm (ps++[x])→heapF (ltK K) (fnL R) (n+1)→Ends (heapB g n::.arr g 1 (rowP ps++rowP J)::E) (fun r h=>r=.tu []∧∃ R:List Nat,R.Perm (ps++[x])∧heapF (ltK K) (fnL R) (n+1)∧h=heapB (g+1) (n+1)::.arr (g+1) 1 (rowP R)::E) (.tu []) (heapB (g+1) (n+1)::.arr (g+1) 1 (rowP R)::(E++[.arr 0 1 [ptr x]])):=fun R hR hh=>by
   refine Ends.drop (H2:=heapB (g+1) (n+1)::.arr (g+1) 1 (rowP R)::E) (L:=[.arr 0 1 [ptr x]]) rfl ?_ ?_ ⟨rfl,R,hR,hh,rfl⟩
   ·intro b y hy
    match b,hy with
    | 0,hy =>
     simp at hy;subst hy
     refine .inl (Blk.lt_of fun e he v hv=>?_)
     simp at he;subst he
     simp [V.cells] at hv
     rcases hv with rfl|rfl
     ·exact .own (by simp)
     ·exact .fn (fun i v h=>by simp at h)
    | 1,hy =>
     simp at hy;subst hy
     refine .inl (Blk.lt_of fun e he v hv=>?_)
     obtain ⟨c,hc,rfl⟩:=List.mem_map.1 he
     simp [V.cells] at hv;subst hv
     have hs:StrAt E K c:=by
      have:=hR.mem_iff.1 hc
      rw [List.mem_append,List.mem_singleton] at this
      rcases this with h|rfl
      ·exact hp c h
      ·exact hx
     obtain ⟨s,to,a,no,h1,h2,_⟩:=hs.ex
     have:=lt_of_get h2
     exact .pa (by simp;omega)
    | b+2,hy=>exact .inr (by simpa using hy)
   ·intro γ I I1 w y _ _ _ hv
    cases hv with
    | tu hl hr=>exact .tu hl (fun i t ht=>by simp at ht)
  rintro ⟨i,R⟩ ⟨hi,hR,hu⟩
  dsimp only at hi hR hu ⊢
  have hRl:R.length=n+1:=by have:=hR.length_eq;simpa [hn] using this
  have hRn:R.Nodup:=hR.nodup_iff.2 hnd
  unfold heapB
  obtain ⟨E2,hE2⟩:∃ E2,E++[.arr 0 1 [ptr x]]=E2:=⟨_,rfl⟩
  have hst:∀ b∈R,StrAt E2 K b:=fun b hb=>by
   rw [← hE2]
   have:=hR.mem_iff.1 hb
   rw [List.mem_append,List.mem_singleton] at this
   rcases this with h|rfl
   ·exact (hp b h).app
   ·exact hx.app
  rw [hE2]
  (try conv=>whnf);repeat ((first|refine (forceH_eq E2 _).mpr ?_);conv=>whnf)
  refine Br.dec (fun h2=>?_) (fun h2=>?_)
  ·have e:((i:Int)-1).tdiv 2=(((i-1) / 2:Nat):Int):=by rw [Int.tdiv_eq_ediv_of_nonneg (by omega)];omega
   (try conv=>whnf);repeat ((first|refine (forceH_eq E2 _).mpr ?_|refine ⟨in64 (by omega) (by omega),?_⟩);conv=>whnf)
   rw [e]
   refine ⟨by decide,in64 (by omega) (by omega),?_⟩
   have hui:(i-1) / 2 < i:=by omega
   generalize hu2:(i-1) / 2=u at hui
   have r1:i < R.length:=by omega
   have r2:u < R.length:=by omega
   have hfi:fnL R i=R[i]:=getD_at _ r1
   have hfu:fnL R u=R[u]:=getD_at _ r2
   have hg1:(rowP R)[0+(i:Int).toNat]?=some (ptr R[i]):=by simp [rowP,r1]
   have hg2:(rowP R)[0+(u:Int).toNat]?=some (ptr R[u]):=by simp [rowP,r2]
   (try conv=>whnf);repeat ((first|refine (forceH_eq E2 _).mpr ?_|refine ⟨rfl,_,rfl,?_⟩|refine ⟨rfl,_,getO (by omega),?_⟩|refine ⟨⟨by omega,by omega⟩,⟨rfl,rfl⟩,?_⟩);conv=>whnf)
   refine (less_at (hst _ (List.getElem_mem r1)) (hst _ (List.getElem_mem r2)) (fun e=>by have:=(List.getElem_inj hRn).1 e;omega)).mono ?_
   rintro r h ⟨rfl,rfl⟩
   (try conv=>whnf);repeat ((first|refine (forceH_eq E2 _).mpr ?_);conv=>whnf)
   refine Br.not (fun h3=>?_) (fun h3=>?_)
   ·(try conv=>whnf);repeat ((first|refine (forceH_eq E2 _).mpr ?_);conv=>whnf)
    rw [← hE2]
    exact ⟨fin R hR (upF_done hu (.inr (by rw [hu2,hfi,hfu];exact h3)))⟩
   ·have hg3:((rowP R).set (0+(i:Int).toNat) (ptr R[u]))[0+(u:Int).toNat]?=some (ptr R[u]):=by rw [List.getElem?_set_ne (by simp;omega)];exact hg2
    (try conv=>whnf);repeat ((first|refine (forceH_eq E2 _).mpr ?_|refine ⟨_,hg3,⟨rfl,rfl,by decide⟩,?_⟩|refine ⟨rfl,_,rfl,?_⟩|refine ⟨rfl,_,getO (by omega),?_⟩|refine ⟨⟨rfl,rfl,by decide⟩,?_⟩|refine ⟨rfl,?_⟩|refine ⟨⟨by omega,by omega⟩,⟨rfl,rfl⟩,?_⟩);conv=>whnf)
    refine ⟨⟨(u,(R.set i R[u]).set u R[i]),⟨by omega,(swp_perm r1 r2).trans hR,?_⟩,hui,Refi.sub ?_ ?_⟩⟩
    ·have:=upF_step swo_less hu (by omega) (by omega) (by rw [hu2,hfi,hfu];exact h3)
     rw [hu2] at this
     rw [swp_list r1 r2 (by omega)];exact this
    ·simp [rowP,List.map_set]
     rfl
    ·simp [subT,subV,tm,tmGo]
  ·have hi0:i=0:=by omega
   subst hi0
   (try conv=>whnf);repeat ((first|refine (forceH_eq E2 _).mpr ?_);conv=>whnf)
   rw [← hE2]
   exact ⟨fin R hR (upF_done hu (.inl rfl))⟩
end Go.Aw
namespace Go.Aw
open Go.Proofs Go.Sort
set_option maxRecDepth 100000
set_option maxHeartbeats 4000000
theorem c_heap_pop (g n:Nat) (ps J:List Nat) (E:List Blk) (K:Nat→ByteArray×Nat) (hn:ps.length=n+1) (hl:n < 1000000000) (hp:∀ b∈ps,StrAt E K b) (hnd:ps.Nodup) (hh:heapF (ltK K) (fnL ps) (n+1)) :
  ACalls Tryz.prog 209 [.pa 0 0 0 0] (heapB g (n+1)::.arr g 1 (rowP (ps++J))::E)
   (fun r h=>r=ptr (fnL ps 0)∧∃ R J':List Nat,R.length=n∧(fnL ps 0::R).Perm ps∧heapF (ltK K) (fnL R) n∧h=heapB g n::.arr g 1 (rowP (R++J'))::E):=by
 refine k_merge_heap_merge_stream_pop.calls ?_
 unfold heapB
 have hpl:0 < ps.length:=by omega
 have hg0:(rowP (ps++J))[0]?=some (ptr (fnL ps 0)):=by
  rw [rowP,List.getElem?_map,List.getElem?_append_left hpl,List.getElem?_eq_getElem hpl];simp [fnL,List.getD,hpl]
 have hgn:(rowP (ps++J))[0+(n:Int).toNat]?=some (ptr (fnL ps n)):=by
  rw [Nat.zero_add,Int.toNat_natCast,rowP,List.getElem?_map,List.getElem?_append_left (by omega),List.getElem?_eq_getElem (by omega:n < ps.length)];simp [fnL,List.getD,hn]
 (try conv=>whnf);repeat ((first|refine (forceH_eq E _).mpr ?_|refine ⟨_,hg0,?_⟩|refine ⟨rfl,_,rfl,?_⟩|refine ⟨rfl,?_⟩|refine ⟨⟨by omega,by omega⟩,⟨rfl,rfl⟩,?_⟩|refine ⟨in64 (by omega) (by omega),?_⟩);conv=>whnf)
 rw [show ((n+1:Nat):Int)-1=n from by omega]
 (try conv=>whnf);repeat ((first|refine (forceH_eq E _).mpr ?_|refine ⟨_,hg0,?_⟩|refine ⟨_,hgn,?_⟩|refine ⟨rfl,_,rfl,⟨rfl,rfl,by decide⟩,?_⟩|refine ⟨rfl,_,rfl,?_⟩|refine ⟨rfl,⟨by omega,by omega,by omega⟩,?_⟩|refine ⟨⟨rfl,rfl,by decide⟩,?_⟩|refine ⟨rfl,?_⟩|refine ⟨⟨by omega,by omega⟩,⟨rfl,rfl⟩,?_⟩);conv=>whnf)
 refine SW.loopR (α:=Nat×List Nat) (fun a=>tm 108 [(0,.pa 0 0 0 0),(3,ptr (fnL ps 0)),(4,.g (.i n)),(5,.g (.i a.1))]) (fun a=>heapB g n::.arr g 1 (rowP a.2)::E)
  (fun a=>a.2.length=(ps++J).length∧(a.1=0∨a.1 < n)∧(fnL ps 0::a.2.take n).Perm ps∧downF (ltK K) (fnL a.2) n a.1) (fun a=>n-a.1) (0,(ps++J).set 0 (fnL ps n)) ?_ ?_ ?_
 ·refine ⟨by simp,.inl rfl,?_,?_⟩
  ·dsimp only
   match ps,hn with
   | a::tl,hn =>
    rcases List.eq_nil_or_concat tl with rfl|⟨m,z,rfl⟩
    ·simp at hn;subst hn;simp [fnL]
    ·simp at hn
     rw [List.concat_eq_append]
     have hz:fnL (a::(m++[z])) n=z:=by simp [fnL,← hn]
     rw [hz]
     have ht:List.take n (((a::(m++[z]))++J).set 0 z)=z::m:=by
      rw [← hn];simp
     rw [ht]
     simp only [fnL,List.getD_cons_zero]
     exact (List.perm_append_singleton z m).symm.cons a
  ·have e:∀ j,j < n→fnL ((ps++J).set 0 (fnL ps n)) j=updF (fnL ps) 0 (fnL ps n) j:=fun j hj=>by
    simp only [fnL,updF,List.getD_eq_getElem?_getD]
    by_cases h:j=0
    ·subst h
     rw [if_pos rfl,List.getElem?_set_self (by simp;omega)];rfl
    ·rw [if_neg h,List.getElem?_set_ne (fun e=>h e.symm),List.getElem?_append_left (by omega)]
   have hs:=down_start hh
   constructor
   ·intro j j1 j2 j3
    dsimp only
    rw [e j j2,e _ (by omega)]
    exact hs.1 j j1 j2 j3
   ·intro j _ _ _ h0
    exact absurd h0 (Nat.lt_irrefl _)
 ·refine Refi.sub ?_ ?_
  ·simp [rowP,heapB,List.map_set]
   exact ⟨rfl,rfl⟩
  ·simp [subT,subV,tm,tmGo]
 ·rintro ⟨i,L⟩ ⟨hL,hi,hP,hd⟩
  dsimp only at hL hi hP hd ⊢
  have hLl:n≤L.length:=by rw [hL];simp;omega
  have hnd2:(fnL ps 0::L.take n).Nodup:=hP.nodup_iff.2 hnd
  have hst:∀ j,j < n→StrAt E K (fnL L j):=fun j hj=>hp _ (hP.mem_iff.1 (List.mem_cons_of_mem _ (List.mem_iff_getElem.2 ⟨j,by simp;omega,by simp [fnL,List.getD,show j < L.length by omega]⟩)))
  have hne:∀ j k,j < n→k < n→j≠k→fnL L j≠fnL L k:=fun j k hj hk h e=>by
   have h2:=(List.nodup_cons.1 hnd2).2
   have e1:(L.take n)[j]'(by simp;omega)=fnL L j:=by simp [fnL,List.getD,show j < L.length by omega]
   have e2:(L.take n)[k]'(by simp;omega)=fnL L k:=by simp [fnL,List.getD,show k < L.length by omega]
   exact h ((List.getElem_inj h2).1 (e1.trans (e.trans e2.symm)))
  have hget:∀ j:Nat,j < n→(rowP L)[0+(j:Int).toNat]?=some (ptr (fnL L j)):=fun j hj=>by
   simp [rowP,fnL,List.getD,show j < L.length by omega]
  have htk:∀ j,j < n→fnL (L.take n) j=fnL L j:=fun j hj=>by simp [fnL,List.getD,hj]
  unfold heapB
  (try conv=>whnf);repeat ((first|refine (forceH_eq E _).mpr ?_|refine ⟨in64 (by omega) (by omega),?_⟩);conv=>whnf)
  refine SW.loopR (α:=Nat×Nat) (fun a=>tm 108 [(0,.pa 0 0 0 0),(3,ptr (fnL ps 0)),(4,.g (.i n)),(5,.g (.i i)),(6,.g (.i a.1)),(7,.g (.i a.2))]) (fun _=>heapB g n::.arr g 1 (rowP L)::E)
   (fun a=>(2*i+1≤a.2∧a.2≤2*i+3)∧(a.1=i∨(2*i+1≤a.1∧a.1 < a.2∧a.1 < n∧ltK K (fnL L a.1) (fnL L i)=true))∧∀ j,2*i+1≤j→j < a.2→j < n→ltK K (fnL L j) (fnL L a.1)=false) (fun a=>2*i+3-a.2) (i,2*i+1) ?_ ?_ ?_
  ·exact ⟨⟨Nat.le_refl _,by dsimp only;omega⟩,.inl rfl,fun j h1 h2 _=>by dsimp only at h2;omega⟩
  ·exact Refi.sub rfl (by simp [subT,subV,tm,tmGo])
  ·rintro ⟨low,k⟩ ⟨hk,hlow,hmin⟩
   dsimp only at hk hlow hmin ⊢
   unfold heapB
   (try conv=>whnf);repeat ((first|refine (forceH_eq E _).mpr ?_|refine ⟨in64 (by omega) (by omega),?_⟩);conv=>whnf)
   refine Br.dec (fun h1=>?_) (fun h1=>?_)
   ·(try conv=>whnf);repeat ((first|refine (forceH_eq E _).mpr ?_);conv=>whnf)
    refine Br.dec (fun h2=>?_) (fun h2=>?_)
    ·have gk:=hget k (by omega)
     have gl:=hget low (by omega)
     generalize hRL:rowP L=RL at gk gl ⊢
     (try conv=>whnf);repeat ((first|refine (forceH_eq E _).mpr ?_|refine ⟨_,gk,?_⟩|refine ⟨_,gl,?_⟩|refine ⟨rfl,_,rfl,?_⟩|refine ⟨rfl,?_⟩|refine ⟨⟨by omega,by omega⟩,⟨rfl,rfl⟩,?_⟩);conv=>whnf)
     refine ((less_at (hst k (by omega)) (hst low (by omega)) (hne k low (by omega) (by omega) (by omega))).mono ?_:ACalls Tryz.prog 207 [ptr (fnL L k),ptr (fnL L low)] _ _)
     rintro r h ⟨rfl,rfl⟩
     (try conv=>whnf);repeat ((first|refine (forceH_eq E _).mpr ?_);conv=>whnf)
     refine Br.intro (fun h3=>?_) (fun h3=>?_)
     ·(try conv=>whnf);repeat ((first|refine (forceH_eq E _).mpr ?_|refine ⟨in64 (by omega) (by omega),?_⟩);conv=>whnf)
      refine ⟨⟨(k,k+1),⟨⟨by dsimp only;omega,by dsimp only;omega⟩,.inr ⟨by dsimp only;omega,by dsimp only;omega,by dsimp only;omega,?_⟩,fun j j1 j2 j3=>?_⟩,by show 2*i+3-(k+1) < 2*i+3-k;omega,Refi.sub (by rw [← hRL]) (by simp [subT,subV,tm,tmGo])⟩⟩
      ·rcases hlow with rfl|⟨_,_,_,h4⟩
       ·exact h3
       ·exact swo_less.trans _ _ _ h3 h4
      ·dsimp only at j2 ⊢
       rcases Nat.lt_or_ge j k with h5|h5
       ·cases q:ltK K (fnL L j) (fnL L k) with
        | false=>rfl
        | true=>have:=swo_less.trans _ _ _ q h3;rw [hmin j j1 h5 j3] at this;cases this
       ·have:j=k:=by omega
        subst this;exact swo_less.irrefl _
     ·(try conv=>whnf);repeat ((first|refine (forceH_eq E _).mpr ?_|refine ⟨in64 (by omega) (by omega),?_⟩);conv=>whnf)
      refine ⟨⟨(low,k+1),⟨⟨by dsimp only;omega,by dsimp only;omega⟩,?_,fun j j1 j2 j3=>?_⟩,by show 2*i+3-(k+1) < 2*i+3-k;omega,Refi.sub (by rw [← hRL]) (by simp [subT,subV,tm,tmGo])⟩⟩
      ·dsimp only
       rcases hlow with h|⟨g1,g2,g3,g4⟩
       ·exact .inl h
       ·exact .inr ⟨g1,by omega,g3,g4⟩
      ·dsimp only at j2 ⊢
       rcases Nat.lt_or_ge j k with h5|h5
       ·exact hmin j j1 h5 j3
       ·have:j=k:=by omega
        subst this;exact h3
    ·(try conv=>whnf);repeat ((first|refine (forceH_eq E _).mpr ?_);conv=>whnf)
     have hall:∀ j,0 < j→j < n→(j-1) / 2=i→ltK K (fnL L j) (fnL L low)=false:=fun j j1 j2 j3=>hmin j (by omega) (by omega) j2
     rw [show (((low:Nat):Int) == ((i:Nat):Int))=decide (low=i) from by rw [Bool.beq_eq_decide_eq];exact decide_eq_decide.2 (by omega)]
     refine Br.intro (fun h5=>?_) (fun h5=>?_)
     ·have h5:=of_decide_eq_true h5
      subst h5
      (try conv=>whnf);repeat ((first|refine (forceH_eq E _).mpr ?_);conv=>whnf)
      have hf:=downF_done hd hall
      exact ⟨Ends.keep ⟨rfl,L.take n,L.drop n,by simp;omega,hP,fun j j1 j2=>by rw [htk j j2,htk _ (by omega)];exact hf j j1 j2,by rw [List.take_append_drop]⟩⟩
     ·have h5:=of_decide_eq_false h5
      have hln:low < n:=by omega
      have hin:i < n:=by omega
      have r1:i < L.length:=by omega
      have r2:low < L.length:=by omega
      have hgi:=hget i hin
      have hgl:=hget low hln
      have hg3:((rowP L).set (0+(i:Int).toNat) (ptr (fnL L low)))[0+(low:Int).toNat]?=some (ptr (fnL L low)):=by rw [List.getElem?_set_ne (by simp;omega)];exact hgl
      generalize hRL:rowP L=RL at hgi hgl hg3 ⊢
      (try conv=>whnf);repeat ((first|refine (forceH_eq E _).mpr ?_|refine ⟨_,hgi,?_⟩|refine ⟨_,hgl,?_⟩|refine ⟨_,hg3,⟨rfl,rfl,by decide⟩,?_⟩|refine ⟨rfl,_,rfl,?_⟩|refine ⟨⟨rfl,rfl,by decide⟩,?_⟩|refine ⟨rfl,?_⟩|refine ⟨⟨by omega,by omega⟩,⟨rfl,rfl⟩,?_⟩);conv=>whnf)
      have hPs:=swp_perm r1 r2
      refine ⟨⟨(low,(L.set i L[low]).set low L[i]),⟨by simp [hL],.inr hln,?_,?_⟩,by show n-low < n-i;omega,Refi.sub ?_ (by simp [subT,subV,tm,tmGo])⟩⟩
      ·have e1:((L.set i L[low]).set low L[i]).take n=((L.take n).set i L[low]).set low L[i]:=by rw [List.take_set,List.take_set]
       have hpm:=swp_perm (l:=L.take n) (i:=i) (u:=low) (by simp;omega) (by simp;omega)
       simp only [List.getElem_take] at hpm
       dsimp only
       rw [e1]
       exact (hpm.cons _).trans hP
      ·rw [swp_list r1 r2 (by omega)]
       rcases hlow with h6|⟨g1,g2,g3,g4⟩
       ·exact absurd h6 h5
       ·exact downF_step swo_less hd (by omega) hln (by omega) g4 hall
      ·rw [← hRL]
       simp [rowP,List.map_set]
       rw [← show fnL L low=L[low] from getD_at _ r2,← show fnL L i=L[i] from getD_at _ r1]
       rfl
   ·(try conv=>whnf);repeat ((first|refine (forceH_eq E _).mpr ?_);conv=>whnf)
    have hall:∀ j,0 < j→j < n→(j-1) / 2=i→ltK K (fnL L j) (fnL L low)=false:=fun j j1 j2 j3=>hmin j (by omega) (by omega) j2
    rw [show (((low:Nat):Int) == ((i:Nat):Int))=decide (low=i) from by rw [Bool.beq_eq_decide_eq];exact decide_eq_decide.2 (by omega)]
    refine Br.intro (fun h5=>?_) (fun h5=>?_)
    ·have h5:=of_decide_eq_true h5
     subst h5
     (try conv=>whnf);repeat ((first|refine (forceH_eq E _).mpr ?_);conv=>whnf)
     have hf:=downF_done hd hall
     exact ⟨Ends.keep ⟨rfl,L.take n,L.drop n,by simp;omega,hP,fun j j1 j2=>by rw [htk j j2,htk _ (by omega)];exact hf j j1 j2,by rw [List.take_append_drop]⟩⟩
    ·have h5:=of_decide_eq_false h5
     have hln:low < n:=by omega
     have hin:i < n:=by omega
     have r1:i < L.length:=by omega
     have r2:low < L.length:=by omega
     have hgi:=hget i hin
     have hgl:=hget low hln
     have hg3:((rowP L).set (0+(i:Int).toNat) (ptr (fnL L low)))[0+(low:Int).toNat]?=some (ptr (fnL L low)):=by rw [List.getElem?_set_ne (by simp;omega)];exact hgl
     generalize hRL:rowP L=RL at hgi hgl hg3 ⊢
     (try conv=>whnf);repeat ((first|refine (forceH_eq E _).mpr ?_|refine ⟨_,hgi,?_⟩|refine ⟨_,hgl,?_⟩|refine ⟨_,hg3,⟨rfl,rfl,by decide⟩,?_⟩|refine ⟨rfl,_,rfl,?_⟩|refine ⟨⟨rfl,rfl,by decide⟩,?_⟩|refine ⟨rfl,?_⟩|refine ⟨⟨by omega,by omega⟩,⟨rfl,rfl⟩,?_⟩);conv=>whnf)
     have hPs:=swp_perm r1 r2
     refine ⟨⟨(low,(L.set i L[low]).set low L[i]),⟨by simp [hL],.inr hln,?_,?_⟩,by show n-low < n-i;omega,Refi.sub ?_ (by simp [subT,subV,tm,tmGo])⟩⟩
     ·have e1:((L.set i L[low]).set low L[i]).take n=((L.take n).set i L[low]).set low L[i]:=by rw [List.take_set,List.take_set]
      have hpm:=swp_perm (l:=L.take n) (i:=i) (u:=low) (by simp;omega) (by simp;omega)
      simp only [List.getElem_take] at hpm
      dsimp only
      rw [e1]
      exact (hpm.cons _).trans hP
     ·rw [swp_list r1 r2 (by omega)]
      rcases hlow with h6|⟨g1,g2,g3,g4⟩
      ·exact absurd h6 h5
      ·exact downF_step swo_less hd (by omega) hln (by omega) g4 hall
     ·rw [← hRL]
      simp [rowP,List.map_set]
      rw [← show fnL L low=L[low] from getD_at _ r2,← show fnL L i=L[i] from getD_at _ r1]
      rfl
end Go.Aw
