/- Contracts of functions of the given program, by the abstract walk, for law StatReckons: what each one hands back; no condition but those that each theorem states. -/
import Derived.Test.YtocdciahhlbknaaGreatC27
namespace Go.Aw
open Go.Proofs Go.Sort Go.RowKit
set_option maxRecDepth 100000
set_option maxHeartbeats 1000000
theorem c_OfS1 (x:Pt) (hx:x.live.length < 1000000000):ACalls Tryz.prog 51 [.g (tpart x)] [] (fun r h=>r=.g (.i (cntB x.live))∧h=[]):=by
 refine k_stat_OfS1.calls ?_
 have cc:=c_live_Count x.live hx
 (try conv=>whnf);repeat ((first|refine (cc).go rfl ?_|refine ⟨rfl,_,rfl,?_⟩|refine ⟨⟨rfl,rfl⟩,?_⟩);conv=>whnf)
 exact ⟨Ends.ground (H:=[]) (L:=[_]) 0 rfl ⟨rfl,rfl⟩⟩
def wrdPt (x:Pt) (k:Nat):Nat:=((liveD x.live k).map fun d=>(x.s.lens.getD d 0).toNat).sum
theorem wrd_succ {x:Pt} {k:Nat} (hk:k < x.live.length):wrdPt x (k+1)=wrdPt x k+if x.live[k] then (x.s.lens.getD k 0).toNat else 0:=by
 rw [wrdPt,liveD_succ hk,List.map_append,List.sum_append]
 cases x.live[k] <;> simp [wrdPt]
theorem wrd_le {x:Pt} (hv:∀ v∈x.s.lens,0≤v∧v≤120):∀ {k:Nat},k≤x.live.length→wrdPt x k≤120*k
 | 0,_=>by simp [wrdPt,liveD]
 | k+1,hk=>by
  have:=wrd_le hv (k:=k) (by omega)
  rw [wrd_succ (by omega)]
  split
  ·have:(x.s.lens.getD k 0).toNat≤120:=by
    rcases Nat.lt_or_ge k x.s.lens.length with h|h
    ·rw [getD_at 0 h];have:=hv _ (List.getElem_mem h);omega
    ·rw [List.getD_eq_getElem?_getD,List.getElem?_eq_none h];simp
   omega
  ·omega
theorem c_OfS2 (x:Pt) (hx:x.live.length < 1000000) (hl:x.live.length=x.s.lens.length) (hv:∀ v∈x.s.lens,0≤v∧v≤120) :
  ACalls Tryz.prog 53 [.g (tpart x)] [] (fun r h=>r=.g (.i (wrdPt x x.live.length))∧h=[]):=by
 refine k_stat_OfS2.calls ?_
 have hm:(x.s.lens.map T.i).length=x.live.length:=by simp [hl]
 have hm2:(x.live.map T.b).length=x.live.length:=by simp
 (try conv=>whnf);repeat ((first|refine ⟨rfl,_,rfl,?_⟩|refine ⟨⟨rfl,rfl⟩,?_⟩);conv=>whnf)
 refine SW.loopR (α:=Nat) (fun k=>tm 25 [(1,.pa 0 0 0 0),(3,.g (.i (wrdPt x k))),(8,.g (.sl 1 (x.s.lens.map T.i))),(9,.g (.i x.live.length)),(10,.g (.i k))]) (fun _=>[.arr 0 7 [.g (tpart x)]]) (fun k=>k≤x.live.length) (fun k=>x.live.length-k) 0 ?_ ?_ ?_
 ·exact Nat.zero_le _
 ·refine Refi.sub rfl ?_
  rw [show wrdPt x 0=0 by simp [wrdPt,liveD]]
  simp [subT,subV,tm,tmGo,hl]
 ·intro k hk
  dsimp only at hk ⊢
  conv=>whnf
  refine Br.dec (fun h=>?_) (fun h=>?_)
  ·have hk':k < x.live.length:=by omega
   have hkl:k < x.s.lens.length:=by omega
   have h1:=wrd_succ hk'
   have h2:=wrd_le hv hk
   have h3:=hv _ (List.getElem_mem hkl)
   rw [getD_at 0 hkl] at h1
   (try conv=>whnf);repeat ((first|refine ⟨_,getZ (by omega),?_⟩|refine ⟨by omega,rfl,?_⟩|refine ⟨rfl,_,rfl,?_⟩);conv=>whnf)
   refine Br.intro (fun e=>?_) (fun e=>?_)
   ·rw [e] at h1
    simp only [if_true] at h1
    (try conv=>whnf);repeat ((first|refine ⟨in64 (by omega) (by omega),?_⟩);conv=>whnf)
    exact ⟨⟨k+1,hk',by show x.live.length-(k+1) < x.live.length-k;omega,Refi.sub rfl (by rw [show ((wrdPt x (k+1):Nat):Int)=(wrdPt x k:Int)+x.s.lens[k] by omega];simp [subT,subV,tm,tmGo])⟩⟩
   ·rw [e] at h1
    simp only [Bool.false_eq_true,if_false,Nat.add_zero] at h1
    (try conv=>whnf);repeat ((first|refine ⟨in64 (by omega) (by omega),?_⟩);conv=>whnf)
    exact ⟨⟨k+1,hk',by show x.live.length-(k+1) < x.live.length-k;omega,Refi.sub rfl (by rw [h1];simp [subT,subV,tm,tmGo])⟩⟩
  ·have:k=x.live.length:=by omega
   subst this
   try conv=>whnf
   exact ⟨Ends.ground (H:=[]) (L:=[_]) 0 rfl ⟨rfl,rfl⟩⟩
theorem sg_lens {s:Sg} (h:SgP s):∀ v∈s.lens,0≤v∧v≤120:=by
 intro v hv
 obtain ⟨k,hk,rfl⟩:=List.getElem_of_mem hv
 have h1:=h.2.2.1
 have:=(h.2.2.2.2.1 k (by omega)).2.2.1
 rw [getD_at 0 hk] at this
 exact this
def wrdC (l:List Cd):Nat:=(l.map fun c=>c.w.length).sum
def nOf (p:Pl):Nat:=p.buf.length+(p.parts.map fun x=>cntB x.live).sum
def tOf (p:Pl):Nat:=wrdC p.buf+(p.parts.map fun x=>wrdPt x x.live.length).sum
theorem wrdC_succ {l:List Cd} {k:Nat} (hk:k < l.length):wrdC (l.take (k+1))=wrdC (l.take k)+l[k].w.length:=by
 rw [wrdC,List.take_succ_eq_append_getElem hk,List.map_append,List.sum_append];simp [wrdC]
theorem wrdC_take {l:List Cd} {k:Nat}:wrdC (l.take k)≤wrdC l:=by
 have:wrdC l=wrdC (l.take k)+wrdC (l.drop k):=by rw [wrdC,wrdC,wrdC,← List.sum_append,← List.map_append,List.take_append_drop]
 omega
theorem wrdC_flat {l:List Cd}:wrdC l=(l.flatMap (·.w)).length:=by simp [wrdC,List.length_flatMap]
theorem sum_leP {α:Type} {f:α→Nat} {n:Nat}:∀ {l:List α},(∀ x∈l,f x≤n)→(l.map f).sum≤n*l.length
 | [],_=>by simp
 | x::l,h=>by
  have h1:=h x (by simp)
  have h2:=sum_leP (l:=l) fun y hy=>h y (by simp [hy])
  simp only [List.map_cons,List.sum_cons,List.length_cons,Nat.mul_add];omega
theorem tof_le {p:Pl} (h:PlOk p):(p.parts.map fun x=>wrdPt x x.live.length).sum≤7680*p.parts.length:=sum_leP fun x hx=>by
 have h1:=wrd_le (x:=x) (sg_lens (h.parts.all x hx).seg) (Nat.le_refl _)
 have h2:=(h.parts.all x hx).len
 have h3:=(h.parts.all x hx).seg.1
 omega
theorem nof_le {p:Pl} (h:PlOk p):(p.parts.map fun x=>cntB x.live).sum≤64*p.parts.length:=sum_leP fun x hx=>by
 have h1:=cntB_le x.live
 have h2:=(h.parts.all x hx).len
 have h3:=(h.parts.all x hx).seg.1
 omega
noncomputable def ofS (p:Pl):T:=if PlOk p then .ag [.i (nOf p),.i (tOf p)] else .ag [.i 0,.i 0]
theorem overGC {p:Pl} {f:Nat} {n:Nat} (h:ACalls Tryz.prog 50 [.g (tpile p),.fn f []] [] (fun r h=>r=.g (.i n)∧h=[])):GC Tryz.prog 50 [.g (tpile p),.fn f []] (.g (.i n)) :=
 ⟨h,fun i a h=>by match i,h with|0,h=>cases h;exact .g|1,h=>cases h;exact .fn fun i v h=>by simp at h,.g⟩
theorem GC.in {P:Program} {f:Nat} {vs:List V} {v:V} (h:GC P f vs v) (H:List Blk):ACalls P f vs H (fun r h'=>r=v∧h'=H) :=
 (h.run.frame h.args (fun r h' e=>⟨e.2,by rw [e.1];exact h.res⟩) H).mono fun r h' e=>⟨e.1.1,e.2⟩
theorem lt_all3 {m:Nat} {a b c:Blk} (h1:a.lt m) (h2:b.lt m) (h3:c.lt m):∀ x∈[a,b,c],x.lt m:=by
 intro x hx
 simp only [List.mem_cons,List.not_mem_nil,or_false] at hx
 rcases hx with rfl|rfl|rfl
 ·exact h1
 ·exact h2
 ·exact h3
theorem c_stat_Of (p:Pl) (hb:bndP p):CG Tryz.prog 17 [tpile p] (ofS p):=by
 refine ⟨k_stat_Of.calls ?_⟩
 have hmb:(p.buf.map tcard).length=p.buf.length:=by simp
 have hb1:=hb.buf.1
 have hb2:=hb.buf.2.1
 have cm:=c_pile_May p hb
 (try conv=>whnf);repeat ((first|refine (cm).go rfl ?_|refine ⟨rfl,_,rfl,?_⟩|refine ⟨⟨rfl,rfl⟩,?_⟩|refine ⟨rfl,?_⟩);conv=>whnf)
 refine Br.not (fun e1=>?_) (fun e1=>?_)
 ·have e1:=of_decide_eq_false e1
  (try conv=>whnf);repeat ((first|refine ⟨rfl,_,rfl,⟨rfl,rfl,by decide⟩,?_⟩|refine ⟨rfl,_,rfl,?_⟩);conv=>whnf)
  exact ⟨Ends.ground (H:=[]) (L:=[_,_]) 0 rfl ⟨by rw [ofS,if_neg e1],rfl⟩⟩
 have hok:=of_decide_eq_true e1
 have hps:p.parts.length≤16:=hok.parts.le
 have hn1:=nof_le hok
 have hn2:=tof_le hok
 have o1:=overGC (c_stat_over p hb 51 [] (fun x=>cntB x.live) (by omega) (fun i x h=>by simp at h) rfl fun x hx=>c_OfS1 x (hb.part x hx).2)
 have o2:=overGC (c_stat_over p hb 53 [] (fun x=>wrdPt x x.live.length) (by omega) (fun i x h=>by simp at h) rfl fun x hx=>c_OfS2 x (by have:=(hok.parts.all x hx).len;have:=(hok.parts.all x hx).seg.1;omega) (by rw [(hok.parts.all x hx).len,(hok.parts.all x hx).seg.2.2.1]) (sg_lens (hok.parts.all x hx).seg))
 generalize hN1:(p.parts.map fun x=>cntB x.live).sum=N1 at o1 hn1
 generalize hN2:(p.parts.map fun x=>wrdPt x x.live.length).sum=N2 at o2 hn2
 (try conv=>whnf);repeat ((first|refine ⟨⟨rfl,rfl⟩,?_⟩|refine ⟨_,rfl,?_⟩);conv=>whnf)
 refine ⟨_,o1,?_⟩
 (try conv=>whnf);repeat ((first|refine ⟨rfl,_,rfl,⟨rfl,rfl,by decide⟩,?_⟩|refine ⟨rfl,_,rfl,?_⟩|refine ⟨rfl,?_⟩|refine ⟨in64 (by omega) (by omega),?_⟩);conv=>whnf)
 let HO:Nat→List Blk:=fun a=>[.arr 0 6 [.g (tpile p)],.arr 0 2 [.g (.ag [.i 0,.i 0])],.arr 0 2 [.g (.ag [.i ((p.buf.length:Int)+N1),.i a])]]
 refine SW.loopR (α:=Nat) (fun k=>tm 39 [(1,.pa 0 0 0 0),(2,.pa 1 0 0 0),(3,.pa 2 0 0 0),(18,cards p.buf),(19,.g (.i p.buf.length)),(20,.g (.i k))]) (fun k=>HO (wrdC (p.buf.take k))) (fun k=>k≤p.buf.length) (fun k=>p.buf.length-k) 0 ?_ ?_ ?_
 ·exact Nat.zero_le _
 ·exact Refi.sub (by simp only [HO];rw [← hmb];rfl) (by simp [subT,subV,tm,tmGo,cards])
 ·intro k hk
  dsimp only at hk ⊢
  conv=>whnf
  refine Br.dec (fun h=>?_) (fun h=>?_)
  ·have hk':k < p.buf.length:=by omega
   have h1:=wrdC_succ hk'
   have h2:=wrdC_take (l:=p.buf) (k:=k+1)
   have h3:wrdC p.buf < 100000000:=by rw [wrdC_flat];exact hb2
   have hmw:(p.buf[k].w.map T.s).length=p.buf[k].w.length:=by simp
   (try conv=>whnf);repeat ((first|refine ⟨_,getZ (by omega),?_⟩|refine ⟨by omega,rfl,?_⟩|refine ⟨rfl,_,rfl,⟨rfl,rfl,by decide⟩,?_⟩|refine ⟨rfl,_,rfl,?_⟩|refine ⟨rfl,?_⟩|refine ⟨in64 (by omega) (by omega),?_⟩);conv=>whnf)
   refine ⟨⟨k+1,hk',by show p.buf.length-(k+1) < p.buf.length-k;omega,Refi.back (H':=HO (wrdC (p.buf.take (k+1)))) (L:=[.arr 0 3 [.g (tcard p.buf[k])]]) ?_ (Nat.zero_le _) (show ∀ x∈HO (wrdC (p.buf.take (k+1))),x.lt 3 from lt_all3 Blk.lt_g1 Blk.lt_g1 Blk.lt_g1) (by simp [HO,subT,subV,tm,tmGo,cutV,ltB,ltS,cards])⟩⟩
   simp only [HO]
   rw [h1,show ((wrdC (p.buf.take k)+p.buf[k].w.length:Nat):Int)=(wrdC (p.buf.take k):Int)+((p.buf[k].w.map T.s).length:Int) by rw [hmw];simp]
   rfl
  ·have:k=p.buf.length:=by omega
   subst this
   have h2:wrdC p.buf < 100000000:=by rw [wrdC_flat];exact hb2
   rw [List.take_length]
   (try conv=>whnf);repeat ((first|refine ⟨rfl,_,rfl,?_⟩);conv=>whnf)
   refine ⟨_,(o2.in _),?_⟩
   (try conv=>whnf);repeat ((first|refine ⟨rfl,_,rfl,⟨rfl,rfl,by decide⟩,?_⟩|refine ⟨rfl,_,rfl,?_⟩|refine ⟨in64 (by omega) (by omega),?_⟩);conv=>whnf)
   exact ⟨Ends.ground (H:=[]) (L:=[_,_,_]) 0 rfl ⟨by rw [ofS,if_pos hok,nOf,tOf,hN1,hN2];simp,rfl⟩⟩
end Go.Aw
namespace Go.Aw
open Go.Proofs Go.Sort Go.RowKit
set_option maxRecDepth 100000
set_option maxHeartbeats 1000000
theorem idxS_ge {l:List ByteArray} {y:ByteArray}:(0≤idxS l y)↔y∈l:=by
 by_cases h:y∈l
 ·obtain ⟨i,_,e,_⟩:=idxS_mem h
  exact ⟨fun _=>h,fun _=>by omega⟩
 ·have:=idxS_no h
  exact ⟨fun h2=>by omega,fun h2=>absurd h2 h⟩
def inL (l:List ByteArray) (y:ByteArray):Bool:=l.any fun z=>decide (z=y)
theorem inL_iff {l:List ByteArray} {y:ByteArray}:inL l y=true↔y∈l:=by simp [inL]
theorem c_Contains_str (l:List ByteArray) (y:ByteArray) (hl:l.length < 9223372036854775807):CG Tryz.prog 55 [tstrs l,.s y] (.b (inL l y)):=by
 refine ⟨k_slices_Contains_Lstring_string.calls ?_⟩
 have ci:=c_slices_Index_str l y hl
 (try conv=>whnf);repeat ((first|refine (ci).go rfl ?_);conv=>whnf)
 refine ⟨Ends.keep ⟨?_,rfl⟩⟩
 show V.g (.b (decide (idxS l y≥0)))=_
 rw [show decide (idxS l y≥0)=inL l y by rw [Bool.eq_iff_iff,inL_iff,decide_eq_true_iff];exact idxS_ge]
theorem has_in {s:Sg} (h:SgP s) {t:ByteArray} {q:Po} (hq:q∈hasS s t):0≤q.1∧q.1 < s.ids.length:=by
 rw [hasS,if_pos h] at hq
 split at hq
 ·rename_i x hx
  have hx:=List.mem_of_find?_eq_some hx
  have h1:=(h.tms.ok x hx).2
  obtain ⟨a,r,e⟩:=List.exists_cons_of_ne_nil (h1.ne q hq)
  obtain ⟨k,j,e2,hk,_⟩:=pr_in h hx (q:=(q.1,a)) (mem_prT'.2 ⟨q,hq,rfl,by rw [e];simp⟩)
  have:q.1=k:=congrArg Prod.fst e2
  omega
 ·cases hq
theorem has_len {s:Sg} (h:SgP s) {t:ByteArray}:(hasS s t).length≤64:=by
 rw [hasS,if_pos h]
 split
 ·rename_i x hx
  have hx:=List.mem_of_find?_eq_some hx
  exact (h.tms.ok x hx).2.len
 ·simp
def dfPt (x:Pt) (t:ByteArray) (k:Nat):Nat:=(((hasS x.s t).take k).filter fun q=>x.live.getD q.1.toNat false).length
theorem dfPt_succ {x:Pt} {t:ByteArray} {k:Nat} (hk:k < (hasS x.s t).length):dfPt x t (k+1)=dfPt x t k+if x.live.getD (hasS x.s t)[k].1.toNat false then 1 else 0:=by
 rw [dfPt,List.take_succ_eq_append_getElem hk,List.filter_append,List.length_append]
 rw [List.filter_cons,List.filter_nil,dfPt]
 split <;> simp
theorem c_DfS1 (x:Pt) (t:ByteArray) (hg:SgP x.s) (hb:bndS x.s) (hl:x.live.length=x.s.ids.length) :
  ACalls Tryz.prog 56 [.g (tpart x),.ra 1 [.s t] 0 0] [] (fun r h=>r=.g (.i (dfPt x t (hasS x.s t).length))∧h=[]):=by
 refine k_stat_DfS1.calls ?_
 have h1:=hg.1
 have ch:=c_seg_Has x.s t hb.2.2.2 (by omega)
 have hm2:(x.live.map T.b).length=x.live.length:=by simp
 have hlen:=has_len hg (t:=t)
 have hmp:((hasS x.s t).map tpost).length=(hasS x.s t).length:=by simp
 (try conv=>whnf);repeat ((first|refine (ch).go rfl ?_|refine ⟨rfl,_,rfl,?_⟩|refine ⟨⟨rfl,rfl⟩,?_⟩|refine ⟨_,rfl,?_⟩);conv=>whnf)
 refine SW.loopR (α:=Nat) (fun k=>tm 26 [(2,.pa 0 0 0 0),(4,.g (.i (dfPt x t k))),(10,posts (hasS x.s t)),(11,.g (.i (hasS x.s t).length)),(12,.g (.i k))]) (fun _=>[.arr 0 7 [.g (tpart x)]]) (fun k=>k≤(hasS x.s t).length) (fun k=>(hasS x.s t).length-k) 0 ?_ ?_ ?_
 ·exact Nat.zero_le _
 ·refine Refi.sub rfl ?_
  rw [show dfPt x t 0=0 by simp [dfPt]]
  simp [subT,subV,tm,tmGo,posts]
 ·intro k hk
  dsimp only at hk ⊢
  conv=>whnf
  refine Br.dec (fun h=>?_) (fun h=>?_)
  ·have hk':k < (hasS x.s t).length:=by omega
   have h2:=dfPt_succ hk'
   have h3:dfPt x t k≤k:=by
    have:=List.length_filter_le (fun q:Po=>x.live.getD q.1.toNat false) ((hasS x.s t).take k)
    simp only [dfPt,List.length_take] at this ⊢
    omega
   obtain ⟨h4,h5⟩:=has_in hg (List.getElem_mem hk')
   have hdl:(hasS x.s t)[k].1.toNat < x.live.length:=by omega
   rw [getD_at false hdl] at h2
   (try conv=>whnf);repeat ((first|refine ⟨_,getZ (by omega),?_⟩|refine ⟨_,getI (by omega) (by omega),?_⟩|refine ⟨by omega,rfl,?_⟩|refine ⟨rfl,_,rfl,⟨rfl,rfl,by decide⟩,?_⟩|refine ⟨rfl,_,rfl,?_⟩|refine ⟨rfl,?_⟩);conv=>whnf)
   refine Br.intro (fun e=>?_) (fun e=>?_)
   ·rw [e] at h2
    simp only [if_true] at h2
    (try conv=>whnf);repeat ((first|refine ⟨in64 (by omega) (by omega),?_⟩);conv=>whnf)
    exact ⟨⟨k+1,hk',by show (hasS x.s t).length-(k+1) < (hasS x.s t).length-k;omega,Refi.back (H':=[.arr 0 7 [.g (tpart x)]]) (L:=[_]) rfl (Nat.zero_le _) (lt_all1 Blk.lt_g1) (by rw [h2];simp [subT,subV,tm,tmGo,cutV,ltB,ltS,posts])⟩⟩
   ·rw [e] at h2
    simp only [Bool.false_eq_true,if_false,Nat.add_zero] at h2
    (try conv=>whnf);repeat ((first|refine ⟨in64 (by omega) (by omega),?_⟩);conv=>whnf)
    exact ⟨⟨k+1,hk',by show (hasS x.s t).length-(k+1) < (hasS x.s t).length-k;omega,Refi.back (H':=[.arr 0 7 [.g (tpart x)]]) (L:=[_]) rfl (Nat.zero_le _) (lt_all1 Blk.lt_g1) (by rw [h2];simp [subT,subV,tm,tmGo,cutV,ltB,ltS,posts])⟩⟩
  ·have:k=(hasS x.s t).length:=by omega
   subst this
   try conv=>whnf
   exact ⟨Ends.ground (H:=[]) (L:=[_]) 0 rfl ⟨rfl,rfl⟩⟩
def dfC (l:List Cd) (t:ByteArray):Nat:=(l.filter fun c=>inL c.w t).length
noncomputable def dfS (p:Pl) (t:ByteArray):Int:=if PlOk p then (dfC p.buf t+(p.parts.map fun x=>dfPt x t (hasS x.s t).length).sum:Nat) else 0
theorem dfC_succ {l:List Cd} {k:Nat} {t:ByteArray} (hk:k < l.length):dfC (l.take (k+1)) t=dfC (l.take k) t+if inL l[k].w t then 1 else 0:=by
 rw [dfC,List.take_succ_eq_append_getElem hk,List.filter_append,List.length_append,List.filter_cons,List.filter_nil,dfC]
 split <;> simp
theorem df_le {p:Pl} (h:PlOk p) {t:ByteArray}:(p.parts.map fun x=>dfPt x t (hasS x.s t).length).sum≤64*p.parts.length:=sum_leP fun x hx=>by
 have h1:=has_len (h.parts.all x hx).seg (t:=t)
 have:=List.length_filter_le (fun q:Po=>x.live.getD q.1.toNat false) ((hasS x.s t).take (hasS x.s t).length)
 simp only [dfPt,List.length_take] at this ⊢
 omega
theorem c_stat_Df (p:Pl) (hb:bndP p) (t:ByteArray):CG Tryz.prog 19 [tpile p,.s t] (.i (dfS p t)):=by
 refine ⟨k_stat_Df.calls ?_⟩
 have hmb:(p.buf.map tcard).length=p.buf.length:=by simp
 have hb1:=hb.buf.1
 have cm:=c_pile_May p hb
 (try conv=>whnf);repeat ((first|refine (cm).go rfl ?_|refine ⟨rfl,_,rfl,?_⟩|refine ⟨⟨rfl,rfl⟩,?_⟩);conv=>whnf)
 refine Br.not (fun e1=>?_) (fun e1=>?_)
 ·have e1:=of_decide_eq_false e1
  try conv=>whnf
  exact ⟨Ends.ground (H:=[]) (L:=[_,_]) 0 rfl ⟨by rw [dfS,if_neg e1],rfl⟩⟩
 have hok:=of_decide_eq_true e1
 have hps:p.parts.length≤16:=hok.parts.le
 have hn:=df_le hok (t:=t)
 have o1:=c_stat_over p hb 56 [.ra 1 [.s t] 0 0] (fun x=>dfPt x t (hasS x.s t).length) (by omega) (fun i x h=>by match i,h with|0,h=>cases h;exact .ra) rfl
  fun x hx=>c_DfS1 x t (hok.parts.all x hx).seg (hb.part x hx).1 (hok.parts.all x hx).len
 generalize hN:(p.parts.map fun x=>dfPt x t (hasS x.s t).length).sum=N at o1 hn
 (try conv=>whnf);repeat ((first|refine ⟨rfl,_,rfl,?_⟩);conv=>whnf)
 refine SW.loopR (α:=Nat) (fun k=>tm 30 [(2,.pa 0 0 0 0),(3,.pa 1 0 0 0),(5,.g (.i (dfC (p.buf.take k) t))),(12,cards p.buf),(13,.g (.i p.buf.length)),(14,.g (.i k))]) (fun _=>[.arr 0 6 [.g (tpile p)],.arr 0 1 [.g (.s t)]]) (fun k=>k≤p.buf.length) (fun k=>p.buf.length-k) 0 ?_ ?_ ?_
 ·exact Nat.zero_le _
 ·exact Refi.sub rfl (by simp [subT,subV,tm,tmGo,cards,dfC])
 ·intro k hk
  dsimp only at hk ⊢
  conv=>whnf
  refine Br.dec (fun h=>?_) (fun h=>?_)
  ·have hk':k < p.buf.length:=by omega
   have h1:=dfC_succ (t:=t) hk'
   have hw:=pl_w hb.buf p.buf[k] (List.getElem_mem hk')
   have h3:dfC (p.buf.take k) t≤k:=by
    have:=List.length_filter_le (fun c:Cd=>inL c.w t) (p.buf.take k)
    simp only [dfC,List.length_take] at this ⊢
    omega
   have cc:=c_Contains_str p.buf[k].w t (by omega)
   (try conv=>whnf);repeat ((first|refine (cc).go rfl ?_|refine ⟨_,getZ (by omega),?_⟩|refine ⟨by omega,rfl,?_⟩|refine ⟨rfl,_,rfl,⟨rfl,rfl,by decide⟩,?_⟩|refine ⟨rfl,_,rfl,?_⟩|refine ⟨rfl,?_⟩);conv=>whnf)
   refine Br.intro (fun e=>?_) (fun e=>?_)
   ·rw [e] at h1
    simp only [if_true] at h1
    (try conv=>whnf);repeat ((first|refine ⟨in64 (by omega) (by omega),?_⟩);conv=>whnf)
    exact ⟨⟨k+1,hk',by show p.buf.length-(k+1) < p.buf.length-k;omega,Refi.back (H':=[.arr 0 6 [.g (tpile p)],.arr 0 1 [.g (.s t)]]) (L:=[_]) rfl (Nat.zero_le _) (lt_all2 Blk.lt_g1 Blk.lt_g1) (by rw [h1];simp [subT,subV,tm,tmGo,cutV,ltB,ltS,cards])⟩⟩
   ·rw [e] at h1
    simp only [Bool.false_eq_true,if_false,Nat.add_zero] at h1
    (try conv=>whnf);repeat ((first|refine ⟨in64 (by omega) (by omega),?_⟩);conv=>whnf)
    exact ⟨⟨k+1,hk',by show p.buf.length-(k+1) < p.buf.length-k;omega,Refi.back (H':=[.arr 0 6 [.g (tpile p)],.arr 0 1 [.g (.s t)]]) (L:=[_]) rfl (Nat.zero_le _) (lt_all2 Blk.lt_g1 Blk.lt_g1) (by rw [h1];simp [subT,subV,tm,tmGo,cutV,ltB,ltS,cards])⟩⟩
  ·have:k=p.buf.length:=by omega
   subst this
   have h3:dfC p.buf t≤p.buf.length:=List.length_filter_le _ _
   rw [List.take_length]
   (try conv=>whnf);repeat ((first|refine ⟨rfl,_,rfl,?_⟩);conv=>whnf)
   refine ACalls.cut (A:=[]) (L:=[.arr 0 6 [.g (tpile p)],.arr 0 1 [.g (.s t)]]) (A':=[]) (args:=[.g (tpile p),.fn 56 [.pa 1 0 0 0]]) (args':=[.g (tpile p),.fn 56 [.ra 1 [.s t] 0 0]]) 1 (noMp_cons (noMp_cons noMp_nil)) trivial ⟨.same,.fn rfl fun i x y h1 h2=>?_,trivial⟩ ?_
   ·match i,h1,h2 with
    | 0,h1,h2=>cases h1;cases h2;exact .gd rfl
   refine (o1.frame (fun i w hi=>?_) (fun r h ⟨h1,h2⟩=>⟨h2,by rw [h1];exact .g⟩) _).mono ?_
   ·match i,hi with
    | 0,hi=>cases hi;exact .g
    | 1,hi=>cases hi;exact .fn fun i v h=>by match i,h with|0,h=>cases h;exact .ra
   rintro r h ⟨⟨rfl,_⟩,rfl⟩
   (try conv=>whnf);repeat ((first|refine ⟨in64 (by omega) (by omega),?_⟩);conv=>whnf)
   exact ⟨Ends.ground (H:=[]) (L:=[_,_]) 0 rfl ⟨by rw [dfS,if_pos hok,hN];simp,rfl⟩⟩
end Go.Aw
namespace Go.Aw
open Go.Proofs Go.Sort Go.RowKit
set_option maxRecDepth 100000
set_option maxHeartbeats 1000000
def awX:Cd:=⟨⟨#[120]⟩,0,[⟨#[97]⟩,⟨#[98]⟩,⟨#[97]⟩]⟩
def awY:Cd:=⟨⟨#[121]⟩,0,[⟨#[98]⟩]⟩
abbrev aw0:Pl:=newPl false 3
abbrev aw1:Pl:=⟨false,3,[awX],[],[],1⟩
abbrev aw2:Pl:=⟨false,3,[awX,awY],[],[],1⟩
theorem aw0_ok:PlOk aw0:=new_ok.2 (by decide)
theorem aw_X:addR aw0 awX=(aw1,0):=by
 rw [addR,if_neg (by decide +kernel),if_neg (by decide +kernel),if_neg (by decide +kernel)];rfl
theorem aw1_ok:PlOk aw1:=ok_add (p:=aw0) (c:=awX) aw0_ok (by decide +kernel) (by decide +kernel)
theorem aw_Y:addR aw1 awY=(aw2,0):=by
 rw [addR,if_neg (by decide +kernel),if_neg (by decide +kernel),if_neg (by decide +kernel)];rfl
theorem aw2_ok:PlOk aw2:=ok_add (p:=aw1) (c:=awY) aw1_ok (by decide +kernel) (by decide +kernel)
theorem awX_bnd:bndC [awX]:=bnd_may (by simp;decide +kernel) (by simp)
theorem awY_bnd:bndC [awY]:=bnd_may (by simp;decide +kernel) (by simp)
theorem aw_of:ofS aw2=.ag [.i 2,.i 4]:=by rw [ofS,if_pos aw2_ok];rfl
theorem aw_dfa:dfS aw2 ⟨#[97]⟩=1:=by
 rw [dfS,if_pos aw2_ok]
 have:dfC aw2.buf ⟨#[97]⟩=1:=by decide +kernel
 rw [this];rfl
theorem aw_dfb:dfS aw2 ⟨#[98]⟩=2:=by
 rw [dfS,if_pos aw2_ok]
 have:dfC aw2.buf ⟨#[98]⟩=2:=by decide +kernel
 rw [this];rfl
theorem aw_idf:idfS 9 2=3:=by decide +kernel
theorem aw_norm:normS 10 4 20=3:=by decide +kernel
theorem c_law15_awake:CG Tryz.prog 15 [] (.b true):=by
 refine ⟨k_law15_awake.calls ?_⟩
 have c1:=c_pile_New false 3
 rw [if_pos (by decide)] at c1
 have c2:=c_pile_Add aw0 bnd_new awX awX_bnd
 rw [addK,doP,if_pos aw0_ok,aw_X] at c2
 dsimp only at c2
 have c3:=c_pile_Add aw1 (bnd_ok aw1_ok) awY awY_bnd
 rw [addK,doP,if_pos aw1_ok,aw_Y] at c3
 dsimp only at c3
 have c4:=c_stat_Of aw2 (bnd_ok aw2_ok)
 rw [aw_of] at c4
 have c5:=c_stat_Df aw2 (bnd_ok aw2_ok) ⟨#[97]⟩
 rw [aw_dfa] at c5
 have c6:=c_stat_Df aw2 (bnd_ok aw2_ok) ⟨#[98]⟩
 rw [aw_dfb] at c6
 have c7:=c_stat_Idf 9 2 ⟨by decide,by decide⟩ ⟨by decide,by decide⟩
 rw [aw_idf] at c7
 have c8:=c_stat_Norm 10 4 20
 rw [aw_norm] at c8
 (try conv=>whnf);repeat ((first|refine (c1).go rfl ?_|refine (c2).go rfl ?_|refine (c3).go rfl ?_|refine (c4).go rfl ?_|refine (c5).go rfl ?_|refine (c6).go rfl ?_|refine (c7).go rfl ?_|refine (c8).go rfl ?_|refine And.intro (show cellsAll _ _ from by repeat (first|exact trivial|refine ⟨⟨rfl,rfl⟩,?_⟩)) ?_|refine ⟨rfl,_,rfl,⟨rfl,rfl,by decide⟩,?_⟩|refine ⟨rfl,_,rfl,?_⟩|refine ⟨rfl,?_⟩|refine ⟨_,rfl,?_⟩);conv=>whnf)
 exact ⟨Ends.ground (H:=[]) (L:=[_]) 0 rfl ⟨rfl,rfl⟩⟩
theorem inI_of {n:Int} (h:inR .i64 n):inI n:=by
 simp [inR,IntKind.min,IntKind.max,IntKind.signed,IntKind.bits] at h
 exact ⟨by omega,by omega⟩
theorem c_Reckons (n df w a b:Int) (hn:inI n) (hd:inI df):CG Tryz.prog 4 [.i n,.i df,.i w,.ag [.i a,.i b]] (.b true):=by
 refine ⟨k_law15_StatReckons.calls ?_⟩
 have c1:=c_law15_awake
 have c2:=c_stat_Idf n df hn hd
 have c3:=c_ref15_Idf n df hn hd
 have c4:=c_stat_Norm w a b
 have c5:=c_ref15_Norm w a b
 (try conv=>whnf);repeat ((first|refine (c1).go rfl ?_|refine ⟨_,(c2).go rfl ⟨rfl,rfl⟩,?_⟩|refine ⟨_,(c3).go rfl ⟨rfl,rfl⟩,?_⟩|refine ⟨_,(c4).go rfl ⟨rfl,rfl⟩,?_⟩|refine ⟨_,(c5).go rfl ⟨rfl,rfl⟩,?_⟩|refine ⟨rfl,_,rfl,?_⟩|refine ⟨⟨rfl,rfl⟩,?_⟩|refine Br.dec (fun _=>?_) (fun hh=>absurd (by omega) hh));conv=>whnf)
 exact ⟨Ends.ground (H:=[]) (L:=[_]) 0 rfl ⟨by simp,rfl⟩⟩
theorem tv_two {t:T} (h:TV (.fc (.i .i64) (.fc (.i .i64) .fn)) t):∃ c:Int×Int,t=.ag [.i c.1,.i c.2]:=by
 obtain ⟨cs,h1,rfl⟩:=h
 obtain ⟨_,_,rfl,⟨n1,rfl,_⟩,_,_,rfl,⟨n2,rfl,_⟩,rfl⟩:=h1
 exact ⟨(n1,n2),rfl⟩
theorem c_law15_StatReckons:∀ ys,TVs [.i .i64,.i .i64,.i .i64,.fc (.i .i64) (.fc (.i .i64) .fn)] ys→CG Tryz.prog 4 ys (.b true):=by
 intro ys hy
 obtain ⟨y0,ys,rfl,h0,hy⟩:=tvs_cons hy
 obtain ⟨y1,ys,rfl,h1,hy⟩:=tvs_cons hy
 obtain ⟨y2,ys,rfl,h2,hy⟩:=tvs_cons hy
 obtain ⟨y3,ys,rfl,h3,hy⟩:=tvs_cons hy
 cases tvs_nil hy
 obtain ⟨n,rfl,hn⟩:=tv_int h0
 obtain ⟨d,rfl,hd⟩:=tv_int h1
 obtain ⟨w,rfl,_⟩:=tv_int h2
 obtain ⟨c,rfl⟩:=tv_two h3
 exact c_Reckons n d w c.1 c.2 (inI_of hn) (inI_of hd)
end Go.Aw
