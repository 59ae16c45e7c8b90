/- Contracts of functions of the given program, by the abstract walk, for law StatReckons: what each one hands back; no condition but those that each theorem states. -/
import Derived.Test.YtocdciahhlbknaaGreatC25
import Derived.Test.YtocdciahhlbknaaGreatC26
import Derived.Test.YtocdciahhlbknaaGreatL4
namespace Go.Aw
open Go.Proofs Go.Sort Go.RowKit
set_option maxRecDepth 100000
set_option maxHeartbeats 1000000
theorem vbls_set {l:List Bool} {n:Nat} {b:Bool}:(vbls l).set (0+((n:Nat):Int).toNat) (V.g (.b b))=vbls (l.set n b):=by simp [vbls,List.map_set]
theorem gr_twoP {n d:Nat} {h:List Blk} {v:V} {t:T} {i:T} (hg:gr n h (d+1) v=some t):optL ([v,.g i].map (gr n h (d+1)))=some [t,i]:=by
 show optL [gr n h (d+1) v,gr n h (d+1) (.g i)]=_
 rw [hg,gr_g];rfl
theorem c_live_Kill (l:List Bool) (hl:l.length < 1000000000) (i:Nat) (hi:i < l.length) (ht:l[i]=true):CV Tryz.prog 178 [tbools l,.i i] (.tu [.g (tbools (l.set i false)),.g (.b true)]):=by
 refine ⟨k_live_Kill.calls ?_,.tu fun i v hv=>by match i,hv with|0,rfl=>exact .g|1,rfl=>exact .g⟩
 have hm:(l.map T.b).length=l.length:=by simp
 have hv:(vbls l).length=l.length:=by simp [vbls]
 have ge:(vbls l)[0+((i:Nat):Int).toNat]?=some (V.g (.b l[i])):=getO (f:=fun b=>V.g (.b b)) hi
 try conv=>whnf
 refine ACalls.fl (args:=[.g (tbools l)]) (cl_bools l hl) [] rfl rfl rfl flatH.nil (by rintro r h ⟨g,_,rfl⟩;exact flatH.cons Blk.lt_g flatH.nil) ?_
 rintro r h ⟨g1,rfl,rfl⟩
 (try conv=>whnf);repeat ((first|refine ⟨_,getZ (by omega),?_⟩|refine ⟨by omega,rfl,?_⟩|refine Br.dec (fun hh=>absurd hh (by omega)) (fun _=>?_));conv=>whnf)
 rw [ht]
 (try conv=>whnf);repeat ((first|refine ⟨rfl,_,getO (by omega),?_⟩|refine ⟨⟨rfl,rfl,by decide⟩,?_⟩|refine ⟨⟨by omega,by omega⟩,⟨rfl,rfl⟩,?_⟩);conv=>whnf)
 show Fin _ _ (.tu [.own 0 g1 0 l.length,.g (.b true)]) [.arr g1 1 ((vbls l).set (0+((i:Nat):Int).toNat) (V.g (.b false)))]
 rw [vbls_set]
 refine ⟨Ends.grounds (H:=[]) (ts:=[tbools (l.set i false),.b true]) 1 (gr_twoP ?_) ⟨rfl,rfl⟩⟩
 exact gr_own (e:=T.b) rfl (Nat.le_refl _) (by simp) fun _ _=>gr_g
theorem c_goneS1 (c:Cd) (y:ByteArray):ACalls Tryz.prog 177 [.g (tcard c),.pa 0 0 0 0] [.arr 0 1 [.g (.s y)]] (fun r h=>r=.g (.b (decide (c.id=y)))∧h=[.arr 0 1 [.g (.s y)]]):=by
 refine k_pile_goneS1.calls ?_
 (try conv=>whnf);repeat ((first|refine ⟨rfl,_,rfl,?_⟩|refine ⟨⟨rfl,rfl⟩,?_⟩);conv=>whnf)
 rw [bl_beq]
 exact ⟨Ends.ground (H:=[.arr 0 1 [.g (.s y)]]) (L:=[_]) 0 rfl ⟨rfl,rfl⟩⟩
end Go.Aw
namespace Go.Aw
open Go.Proofs Go.Sort Go.RowKit
set_option maxRecDepth 100000
set_option maxHeartbeats 1000000
theorem hadP_eq {p:Pl} (h:PartsP p) {y:ByteArray}:hadP p y=(decide ((withO p.buf y).length < p.buf.length) || p.parts.any fun x=>decide (hasD x y)):=by
 rw [Bool.eq_iff_iff,hadP_iff,Bool.or_eq_true,decide_eq_true_iff,List.any_eq_true,idsPl,List.mem_append,List.mem_flatMap]
 refine or_congr ?_ ⟨fun ⟨x,hx,hy⟩=>⟨x,hx,decide_eq_true ((hasD_iff (h.all x hx).seg (h.all x hx).len).2 hy)⟩,fun ⟨x,hx,hy⟩=>⟨x,hx,(hasD_iff (h.all x hx).seg (h.all x hx).len).1 (of_decide_eq_true hy)⟩⟩
 constructor
 ·intro hy
  obtain ⟨c,hc,rfl⟩:=List.mem_map.1 hy
  refine Nat.lt_of_le_of_ne (List.length_filter_le _ _) fun e=>?_
  have:=(List.length_filter_eq_length_iff.1 e) c hc
  simp at this
 ·intro hl
  apply Classical.byContradiction
  intro hn
  have:withO p.buf y=p.buf:=List.filter_eq_self.2 fun c hc=>by
   have:c.id≠y:=fun e=>hn (List.mem_map.2 ⟨c,hc,e⟩)
   simp [this]
  rw [this] at hl
  omega
abbrev mixK (ps:List Pt) (y:ByteArray) (k:Nat):List Pt:=(ps.take k).map (killP · y)++ps.drop k
theorem mixK_len {ps:List Pt} {y:ByteArray} {k:Nat}:(mixK ps y k).length=ps.length:=by simp [mixK];omega
theorem mixK_get {ps:List Pt} {y:ByteArray} {k:Nat} (hk:k < ps.length):(vparts (mixK ps y k))[0+((k:Nat):Int).toNat]?=some (V.g (tpart ps[k])):=by
 have h1:k < (mixK ps y k).length:=by rw [mixK_len];exact hk
 have:(mixK ps y k)[k]=ps[k]:=by
  rw [List.getElem_append_right (by simp;omega)]
  simp [Nat.min_eq_left (Nat.le_of_lt hk)]
 rw [← this]
 exact getO (f:=fun c=>V.g (tpart c)) h1
theorem mixK_set {ps:List Pt} {y:ByteArray} {k:Nat} (hk:k < ps.length):(mixK ps y k).set k (killP ps[k] y)=mixK ps y (k+1):=by
 have hl:((ps.take k).map (killP · y)).length=k:=by simp;omega
 rw [mixK,mixK,List.set_append_right _ _ (by omega),hl,Nat.sub_self,List.drop_eq_getElem_cons hk,List.set_cons_zero,List.take_succ_eq_append_getElem hk,List.map_append,List.append_assoc]
 rfl
theorem mixK_same {ps:List Pt} {y:ByteArray} {k:Nat} (hk:k < ps.length) (h:killP ps[k] y=ps[k]):mixK ps y k=mixK ps y (k+1):=by
 have h1:=mixK_set (y:=y) hk
 rw [h] at h1
 rw [← h1]
 have h2:k < (mixK ps y k).length:=by rw [mixK_len];exact hk
 have:(mixK ps y k)[k]=ps[k]:=by
  rw [List.getElem_append_right (by simp;omega)]
  simp [Nat.min_eq_left (Nat.le_of_lt hk)]
 conv=>rhs;rw [← this]
 rw [List.set_getElem_self]
theorem oB_lt {s:Bool} {r x:Int} {b1 b2 b3 g1 g2 g3 n1 n2 n3 m:Nat} (h1:b1 < m) (h2:b2 < m) (h3:b3 < m):(Blk.arr 0 6 [.ag [.g (.b s),.g (.i r),.own b1 g1 0 n1,.own b2 g2 0 n2,.own b3 g3 0 n3,.g (.i x)]]).lt m:=by
 refine Blk.lt_of fun e he u hu=>?_
 simp only [List.mem_cons,List.not_mem_nil,or_false] at he;subst he
 simp only [V.cells,List.mem_cons,List.not_mem_nil,or_false] at hu
 rcases hu with rfl|rfl|rfl|rfl|rfl|rfl
 ·exact .g
 ·exact .g
 ·exact .own h1
 ·exact .own h2
 ·exact .own h3
 ·exact .g
theorem lt_all4 {m:Nat} {a b c d:Blk} (h1:a.lt m) (h2:b.lt m) (h3:c.lt m) (h4:d.lt m):∀ x∈[a,b,c,d],x.lt m:=by
 intro x hx
 simp only [List.mem_cons,List.not_mem_nil,or_false] at hx
 rcases hx with rfl|rfl|rfl|rfl
 ·exact h1
 ·exact h2
 ·exact h3
 ·exact h4
theorem lt_all5 {m:Nat} {a b c d e:Blk} (h1:a.lt m) (h2:b.lt m) (h3:c.lt m) (h4:d.lt m) (h5:e.lt m):∀ x∈[a,b,c,d,e],x.lt m:=by
 intro x hx
 rw [List.mem_cons] at hx
 rcases hx with rfl|hx
 ·exact h1
 ·exact lt_all4 h2 h3 h4 h5 x hx
def hpG (p:Pl) (g1 g2 g3:Nat):List Blk:=[.arr 0 6 [oPile p 1 2 3 g1 g2 g3],.arr g1 3 (vcards p.buf),.arr g2 7 (vparts p.parts),.arr g3 3 (vjobs p.jobs)]
def isG (p:Pl) (y:ByteArray) (k:Nat):Bool:=decide (((withO p.buf y).length:Int) < (p.buf.length:Int)) || (p.parts.take k).any fun x=>decide (hasD x y)
theorem c_pile_gone (p:Pl) (hb:bndP p) (hp:PartsP p) (y:ByteArray) (g1 g2 g3:Nat) :
  ACalls Tryz.prog 118 [.pa 0 0 0 0,.g (.s y)] (hpG p g1 g2 g3) (fun r h=>r=.g (.b (hadP p y))∧∃ n,h=[.arr 0 6 [oPile (goneP p y) 1 2 3 g1 g2 g3],.arr g1 3 (vcards (withO p.buf y)++List.replicate n zCd),.arr g2 7 (vparts (p.parts.map (killP · y))),.arr g3 3 (vjobs p.jobs)]):=by
 refine k_pile_gone.calls ?_
 unfold hpG
 have hmb:(vcards p.buf).length=p.buf.length:=by simp [vcards]
 have hmp:(vparts p.parts).length=p.parts.length:=by simp [vparts]
 have hb1:=hb.buf.1
 have hb2:=hb.parts
 (try conv=>whnf);repeat ((first|refine ⟨rfl,_,rfl,?_⟩|refine ⟨⟨rfl,rfl⟩,?_⟩);conv=>whnf)
 refine ACalls.fl (args:=[.own 0 g1 0 p.buf.length,.fn 177 [.pa 1 0 0 0]]) (c_DeleteFuncC p.buf g1 (by omega) (fun c=>decide (c.id=y)) 177 (.arr 0 1 [.g (.s y)]) Blk.lt_g1 (fun s _=>c_goneS1 s y)) [1,4] rfl rfl rfl (flatH.cons Blk.lt_g (flatH.cons Blk.lt_g1 flatH.nil)) (by rintro r h ⟨_,_,rfl⟩;exact flatH.cons zs_lt (flatH.cons Blk.lt_g1 flatH.nil)) ?_
 rintro r h ⟨n,rfl,rfl⟩
 (try conv=>whnf);repeat ((first|refine ⟨rfl,_,rfl,⟨rfl,rfl,by decide⟩,?_⟩|refine ⟨rfl,_,rfl,?_⟩);conv=>whnf)
 have hle:(withO p.buf y).length≤p.buf.length:=List.length_filter_le _ _
 let HH:List Pt→List Blk:=fun E=>[.arr 0 6 [.ag [.g (.b p.sort),.g (.i p.room),.own 1 g1 0 (withO p.buf y).length,.own 2 g2 0 p.parts.length,.own 3 g3 0 p.jobs.length,.g (.i p.next)]],.arr g1 3 (vcards (withO p.buf y)++List.replicate n zCd),.arr g2 7 (vparts E),.arr g3 3 (vjobs p.jobs),.arr 0 1 [.g (.s y)]]
 refine SW.loopR (α:=Nat) (fun k=>tm 71 [(0,.pa 0 0 0 0),(3,.pa 4 0 0 0),(6,.g (.b (isG p y k))),(34,.own 2 g2 0 p.parts.length),(35,.g (.i p.parts.length)),(36,.g (.i k))]) (fun k=>HH (mixK p.parts y k)) (fun k=>k≤p.parts.length) (fun k=>p.parts.length-k) 0 ?_ ?_ ?_
 ·exact Nat.zero_le _
 ·refine Refi.sub rfl ?_
  have:isG p y 0=decide (((withO p.buf y).length:Int) < (p.buf.length:Int)):=by simp [isG]
  rw [this]
  simp [subT,subV,tm,tmGo,sig,withO]
 ·intro k hk
  dsimp only at hk ⊢
  conv=>whnf
  refine Br.dec (fun h=>?_) (fun h=>?_)
  ·have hk':k < p.parts.length:=by omega
   obtain ⟨x,hx⟩:∃ x,p.parts[k]=x:=⟨_,rfl⟩
   have hxm:x∈p.parts:=hx▸List.getElem_mem hk'
   obtain ⟨hs,hlv⟩:=hb.part x hxm
   have gk:(vparts (mixK p.parts y k))[0+((k:Nat):Int).toNat]?=some (V.g (tpart x)):=by rw [mixK_get hk',hx]
   have hml:(vparts (mixK p.parts y k)).length=p.parts.length:=by simp only [vparts,List.length_map];exact mixK_len
   have hlen:=(hp.all x hxm).len
   have hmi:(x.s.ids.map T.s).length=x.s.ids.length:=by simp
   have hmlv:(x.live.map T.b).length=x.s.ids.length:=by simp [hlen]
   have hi1:=hs.1
   have ci:=c_slices_Index_str x.s.ids y (by omega)
   have hT:isG p y (k+1)=(isG p y k || decide (hasD x y)):=by
    simp only [isG]
    rw [List.take_succ_eq_append_getElem hk',List.any_append,hx,Bool.or_assoc]
    simp
   (try conv=>whnf);repeat ((first|refine ⟨rfl,_,gk,?_⟩|refine ⟨rfl,_,rfl,⟨rfl,rfl,by decide⟩,?_⟩|refine ⟨rfl,_,rfl,?_⟩|refine ⟨rfl,?_⟩|refine ⟨⟨by omega,by omega⟩,⟨rfl,rfl⟩,?_⟩);conv=>whnf)
   generalize hL:List.set [_] 0 _=LL
   obtain rfl:LL=[V.g (tpart x)]:=by rw [← hL];rfl
   clear hL
   try conv=>whnf
   by_cases hin:y∈x.s.ids
   ·obtain ⟨i,hi,ei,e1⟩:=idxS_mem hin
    rw [ei] at ci
    refine ci.go (args:=[strs x.s.ids,.g (.s y)]) rfl ?_
    have hiv:i < x.live.length:=by omega
    (try conv=>whnf);repeat ((first|refine ⟨_,getZ (by omega),?_⟩|refine ⟨by omega,rfl,?_⟩|refine ⟨rfl,_,rfl,?_⟩);conv=>whnf)
    refine Br.intro (fun e2=>?_) (fun e2=>?_)
    ·have hh:hasD x y:=by
      refine ⟨by omega,?_⟩
      rw [ei]
      simp [hiv,e2]
     have ck:=c_live_Kill x.live hlv i hiv e2
     have hkp:killP x y=⟨x.gen,x.s,x.live.set i false⟩:=by rw [killP,if_pos hh,ei];rfl
     (try conv=>whnf);repeat ((first|refine ⟨⟨rfl,rfl⟩,?_⟩|refine ⟨_,rfl,?_⟩);conv=>whnf)
     refine ⟨_,ck.gc,?_⟩
     (try conv=>whnf);repeat ((first|refine ⟨rfl,_,gk,⟨rfl,rfl,by decide⟩,?_⟩|refine ⟨⟨by omega,by omega⟩,⟨rfl,rfl⟩,?_⟩|refine ⟨in64 (by omega) (by omega),?_⟩);conv=>whnf)
     have hT1:isG p y (k+1)=true:=by rw [hT];simp [hh]
     refine ⟨⟨k+1,hk',by show p.parts.length-(k+1) < p.parts.length-k;omega,Refi.back (H':=HH (mixK p.parts y (k+1))) (L:=[.arr 0 7 [.g (tpart x)]]) ?_ (show 4≤5 by decide) (show ∀ x∈HH (mixK p.parts y (k+1)),x.lt 5 from lt_all5 (oB_lt (by decide) (by decide) (by decide)) zs_lt Blk.lt_g Blk.lt_g Blk.lt_g1) (by rw [hT1];simp [HH,subT,subV,tm,tmGo,cutV,ltB,ltS])⟩⟩
     rw [← mixK_set hk',hx,hkp]
     have hv:vparts ((mixK p.parts y k).set k ⟨x.gen,x.s,x.live.set i false⟩)=(vparts (mixK p.parts y k)).set (0+((k:Nat):Int).toNat) (V.g (tpart ⟨x.gen,x.s,x.live.set i false⟩)):=by simp [vparts,List.map_set]
     show _=HH _++_
     simp only [HH]
     rw [hv]
     rfl
    ·have hh:¬ hasD x y:=by
      rintro ⟨_,h2⟩
      rw [ei] at h2
      simp [hiv,e2] at h2
     have hkp:killP p.parts[k] y=p.parts[k]:=by rw [hx,killP,if_neg hh]
     have hT1:isG p y (k+1)=isG p y k:=by rw [hT];simp [hh]
     (try conv=>whnf);repeat ((first|refine ⟨in64 (by omega) (by omega),?_⟩);conv=>whnf)
     rw [mixK_same hk' hkp]
     refine ⟨⟨k+1,hk',by show p.parts.length-(k+1) < p.parts.length-k;omega,Refi.back (H':=HH (mixK p.parts y (k+1))) (L:=[.arr 0 7 [.g (tpart x)]]) ?_ (show 4≤5 by decide) (show ∀ x∈HH (mixK p.parts y (k+1)),x.lt 5 from lt_all5 (oB_lt (by decide) (by decide) (by decide)) zs_lt Blk.lt_g Blk.lt_g Blk.lt_g1) (by rw [hT1];simp [HH,subT,subV,tm,tmGo,cutV,ltB,ltS])⟩⟩
     rfl
   ·have ei:=idxS_no hin
    rw [ei] at ci
    refine ci.go (args:=[strs x.s.ids,.g (.s y)]) rfl ?_
    have hh:¬ hasD x y:=by
     rintro ⟨h2,_⟩
     rw [ei] at h2
     omega
    have hkp:killP p.parts[k] y=p.parts[k]:=by rw [hx,killP,if_neg hh]
    have hT1:isG p y (k+1)=isG p y k:=by rw [hT];simp [hh]
    (try conv=>whnf);repeat ((first|refine ⟨in64 (by omega) (by omega),?_⟩);conv=>whnf)
    rw [mixK_same hk' hkp]
    refine ⟨⟨k+1,hk',by show p.parts.length-(k+1) < p.parts.length-k;omega,Refi.back (H':=HH (mixK p.parts y (k+1))) (L:=[.arr 0 7 [.g (tpart x)]]) ?_ (show 4≤5 by decide) (show ∀ x∈HH (mixK p.parts y (k+1)),x.lt 5 from lt_all5 (oB_lt (by decide) (by decide) (by decide)) zs_lt Blk.lt_g Blk.lt_g Blk.lt_g1) (by rw [hT1];simp [HH,subT,subV,tm,tmGo,cutV,ltB,ltS])⟩⟩
    rfl
  ·have:k=p.parts.length:=by omega
   subst this
   try conv=>whnf
   have hop:oPile (goneP p y) 1 2 3 g1 g2 g3=.ag [.g (.b p.sort),.g (.i p.room),.own 1 g1 0 (withO p.buf y).length,.own 2 g2 0 p.parts.length,.own 3 g3 0 p.jobs.length,.g (.i p.next)]:=by simp [oPile,goneP]
   have hmx:mixK p.parts y p.parts.length=p.parts.map (killP · y):=by simp [mixK]
   have his:isG p y p.parts.length=hadP p y:=by rw [hadP_eq hp,isG,List.take_length];simp
   rw [hmx,his]
   exact ⟨Ends.cut (H:=[.arr 0 6 [oPile p 1 2 3 g1 g2 g3],.arr g1 3 (vcards p.buf),.arr g2 7 (vparts p.parts),.arr g3 3 (vjobs p.jobs)]) (H2:=[.arr 0 6 [.ag [.g (.b p.sort),.g (.i p.room),.own 1 g1 0 (withO p.buf y).length,.own 2 g2 0 p.parts.length,.own 3 g3 0 p.jobs.length,.g (.i p.next)]],.arr g1 3 (vcards (withO p.buf y)++List.replicate n zCd),.arr g2 7 (vparts (p.parts.map (killP · y))),.arr g3 3 (vjobs p.jobs)]) (L:=[.arr 0 1 [.g (.s y)]]) rfl (lt_all4 (m:=4) (oB_lt (by decide) (by decide) (by decide)) zs_lt Blk.lt_g Blk.lt_g) .g ⟨rfl,n,by rw [hop]⟩⟩
end Go.Aw
namespace Go.Aw
open Go.Proofs Go.Sort Go.RowKit
set_option maxRecDepth 100000
set_option maxHeartbeats 1000000
noncomputable abbrev PT (p:Pl) (r:Pl×Int):Prg:=PR (fun c h=>c=r.2∧r.1=p∧panDo p h)
theorem oP_lt {p:Pl} {b1 b2 b3 g1 g2 g3 m:Nat} (h1:b1 < m) (h2:b2 < m) (h3:b3 < m):(Blk.arr 0 6 [oPile p b1 b2 b3 g1 g2 g3]).lt m:=oB_lt h1 h2 h3
theorem vc_lt {l:List Cd} {g m:Nat}:(Blk.arr g 3 (vcards l)).lt m:=Blk.lt_g
theorem vp_lt {l:List Pt} {g m:Nat}:(Blk.arr g 7 (vparts l)).lt m:=Blk.lt_g
theorem vj_lt {l:List Jb} {g m:Nat}:(Blk.arr g 3 (vjobs l)).lt m:=Blk.lt_g
theorem c_goneAt (p:Pl) (hb:bndP p) (hp:PartsP p) (y:ByteArray) (g1 g2 g3:Nat) (B0 B2:Blk) (L:List Blk) :
  ACalls Tryz.prog 118 [.pa 1 0 0 0,.g (.s y)] (B0::.arr 0 6 [oPile p 3 4 5 g1 g2 g3]::B2::.arr g1 3 (vcards p.buf)::.arr g2 7 (vparts p.parts)::.arr g3 3 (vjobs p.jobs)::L)
   (fun r h=>r=.g (.b (hadP p y))∧∃ n,h=B0::.arr 0 6 [oPile (goneP p y) 3 4 5 g1 g2 g3]::B2::.arr g1 3 (vcards (withO p.buf y)++List.replicate n zCd)::.arr g2 7 (vparts (p.parts.map (killP · y)))::.arr g3 3 (vjobs p.jobs)::L):=by
 refine (ACalls.at (H:=B0::.arr 0 6 [oPile p 3 4 5 g1 g2 g3]::B2::.arr g1 3 (vcards p.buf)::.arr g2 7 (vparts p.parts)::.arr g3 3 (vjobs p.jobs)::L) (c_pile_gone p hb hp y g1 g2 g3) [1,3,4,5] (by decide) ?_ rfl ?_ ?_).mono ?_
 ·intro b hb
  simp only [List.mem_cons,List.not_mem_nil,or_false] at hb
  simp only [List.length_cons]
  omega
 ·intro i x hx
  match i,hx with
  | 0,hx=>cases hx;exact ⟨rfl,oP_lt (show 1 < 4 by decide) (show 2 < 4 by decide) (show 3 < 4 by decide)⟩
  | 1,hx=>cases hx;exact ⟨by rw [renB_flat _ vc_lt];rfl,vc_lt⟩
  | 2,hx=>cases hx;exact ⟨by rw [renB_flat _ vp_lt];rfl,vp_lt⟩
  | 3,hx=>cases hx;exact ⟨by rw [renB_flat _ vj_lt];rfl,vj_lt⟩
  | n+4,hx=>simp [hpG] at hx
 ·intro i v hv
  match i,hv with
  | 0,hv=>cases hv;exact .pa (show 0 < 4 by decide)
  | 1,hv=>cases hv;exact .g
  | n+2,hv=>simp at hv
 ·rintro r h ⟨r0,h0,⟨rfl,n,rfl⟩,rfl,rfl⟩
  refine ⟨rfl,n,?_⟩
  simp only [List.map_cons,List.map_nil]
  rw [renB_flat _ zs_lt,renB_flat _ vp_lt,renB_flat _ vj_lt]
  exact List.append_nil _
theorem bld1 {c:Cd}:(buildS [c] false).2=1↔mayC c=false:=by
 unfold buildS
 cases h:mayC c
 ·simp [okL,h]
 ·have:okL [c]=true:=by simp [okL,h]
  rw [this]
  simp
  split <;> simp
theorem c_AddS1 (p:Pl) (hok:PlOk p) (c:Cd) (hc:bndC [c]) (g1 g2 g3:Nat) :
  PCalls (PT p (addR p c)) 117 [.pa 1 0 0 0,.ra 3 [tcard c] 0 0] (hpDo p g1 g2 g3) (fun _ h=>(addR p c).2=0∧okDo p (addR p c).1 h):=by
 refine k_pile_AddS1.pcalls ?_
 unfold hpDo
 have hb:=bnd_ok hok
 have cb:=c_seg_Build [c] false hc
 (try conv=>whnf);repeat ((first|refine And.intro (show cellsAll _ _ from by repeat (first|exact trivial|refine ⟨⟨rfl,rfl⟩,?_⟩)) ?_|refine ⟨_,rfl,?_⟩);conv=>whnf)
 refine ACalls.pc (P:=PT p (addR p c)) (cb.go (args:=[.g (tcards [c]),.g (.b false)]) rfl ?_)
 (try conv=>whnf);repeat ((first|refine ⟨rfl,_,rfl,⟨rfl,rfl,by decide⟩,?_⟩|refine ⟨rfl,?_⟩);conv=>whnf)
 generalize hL:List.set [_] 0 _=LL
 obtain rfl:LL=[V.g (tseg (buildS [c] false).1)]:=by rw [← hL];rfl
 clear hL
 try conv=>whnf
 refine p_need _ _ _ (fun e1=>?_) (fun e1=>?_)
 rotate_left
 ·have e1:mayC c=false:=bld1.1 (by simpa using e1)
  have hr:addR p c=(p,1):=by rw [addR,if_pos e1]
  rw [hr]
  exact ⟨rfl,rfl,_,_,rfl,rfl⟩
 have e1:mayC c=true:=by
  cases h:mayC c
  ·have:=bld1.2 h;simp [this] at e1
  ·rfl
 (try conv=>whnf);repeat ((first|refine ⟨_,rfl,?_⟩);conv=>whnf)
 refine ACalls.pc (P:=PT p (addR p c)) ((c_goneAt p hb hok.parts c.id g1 g2 g3 _ _ [.arr 0 5 [.g (tseg (buildS [c] false).1)]]).mono ?_)
 rintro r h ⟨rfl,n,rfl⟩
 (try conv=>whnf);repeat ((first|refine ⟨rfl,_,rfl,?_⟩);conv=>whnf)
 have hW:(goneP p c.id).buf=withO p.buf c.id:=rfl
 have hR:(goneP p c.id).room=p.room:=rfl
 refine p_need _ _ _ (fun e2=>?_) (fun e2=>?_)
 rotate_left
 ·have e2:=of_decide_eq_false e2
  rw [hW,hR] at e2
  have hr:addR p c=(p,4):=by rw [addR,if_neg (by rw [e1];simp),if_pos (by omega)]
  rw [hr]
  exact ⟨rfl,rfl,_,_,rfl,rfl⟩
 have e2:=of_decide_eq_true e2
 rw [hW,hR] at e2
 have hroom:=hok.room.2
 have hlW:(withO p.buf c.id).length < 64:=by omega
 have hmW:∀ x∈withO p.buf c.id++[c],mayC x=true:=by
  intro x hx
  rw [List.mem_append,List.mem_singleton] at hx
  rcases hx with hx|rfl
  ·exact pl_may hok x (List.mem_append_left _ (List.mem_filter.1 hx).1)
  ·exact e1
 have hbd:bndC (withO p.buf c.id++[c]):=bnd_may hmW (by simp;omega)
 have cc:=cd_cards [c] (by simp) (pl_w hc)
 (try conv=>whnf);repeat ((first|refine And.intro (show cellsAll _ _ from by repeat (first|exact trivial|refine ⟨⟨rfl,rfl⟩,?_⟩)) ?_|refine ⟨rfl,_,rfl,?_⟩|refine ⟨_,rfl,?_⟩);conv=>whnf)
 refine ⟨_,cc.go (args:=[.g (tcards [c])]) rfl ⟨rfl,rfl⟩,?_⟩
 (try conv=>whnf);repeat ((first|refine ⟨rfl,?_⟩);conv=>whnf)
 refine ⟨by rw [hW];simp;omega,⟨rfl,rfl,rfl⟩,_,⟨_,rfl⟩,by rw [hW];simp [vcards],?_⟩
 rw [show vcards (withO p.buf c.id)++List.map V.g (List.map tcard [c])=vcards (withO p.buf c.id++[c]) by simp [vcards]]
 (try conv=>whnf);repeat ((first|refine ⟨rfl,_,rfl,⟨rfl,rfl,by decide⟩,?_⟩|refine ⟨rfl,_,rfl,?_⟩);conv=>whnf)
 have hl1:(goneP p c.id).buf.length+1=(vcards (withO p.buf c.id++[c])).length:=by rw [hW];simp [vcards]
 refine PCalls.cut (A:=[.arr 0 6 [.g (tpile p)],.arr 0 6 [.ag [.g (.b p.sort),.g (.i p.room),.own 3 (g1+1) 0 ((goneP p c.id).buf.length+1),.own 4 g2 0 (p.parts.map (killP · c.id)).length,.own 5 g3 0 p.jobs.length,.g (.i p.next)]],.arr 0 1 [.g (.i 0)]])
  (L:=[.arr (g1+1) 3 (vcards (withO p.buf c.id++[c])),.arr g2 7 (vparts (p.parts.map (killP · c.id))),.arr g3 3 (vjobs p.jobs),.arr 0 5 [.g (tseg (buildS [c] false).1)]])
  (A':=[.arr 0 6 [.g (tpile p)],.arr 0 6 [.ag [.g (.b p.sort),.g (.i p.room),.g (.sl 3 ((withO p.buf c.id++[c]).map tcard)),.g (.sl 7 ((p.parts.map (killP · c.id)).map tpart)),.g (.sl 3 (p.jobs.map tjob)),.g (.i p.next)]],.arr 0 1 [.g (.i 0)]])
  (args:=[.own 3 (g1+1) 0 ((goneP p c.id).buf.length+1),.g (.b false)]) (args':=[.g (tcards (withO p.buf c.id++[c])),.g (.b false)]) 2 (noMp_cons (noMp_cons (noMp_cons (noMp_cons (noMp_cons (noMp_cons (noMp_cons noMp_nil))))))) ?_ ?_ ?_
 ·have h1:gr 3 ([Blk.arr 0 6 [.g (tpile p)],.arr 0 6 [.ag [.g (.b p.sort),.g (.i p.room),.own 3 (g1+1) 0 ((goneP p c.id).buf.length+1),.own 4 g2 0 (p.parts.map (killP · c.id)).length,.own 5 g3 0 p.jobs.length,.g (.i p.next)]],.arr 0 1 [.g (.i 0)]] ++
    [.arr (g1+1) 3 (vcards (withO p.buf c.id++[c])),.arr g2 7 (vparts (p.parts.map (killP · c.id))),.arr g3 3 (vjobs p.jobs),.arr 0 5 [.g (tseg (buildS [c] false).1)]]) 2 (.own 3 (g1+1) 0 ((goneP p c.id).buf.length+1))=some (.sl 3 ((withO p.buf c.id++[c]).map tcard)):=gr_own rfl (Nat.le_refl _) (by rw [hW];simp) fun _ _=>gr_g
  refine ⟨.inl rfl,CvB.one rfl ⟨.same,.same,.own h1,.own (gr_own (e:=tpart) rfl (show 3≤4 by decide) (by simp) fun _ _=>gr_g),.own (gr_own (e:=tjob) rfl (show 3≤5 by decide) rfl fun _ _=>gr_g),.same,trivial⟩,.inl rfl,trivial⟩
 ·exact ⟨.own (gr_own (e:=tcard) rfl (Nat.le_refl _) (by rw [hW];simp) fun _ _=>gr_g),.same,trivial⟩
 have cb2:=c_seg_Build (withO p.buf c.id++[c]) false hbd
 refine ACalls.pc (P:=PT p (addR p c)) (cb2.go rfl ?_)
 try conv=>whnf
 refine p_need _ _ _ (fun e3=>?_) (fun e3=>?_)
 rotate_left
 ·have e3:(buildS (withO p.buf c.id++[c]) false).2≠0:=by simpa using e3
  have hr:addR p c=(p,8):=by rw [addR,if_neg (by rw [e1];simp),if_neg (by omega),if_pos e3]
  rw [hr]
  exact ⟨rfl,rfl,_,_,rfl,rfl⟩
 have e3:(buildS (withO p.buf c.id++[c]) false).2=0:=by simpa using e3
 have hr:addR p c=(addB' p c,0):=by rw [addR,if_neg (by rw [e1];simp),if_neg (by omega),if_neg (by simp [e3])]
 try conv=>whnf
 rw [hr]
 exact ⟨Ends.keep ⟨rfl,_,_,_,_,1,rfl,rfl,rfl⟩⟩
end Go.Aw
namespace Go.Aw
open Go.Proofs Go.Sort Go.RowKit
set_option maxRecDepth 100000
set_option maxHeartbeats 1000000
theorem c_tryC {p:Pl} (hb:bndP p) {f sz:Nat} {t:T} {r:Pl×Int} (hdo:PlOk p→∀ g1 g2 g3,PCalls (PT p r) f [.pa 1 0 0 0,.ra sz [t] 0 0] (hpDo p g1 g2 g3) (fun _ h=>r.2=0∧okDo p r.1 h)) :
  ACalls Tryz.prog 65 [.g (tpile p),.fn f [.pa 0 0 0 0]] [.arr 0 sz [.g t]] (fun v h=>v=.tu [.g (tpile (doP p r).1),.g (.i (doP p r).2)]∧h=[deadB (.arr 0 sz [.g t])]):=by
 refine ACalls.cut (A:=[]) (L:=[.arr 0 sz [.g t]]) (A':=[]) (args':=[.g (tpile p),.fn f [.ra sz [t] 0 0]]) 1 (noMp_cons noMp_nil) trivial ⟨.same,.fn rfl fun i x y h1 h2=>?_,trivial⟩ ?_
 ·match i,h1,h2 with
  | 0,h1,h2=>cases h1;cases h2;exact .gd rfl
 refine (ACalls.at (H:=[deadB (.arr 0 sz [.g t])]) (c_pile_try hb hdo) [] (by decide) (by simp) rfl (by simp) ?_).mono ?_
 ·intro i v hv
  match i,hv with
  | 0,hv=>cases hv;exact .g
  | 1,hv=>cases hv;exact .fn fun i v h=>by match i,h with|0,h=>cases h;exact .ra
 ·rintro v h ⟨r0,h0,⟨rfl,rfl⟩,rfl,rfl⟩
  exact ⟨rfl,rfl⟩
theorem c_pile_Add (p:Pl) (hb:bndP p) (c:Cd) (hc:bndC [c]):CV Tryz.prog 47 [tpile p,tcard c] (.tu [.g (tpile (addK p c).1),.g (.i (addK p c).2)]):=by
 refine ⟨k_pile_Add.calls ?_,.tu fun i v hv=>by match i,hv with|0,rfl=>exact .g|1,rfl=>exact .g⟩
 (try conv=>whnf);repeat ((first|refine ⟨rfl,_,rfl,?_⟩|refine ⟨⟨rfl,rfl⟩,?_⟩|refine ⟨rfl,?_⟩);conv=>whnf)
 refine ACalls.fl (args:=[.g (tpile p),.fn 117 [.pa 0 0 0 0]]) (c_tryC hb fun hok=>c_AddS1 p hok c hc) [1] rfl rfl rfl (flatH.cons Blk.lt_g1 flatH.nil) (by rintro r h ⟨_,rfl⟩;exact flatH.cons (Blk.lt_of fun e he=>by simp at he) flatH.nil) ?_
 rintro r h ⟨rfl,rfl⟩
 (try conv=>whnf);repeat ((first|refine ⟨rfl,_,rfl,⟨rfl,rfl,by decide⟩,?_⟩|refine ⟨rfl,_,rfl,?_⟩);conv=>whnf)
 exact ⟨Ends.grounds (H:=[]) (ts:=[tpile (addK p c).1,.i (addK p c).2]) 0 rfl ⟨rfl,rfl⟩⟩
abbrev newPl (b:Bool) (n:Int):Pl:=⟨b,n,[],[],[],1⟩
theorem new_ok {b:Bool} {n:Int}:PlOk (newPl b n)↔1≤n∧n≤64:=⟨fun h=>h.room,ok_new⟩
theorem bnd_new {b:Bool} {n:Int}:bndP (newPl b n) :=
 ⟨⟨by simp,by simp,by simp⟩,by simp,by simp,by simp,by simp,by simp⟩
def tconf (b:Bool) (n:Int):T:=.ag [.b b,.i n]
theorem c_pile_New (b:Bool) (n:Int):CV Tryz.prog 44 [tconf b n] (if 1≤n∧n≤64 then .tu [.g (tpile (newPl b n)),.g (.b true)] else .tu [.g (tpile ⟨false,0,[],[],[],0⟩),.g (.b false)]):=by
 refine ⟨k_pile_New.calls ?_,by split <;> exact .tu fun i v hv=>by match i,hv with|0,rfl=>exact .g|1,rfl=>exact .g⟩
 (try conv=>whnf);repeat ((first|refine ⟨rfl,_,rfl,⟨rfl,rfl,by decide⟩,?_⟩|refine ⟨rfl,_,rfl,?_⟩|refine ⟨⟨rfl,rfl⟩,?_⟩|refine ⟨rfl,?_⟩);conv=>whnf)
 refine (c_pile_May (newPl b n) bnd_new).lend trivial 1 (args:=[.ag [.g (.b b),.g (.i n),.nil 3,.nil 7,.nil 3,.g (.i 1)]]) rfl ?_
 try conv=>whnf
 refine Br.not (fun e=>?_) (fun e=>?_)
 ·have e1:¬ (1≤n∧n≤64):=fun h=>(of_decide_eq_false e) (new_ok.2 h)
  rw [if_neg e1]
  (try conv=>whnf);repeat ((first|refine ⟨rfl,_,rfl,⟨rfl,rfl,by decide⟩,?_⟩|refine ⟨rfl,_,rfl,?_⟩);conv=>whnf)
  exact ⟨Ends.grounds (H:=[]) (ts:=[tpile ⟨false,0,[],[],[],0⟩,.b false]) 2 rfl ⟨rfl,rfl⟩⟩
 ·have e1:1≤n∧n≤64:=new_ok.1 (of_decide_eq_true e)
  rw [if_pos e1]
  (try conv=>whnf);repeat ((first|refine ⟨rfl,_,rfl,⟨rfl,rfl,by decide⟩,?_⟩|refine ⟨rfl,_,rfl,?_⟩);conv=>whnf)
  exact ⟨Ends.grounds (H:=[]) (ts:=[tpile (newPl b n),.b true]) 2 rfl ⟨rfl,rfl⟩⟩
end Go.Aw
namespace Go.Aw
open Go.Proofs Go.Sort Go.RowKit
set_option maxRecDepth 100000
set_option maxHeartbeats 1000000
theorem c_bits_Len (x:Int) (h0:0≤x) (h1:x≤18446744073709551615):CG Tryz.prog 58 [.sc (.int .u64 x)] (.i (Lib.bitLen x.toNat)):=by
 refine ⟨⟨⟨Tryz.f58,Tryz.func58,by kernel_rfl,by kernel_rfl⟩,fun γ I w vs r hl hv=>?_⟩⟩
 match vs,hl with
 | [a],_ =>
  have ha:=hv 0 _ rfl
  simp only [List.getD_cons_zero] at ha
  cases ha with|g ha =>
  cases ha
  refine (Tryz.bits_Len x w h0 h1).mono ?_
  rintro e w' ⟨rfl,rfl⟩
  exact ⟨_,_,[],γ,I,rfl,⟨rfl,rfl⟩,r,.g (.sc rfl),Ext.refl ..⟩
def idfS (n df:Int):Int:=if df < 1∨n < df then 0 else (Lib.bitLen (n / df).toNat:Nat)
def inI (n:Int):Prop:=-9223372036854775808≤n∧n≤9223372036854775807
theorem quo_pos {n df:Int} (h1:1≤df) (h2:df≤n):n.tdiv df=n / df:=by
 rw [Int.tdiv_eq_ediv_of_nonneg (by omega)]
theorem quo_le {n df:Int} (h1:1≤df) (h2:df≤n):1≤n / df∧n / df≤n:=by
 constructor
 ·exact (Int.le_ediv_iff_mul_le (by omega)).2 (by omega)
 ·exact Int.ediv_le_self _ (by omega)
theorem c_stat_Idf (n df:Int) (hn:inI n) (hd:inI df):CG Tryz.prog 21 [.i n,.i df] (.i (idfS n df)):=by
 refine ⟨k_stat_Idf.calls ?_⟩
 obtain ⟨n1,n2⟩:=hn
 obtain ⟨d1,d2⟩:=hd
 try conv=>whnf
 refine Br.dec (fun h1=>?_) (fun h1=>?_)
 ·try conv=>whnf
  exact ⟨Ends.keep ⟨by rw [idfS,if_pos (.inl h1)],rfl⟩⟩
 try conv=>whnf
 refine Br.dec (fun h2=>?_) (fun h2=>?_)
 ·try conv=>whnf
  exact ⟨Ends.keep ⟨by rw [idfS,if_pos (.inr h2)],rfl⟩⟩
 have hq:=quo_pos (n:=n) (df:=df) (by omega) (by omega)
 have hl:=quo_le (n:=n) (df:=df) (by omega) (by omega)
 obtain ⟨q,hqe⟩:∃ q,n.tdiv df=q:=⟨_,rfl⟩
 rw [hq] at hqe
 have hw:IntKind.u64.wrap q=q:=wrap_in (by simp [inR,IntKind.min,IntKind.max,IntKind.signed,IntKind.bits];omega)
 have cl:=c_bits_Len q (by omega) (by omega)
 conv=>whnf
 refine ⟨by omega,by rw [hq,hqe];exact in64 (by omega) (by omega),?_⟩
 rw [hq,hqe]
 try conv=>whnf
 rw [hw]
 refine cl.go rfl ?_
 try conv=>whnf
 exact ⟨Ends.keep ⟨by rw [idfS,if_neg (by omega),hqe],rfl⟩⟩
theorem bl_succ {f x:Nat} (hx:0 < x):Lib.bitLenAux (f+1) x=1+Lib.bitLenAux f (x / 2):=by rw [Lib.bitLenAux,if_neg (by omega)]
theorem bl_zero {f:Nat}:Lib.bitLenAux f 0=0:=by cases f <;> simp [Lib.bitLenAux]
theorem c_ref15_Idf (n df:Int) (hn:inI n) (hd:inI df):CG Tryz.prog 22 [.i n,.i df] (.i (idfS n df)):=by
 refine ⟨k_ref15_Idf.calls ?_⟩
 obtain ⟨n1,n2⟩:=hn
 obtain ⟨d1,d2⟩:=hd
 try conv=>whnf
 refine Br.dec (fun h1=>?_) (fun h1=>?_)
 ·try conv=>whnf
  exact ⟨Ends.keep ⟨by rw [idfS,if_pos (.inl h1)],rfl⟩⟩
 try conv=>whnf
 refine Br.dec (fun h2=>?_) (fun h2=>?_)
 ·try conv=>whnf
  exact ⟨Ends.keep ⟨by rw [idfS,if_pos (.inr h2)],rfl⟩⟩
 have hq:=quo_pos (n:=n) (df:=df) (by omega) (by omega)
 have hl:=quo_le (n:=n) (df:=df) (by omega) (by omega)
 obtain ⟨q,hqe⟩:∃ q:Nat,n / df=q:=⟨(n / df).toNat,by omega⟩
 try conv=>whnf
 refine ⟨by omega,by rw [hq,hqe];exact in64 (by omega) (by omega),?_⟩
 rw [hq,hqe]
 try conv=>whnf
 have hres:idfS n df=(Lib.bitLen q:Nat):=by rw [idfS,if_neg (by omega),hqe];rfl
 refine SW.loopR (α:=Nat×Nat) (fun a=>tm 24 [(5,.g (.i a.1)),(6,.g (.i a.2))]) (fun _=>[]) (fun a=>Lib.bitLenAux 64 q=a.1+Lib.bitLenAux (64-a.1) a.2∧a.2 < 2 ^ (64-a.1)∧a.1≤64∧a.2≤q) (fun a=>a.2) (0,q) ?_ ?_ ?_
 ·refine ⟨by simp,?_,by simp,Nat.le_refl _⟩
  show q < 2 ^ 64
  omega
 ·exact Refi.sub rfl (by simp [subT,subV,tm,tmGo])
 ·rintro ⟨d,x⟩ ⟨h3,h4,h5,h9⟩
  dsimp only at h3 h4 h5 h9 ⊢
  conv=>whnf
  refine Br.dec (fun h=>?_) (fun h=>?_)
  ·have h6:d < 64:=by
    rcases Nat.lt_or_ge d 64 with h|h
    ·exact h
    ·rw [show 64-d=0 by omega] at h4;simp at h4;omega
   have ex:(x:Int).tdiv 2=((x / 2:Nat):Int):=(Int.ofNat_tdiv x 2).symm
   (try conv=>whnf);repeat ((first|refine ⟨in64 (by omega) (by omega),?_⟩);conv=>whnf)
   refine ⟨by omega,by rw [ex];exact in64 (by omega) (by omega),?_⟩
   rw [ex]
   try conv=>whnf
   refine ⟨⟨(d+1,x / 2),⟨?_,?_,h6,by show x / 2≤q;omega⟩,by show x / 2 < x;omega,Refi.sub rfl (by simp [subT,subV,tm,tmGo])⟩⟩
   ·rw [h3,show 64-d=(64-(d+1))+1 by omega,bl_succ (by omega)]
    dsimp only;omega
   ·have:2 ^ (64-d)=2*2 ^ (64-(d+1)):=by rw [show 64-d=(64-(d+1))+1 by omega,Nat.pow_succ];omega
    dsimp only;omega
  ·have:x=0:=by omega
   subst this
   rw [bl_zero] at h3
   try conv=>whnf
   exact ⟨Ends.keep ⟨by rw [hres,Lib.bitLen,h3];rfl,rfl⟩⟩
theorem c_stat_fits (n e:Int):CG Tryz.prog 59 [.i n,.i e] (.b (decide (0≤n∧n≤e))):=by
 refine ⟨k_stat_fits.calls ?_⟩
 try conv=>whnf
 refine Br.dec (fun h1=>?_) (fun h1=>?_)
 ·try conv=>whnf
  exact ⟨Ends.keep ⟨by simp [h1],rfl⟩⟩
 ·try conv=>whnf
  exact ⟨Ends.keep ⟨by rw [decide_eq_false (by omega)],rfl⟩⟩
def normS (w n t:Int):Int:=if w < 0∨w > 120∨n < 0∨n > 1073741824∨t < 0∨t > 1073741824 then 0 else if t=0 then 1 else min 64 (1+w*n / t)
theorem c_stat_Norm (w n t:Int):CG Tryz.prog 23 [.i w,.ag [.i n,.i t]] (.i (normS w n t)):=by
 refine ⟨k_stat_Norm.calls ?_⟩
 have f1:=c_stat_fits w 120
 have f2:=c_stat_fits n 1073741824
 have f3:=c_stat_fits t 1073741824
 (try conv=>whnf);repeat ((first|refine (f1).go rfl ?_|refine ⟨⟨rfl,rfl⟩,?_⟩);conv=>whnf)
 refine Br.not (fun e1=>?_) (fun e1=>?_)
 ·have e1:=of_decide_eq_false e1
  try conv=>whnf
  exact ⟨Ends.ground (H:=[]) (L:=[_]) 0 rfl ⟨by rw [normS,if_pos (by omega)],rfl⟩⟩
 have e1:=of_decide_eq_true e1
 (try conv=>whnf);repeat ((first|refine (f2).go rfl ?_|refine ⟨rfl,_,rfl,?_⟩);conv=>whnf)
 refine Br.not (fun e2=>?_) (fun e2=>?_)
 ·have e2:=of_decide_eq_false e2
  try conv=>whnf
  exact ⟨Ends.ground (H:=[]) (L:=[_]) 0 rfl ⟨by rw [normS,if_pos (by omega)],rfl⟩⟩
 have e2:=of_decide_eq_true e2
 (try conv=>whnf);repeat ((first|refine (f3).go rfl ?_|refine ⟨rfl,_,rfl,?_⟩);conv=>whnf)
 refine Br.not (fun e3=>?_) (fun e3=>?_)
 ·have e3:=of_decide_eq_false e3
  try conv=>whnf
  exact ⟨Ends.ground (H:=[]) (L:=[_]) 0 rfl ⟨by rw [normS,if_pos (by omega)],rfl⟩⟩
 have e3:=of_decide_eq_true e3
 (try conv=>whnf);repeat ((first|refine ⟨rfl,_,rfl,?_⟩);conv=>whnf)
 refine Br.eq (fun e4=>?_) (fun e4=>?_)
 ·try conv=>whnf
  exact ⟨Ends.ground (H:=[]) (L:=[_]) 0 rfl ⟨by rw [normS,if_neg (by omega),if_pos e4],rfl⟩⟩
 have m1:0≤w*n:=Int.mul_nonneg e1.1 e2.1
 have m2:w*n≤120*1073741824:=Int.mul_le_mul e1.2 e2.2 e2.1 (by omega)
 have m3:(w*n).tdiv t=w*n / t:=Int.tdiv_eq_ediv_of_nonneg m1
 have m4:0≤w*n / t:=Int.ediv_nonneg m1 (by omega)
 have m5:w*n / t≤w*n:=Int.ediv_le_self _ m1
 generalize hM:w*n=M at m1 m2 m3 m4 m5
 generalize hD:M / t=D at m3 m4 m5
 (try conv=>whnf);repeat ((first|refine ⟨rfl,_,rfl,?_⟩|refine ⟨in64 (by omega) (by omega),?_⟩);conv=>whnf)
 refine ⟨by omega,by rw [hM,m3];exact in64 (by omega) (by omega),?_⟩
 rw [hM,m3]
 (try conv=>whnf);repeat ((first|refine ⟨in64 (by omega) (by omega),?_⟩);conv=>whnf)
 exact ⟨Ends.ground (H:=[]) (L:=[_]) 0 rfl ⟨by rw [normS,if_neg (by omega),if_neg e4,hM,hD],rfl⟩⟩
theorem c_ref15_Norm (w n t:Int):CG Tryz.prog 24 [.i w,.ag [.i n,.i t]] (.i (normS w n t)):=by
 refine ⟨k_ref15_Norm.calls ?_⟩
 (try conv=>whnf);repeat ((first|refine ⟨⟨rfl,rfl⟩,?_⟩);conv=>whnf)
 refine Br.dec (fun h1=>?_) (fun h1=>?_)
 ·try conv=>whnf
  exact ⟨Ends.ground (H:=[]) (L:=[_]) 0 rfl ⟨by rw [normS,if_pos (by omega)],rfl⟩⟩
 try conv=>whnf
 refine Br.dec (fun h2=>?_) (fun h2=>?_)
 ·try conv=>whnf
  exact ⟨Ends.ground (H:=[]) (L:=[_]) 0 rfl ⟨by rw [normS,if_pos (by omega)],rfl⟩⟩
 (try conv=>whnf);repeat ((first|refine ⟨rfl,_,rfl,?_⟩);conv=>whnf)
 refine Br.dec (fun h3=>?_) (fun h3=>?_)
 ·try conv=>whnf
  exact ⟨Ends.ground (H:=[]) (L:=[_]) 0 rfl ⟨by rw [normS,if_pos (by omega)],rfl⟩⟩
 (try conv=>whnf);repeat ((first|refine ⟨rfl,_,rfl,?_⟩);conv=>whnf)
 refine Br.dec (fun h4=>?_) (fun h4=>?_)
 ·try conv=>whnf
  exact ⟨Ends.ground (H:=[]) (L:=[_]) 0 rfl ⟨by rw [normS,if_pos (by omega)],rfl⟩⟩
 (try conv=>whnf);repeat ((first|refine ⟨rfl,_,rfl,?_⟩);conv=>whnf)
 refine Br.dec (fun h5=>?_) (fun h5=>?_)
 ·try conv=>whnf
  exact ⟨Ends.ground (H:=[]) (L:=[_]) 0 rfl ⟨by rw [normS,if_pos (by omega)],rfl⟩⟩
 (try conv=>whnf);repeat ((first|refine ⟨rfl,_,rfl,?_⟩);conv=>whnf)
 refine Br.dec (fun h6=>?_) (fun h6=>?_)
 ·try conv=>whnf
  exact ⟨Ends.ground (H:=[]) (L:=[_]) 0 rfl ⟨by rw [normS,if_pos (by omega)],rfl⟩⟩
 (try conv=>whnf);repeat ((first|refine ⟨rfl,_,rfl,?_⟩);conv=>whnf)
 refine Br.eq (fun e4=>?_) (fun e4=>?_)
 ·try conv=>whnf
  exact ⟨Ends.ground (H:=[]) (L:=[_]) 0 rfl ⟨by rw [normS,if_neg (by omega),if_pos e4],rfl⟩⟩
 have m1:0≤w*n:=Int.mul_nonneg (by omega) (by omega)
 have m2:w*n≤120*1073741824:=Int.mul_le_mul (by omega) (by omega) (by omega) (by omega)
 have m3:(w*n).tdiv t=w*n / t:=Int.tdiv_eq_ediv_of_nonneg m1
 have m4:0≤w*n / t:=Int.ediv_nonneg m1 (by omega)
 have m5:w*n / t≤w*n:=Int.ediv_le_self _ m1
 generalize hM:w*n=M at m1 m2 m3 m4 m5
 generalize hD:M / t=D at m3 m4 m5
 (try conv=>whnf);repeat ((first|refine ⟨rfl,_,rfl,?_⟩|refine ⟨in64 (by omega) (by omega),?_⟩);conv=>whnf)
 refine ⟨by omega,by rw [hM,m3];exact in64 (by omega) (by omega),?_⟩
 rw [hM,m3]
 (try conv=>whnf);repeat ((first|refine ⟨in64 (by omega) (by omega),?_⟩);conv=>whnf)
 refine Br.dec (fun h7=>?_) (fun h7=>?_)
 ·try conv=>whnf
  exact ⟨Ends.ground (H:=[]) (L:=[_]) 0 rfl ⟨by rw [normS,if_neg (by omega),if_neg e4,hM,hD,Int.min_eq_left (by omega)],rfl⟩⟩
 ·try conv=>whnf
  exact ⟨Ends.ground (H:=[]) (L:=[_]) 0 rfl ⟨by rw [normS,if_neg (by omega),if_neg e4,hM,hD,Int.min_eq_right (by omega)],rfl⟩⟩
end Go.Aw
namespace Go.Aw
open Go.Proofs Go.Sort Go.RowKit
set_option maxRecDepth 100000
set_option maxHeartbeats 1000000
def tnats (l:List Nat):T:=.sl 1 (l.map fun (n:Nat)=>T.i n)
def vnt (l:List Nat):List V:=l.map fun (n:Nat)=>V.g (.i n)
theorem take_sum {l:List Nat} {k:Nat} (hk:k < l.length):(l.take (k+1)).sum=(l.take k).sum+l[k]:=by
 rw [List.take_succ_eq_append_getElem hk,List.sum_append];simp
theorem take_le {l:List Nat} {k:Nat}:(l.take k).sum≤l.sum:=by
 have:l.sum=(l.take k).sum+(l.drop k).sum:=by rw [← List.sum_append,List.take_append_drop]
 omega
theorem c_stat_sum (l:List Nat) (hl:l.length < 1000000000) (hs:l.sum≤1000000000000000000):CG Tryz.prog 120 [tnats l] (.i l.sum):=by
 refine ⟨k_stat_sum.calls ?_⟩
 have hm:(l.map fun (n:Nat)=>T.i n).length=l.length:=by simp
 try conv=>whnf
 refine SW.loopR (α:=Nat) (fun k=>tm 17 [(3,.g (.i ((l.take k).sum:Nat))),(6,.g (tnats l)),(7,.g (.i l.length)),(8,.g (.i k))]) (fun _=>[]) (fun k=>k≤l.length) (fun k=>l.length-k) 0 ?_ ?_ ?_
 ·exact Nat.zero_le _
 ·exact Refi.sub rfl (by simp [subT,subV,tm,tmGo,tnats])
 ·intro k hk
  dsimp only at hk ⊢
  conv=>whnf
  refine Br.dec (fun h=>?_) (fun h=>?_)
  ·have hk':k < l.length:=by omega
   have h1:=take_sum hk'
   have h2:=take_le (l:=l) (k:=k+1)
   (try conv=>whnf);repeat ((first|refine ⟨_,getZ (by omega),?_⟩|refine ⟨by omega,rfl,?_⟩|refine ⟨in64 (by omega) (by omega),?_⟩);conv=>whnf)
   exact ⟨⟨k+1,hk',by show l.length-(k+1) < l.length-k;omega,Refi.sub rfl (by rw [h1];simp [subT,subV,tm,tmGo])⟩⟩
  ·have:k=l.length:=by omega
   subst this
   rw [List.take_length]
   try conv=>whnf
   exact ⟨Ends.keep ⟨rfl,rfl⟩⟩
theorem c_stat_over (p:Pl) (hb:bndP p) (f:Nat) (cs:List V) (v:Pt→Nat) (hs:(p.parts.map v).sum≤1000000000000000000) (hc:∀ (i:Nat) (x:V),cs[i]?=some x→x.lt 0) (hc2:cs.all (ltS 2)=true)
  (hf:∀ x∈p.parts,ACalls Tryz.prog f (.g (tpart x)::cs) [] (fun r h=>r=.g (.i (v x))∧h=[])) :
  ACalls Tryz.prog 50 [.g (tpile p),.fn f cs] [] (fun r h=>r=.g (.i (p.parts.map v).sum)∧h=[]):=by
 refine k_stat_over.calls ?_
 have hmp:(p.parts.map tpart).length=p.parts.length:=by simp
 have hb2:=hb.parts
 (try conv=>whnf);repeat ((first|refine ⟨rfl,_,rfl,?_⟩|refine ⟨⟨rfl,rfl⟩,?_⟩);conv=>whnf)
 refine SW.loopR (α:=Nat) (fun k=>tm 24 [(1,.fn f cs),(5,.own 1 k 0 k),(9,vpl p.parts),(10,.g (.i p.parts.length)),(11,.g (.i k))])
  (fun k=>[.arr 0 6 [.g (tpile p)],.arr k 1 (vnt ((p.parts.take k).map v))]) (fun k=>k≤p.parts.length) (fun k=>p.parts.length-k) 0 ?_ ?_ ?_
 ·exact Nat.zero_le _
 ·refine (Refi.valloc 5 1 rfl).trans (Refi.sub ?_ ?_)
  ·simp [addB_eq,vnt]
   try rfl
  ·simp [subT,subV,tm,tmGo,setT]
   try rfl
 intro k hk
 dsimp only at hk ⊢
 conv=>whnf
 refine Br.dec (fun h=>?_) (fun h=>?_)
 ·have hk':k < p.parts.length:=by omega
  obtain ⟨x,hx⟩:∃ x,p.parts[k]=x:=⟨_,rfl⟩
  have hxm:x∈p.parts:=hx▸List.getElem_mem hk'
  have gx:(p.parts.map tpart)[k]?=some (tpart x):=by simp [hk',hx]
  have f1:(vnt ((p.parts.take k).map v)).length=k:=by simp [vnt];omega
  have g1:vnt ((p.parts.take (k+1)).map v)=vnt ((p.parts.take k).map v)++[V.g (.i (v x))]:=by
   rw [List.take_succ_eq_append_getElem hk',vnt,List.map_append,List.map_append,hx];rfl
  have cf:=hf x hxm
  (try conv=>whnf);repeat ((first|refine ⟨_,gx,?_⟩|refine ⟨by omega,rfl,?_⟩|refine ⟨rfl,_,rfl,⟨rfl,rfl,by decide⟩,?_⟩|refine ⟨rfl,_,rfl,?_⟩|refine ⟨rfl,?_⟩);conv=>whnf)
  refine (forceT_eq cs _).mpr ?_
  refine (ACalls.frame (args:=.g (tpart x)::cs) cf (fun i w hi=>?_) (fun r h ⟨h1,h2⟩=>⟨h2,by rw [h1];exact .g⟩) _).mono ?_
  ·cases i with
   | zero=>cases hi;exact .g
   | succ i=>exact hc i w hi
  rintro r h ⟨⟨rfl,_⟩,rfl⟩
  (try conv=>whnf);repeat ((first|refine And.intro (show cellsAll _ _ from by repeat (first|exact trivial|refine ⟨⟨rfl,rfl⟩,?_⟩)) ?_|refine ⟨rfl,?_⟩);conv=>whnf)
  refine ⟨by simp;omega,⟨rfl,rfl,rfl⟩,_,⟨[],(List.append_nil _).symm⟩,by rw [f1],?_⟩
  (try conv=>whnf);repeat ((first|refine ⟨in64 (by omega) (by omega),?_⟩);conv=>whnf)
  refine ⟨⟨k+1,hk',by show p.parts.length-(k+1) < p.parts.length-k;omega,Refi.back (H':=[.arr 0 6 [.g (tpile p)],.arr (k+1) 1 (vnt ((p.parts.take (k+1)).map v))]) (L:=[_]) (by rw [g1];rfl) (Nat.zero_le _) (lt_all2 Blk.lt_g1 Blk.lt_g) (by simp [subT,subV,tm,tmGo,cutV,ltB,ltS,hc2])⟩⟩
 ·have:k=p.parts.length:=by omega
  subst this
  rw [List.take_length]
  try conv=>whnf
  have cs:=c_stat_sum (p.parts.map v) (by simp;exact hb2) hs
  refine cs.lend (args:=[.own 1 p.parts.length 0 p.parts.length]) trivial 1 ?_ ?_
  ·show optL [gr 0 _ 1 _]=_
   rw [gr_own (e:=fun n:Nat=>T.i n) (l:=p.parts.map v) rfl (Nat.zero_le _) (by simp) fun _ _=>gr_g]
   rfl
  try conv=>whnf
  exact ⟨Ends.ground (H:=[]) (L:=[_,_]) 0 rfl ⟨rfl,rfl⟩⟩
end Go.Aw
