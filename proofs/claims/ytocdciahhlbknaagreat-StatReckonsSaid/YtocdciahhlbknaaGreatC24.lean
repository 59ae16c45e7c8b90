/- Contracts of functions of the given program, by the abstract walk, for law StatReckons: what each one hands back; no condition but those that each theorem states. -/
import Derived.WalkLawsBesides
import Derived.StillTailTactics
import Derived.Test.YtocdciahhlbknaaGreatC17
import Derived.Test.YtocdciahhlbknaaGreatC23
import Derived.Test.YtocdciahhlbknaaGreatF
import Derived.Test.YtocdciahhlbknaaGreatW3
namespace Go.Aw
open Go.Proofs Go.Sort
set_option maxRecDepth 100000
set_option maxHeartbeats 1000000
structure Pt where
 gen:Int
 s:Sg
 live:List Bool
 deriving DecidableEq
structure Jb where
 gen:Int
 frm:List Int
 was:List (List Bool)
 deriving DecidableEq
structure Pl where
 sort:Bool
 room:Int
 buf:List Cd
 parts:List Pt
 jobs:List Jb
 next:Int
 deriving DecidableEq
def noPt:Pt:=⟨0,noSg,[]⟩
def tpart (x:Pt):T:=.ag [.i x.gen,.sl 1 (x.s.ids.map T.s),.sl 1 (x.s.keys.map T.i),.sl 1 (x.s.lens.map T.i),.sl 2 (x.s.terms.map tterm),.b x.s.sorted,.sl 1 (x.live.map T.b)]
def tjob (j:Jb):T:=.ag [.i j.gen,.sl 1 (j.frm.map T.i),.sl 1 (j.was.map tbools)]
abbrev vpl (l:List Pt):V:=.g (.sl 7 (l.map tpart))
abbrev vjl (l:List Jb):V:=.g (.sl 3 (l.map tjob))
def tpile (p:Pl):T:=.ag [.b p.sort,.i p.room,.sl 3 (p.buf.map tcard),.sl 7 (p.parts.map tpart),.sl 3 (p.jobs.map tjob),.i p.next]
def vparts (l:List Pt):List V:=l.map fun x=>V.g (tpart x)
def vjobs (l:List Jb):List V:=l.map fun x=>V.g (tjob x)
def plN (ps:List Pt) (g:Int):Nat:=ps.findIdx fun x=>decide (x.gen=g)
def plG (ps:List Pt) (g:Int):Int:=if plN ps g < ps.length then (plN ps g:Int) else -1
def partOf (ps:List Pt) (g:Int):Pt:=ps.getD (plN ps g) noPt
abbrev gens (ps:List Pt):List Int:=ps.map (·.gen)
theorem plN_lt {ps:List Pt} {g:Int}:plN ps g < ps.length↔g∈gens ps:=by
 rw [plN,List.findIdx_lt_length]
 simp only [decide_eq_true_eq,List.mem_map]
theorem plN_at {ps:List Pt} {g:Int} (h:plN ps g < ps.length):(ps[plN ps g]).gen=g:=of_decide_eq_true (List.findIdx_getElem (w:=h))
theorem plG_no {ps:List Pt} {g:Int}:plG ps g=-1↔g∉gens ps:=by
 rw [← plN_lt,plG]
 split
 ·constructor
  ·intro h;omega
  ·intro h;exact absurd ‹_› h
 ·simp [*]
theorem plG_ge {ps:List Pt} {g:Int}:0≤plG ps g↔g∈gens ps:=by
 rw [← plN_lt,plG]
 split
 ·simp [*]
 ·simp [*]
theorem plN_idx {ps:List Pt} (hn:(gens ps).Nodup) {i:Nat} (hi:i < ps.length):plN ps ps[i].gen=i:=by
 have h1:plN ps ps[i].gen < ps.length:=plN_lt.2 (List.mem_map.2 ⟨_,List.getElem_mem hi,rfl⟩)
 have h2:=plN_at h1
 exact (List.getElem_inj (i:=plN ps ps[i].gen) (j:=i) (h₀:=by simpa using h1) (h₁:=by simpa using hi) hn).1 (by simpa using h2)
theorem partOf_mem {ps:List Pt} {g:Int} (h:g∈gens ps):partOf ps g∈ps∧(partOf ps g).gen=g:=by
 have h1:=plN_lt.2 h
 rw [partOf,getD_at _ h1]
 exact ⟨List.getElem_mem _,plN_at h1⟩
def numP (next g:Int):Prop:=1≤g∧g < next
instance (n g:Int):Decidable (numP n g):=by unfold numP;exact inferInstance
structure PartP (next:Int) (b:Bool) (x:Pt):Prop where
 num:numP next x.gen
 seg:SgP x.s
 srt:x.s.sorted=b
 len:x.live.length=x.s.ids.length
structure PartsP (p:Pl):Prop where
 le:p.parts.length≤16
 nd:(gens p.parts).Nodup
 all:∀ x∈p.parts,PartP p.next p.sort x
noncomputable instance (p:Pl):Decidable (PartsP p):=Classical.propDecidable _
def cardsPt (x:Pt):List Cd:=lcS x.s x.live
def allC (p:Pl):List Cd:=p.buf++p.parts.flatMap cardsPt
def idsPt (x:Pt):List ByteArray:=(liveD x.live x.live.length).map fun d=>x.s.ids.getD d default
def idsPl (p:Pl):List ByteArray:=p.buf.map (·.id)++p.parts.flatMap idsPt
def lessP (a b:List Bool):Prop:=a.length=b.length∧∀ k,a.getD k false=true→b.getD k false=true
noncomputable instance (a b:List Bool):Decidable (lessP a b):=Classical.propDecidable _
def segL (ps:List Pt) (l:List Int):List Sg:=l.map fun g=>(partOf ps g).s
def livL (ps:List Pt) (l:List Int):List (List Bool):=l.map fun g=>(partOf ps g).live
structure JobP (p:Pl) (j:Jb):Prop where
 ne:j.frm≠[]
 sub:j.frm.Sublist (gens p.parts)
 num:numP p.next j.gen
 free:j.gen∉gens p.parts
 len:j.was.length=j.frm.length
 less:∀ i,i < j.frm.length→lessP ((livL p.parts j.frm).getD i []) (j.was.getD i [])
 ok:(mergeS (segL p.parts j.frm) j.was p.sort).2.2=0
noncomputable instance (p:Pl) (j:Jb):Decidable (JobP p j):=Classical.propDecidable _
structure JobsP (p:Pl):Prop where
 all:∀ j∈p.jobs,JobP p j
 pw:p.jobs.Pairwise fun a b=>a.gen≠b.gen∧∀ g∈b.frm,g∉a.frm
noncomputable instance (p:Pl):Decidable (JobsP p):=Classical.propDecidable _
structure PlOk (p:Pl):Prop where
 room:1≤p.room∧p.room≤64
 next:1≤p.next∧p.next≤1073741824
 buf:(p.buf.length:Int)≤p.room
 bld:(buildS p.buf false).2=0
 parts:PartsP p
 once:(idsPl p).Nodup
 jobs:JobsP p
noncomputable instance (p:Pl):Decidable (PlOk p):=Classical.propDecidable _
structure bndP (p:Pl):Prop where
 buf:bndC p.buf
 parts:p.parts.length < 1000000000
 part:∀ x∈p.parts,bndS x.s∧x.live.length < 1000000000
 jobs:p.jobs.length < 1000000000
 job:∀ j∈p.jobs,j.frm.length < 1000000000∧j.was.length < 1000000000∧∀ x∈j.was,x.length < 1000000000
 nxt:-1000000000000000000 < p.next∧p.next < 1000000000000000000
theorem flatMap_cg {α β:Type} {f g:α→List β}:∀ {l:List α},(∀ x∈l,f x=g x)→l.flatMap f=l.flatMap g
 | [],_=>rfl
 | x::l,h=>by
  rw [List.flatMap_cons,List.flatMap_cons,h x (by simp),flatMap_cg fun y hy=>h y (by simp [hy])]
theorem lc_ids {s:Sg} (h:SgP s) {x:List Bool} (hx:x.length=s.ids.length):(lcS s x).map (·.id)=(liveD x x.length).map fun d=>s.ids.getD d default:=by
 rw [lcS,List.map_map]
 refine List.map_congr_left fun d hd=>?_
 rw [liveD,List.mem_filter,List.mem_range] at hd
 have hdi:d < s.ids.length:=by omega
 have hk:d < (cardsS s).length:=by rw [cards_len h];exact hdi
 have e:((cardsS s).map (·.id))[d]?=s.ids[d]?:=by rw [cards_ids h]
 rw [List.getElem?_map,List.getElem?_eq_getElem hk,List.getElem?_eq_getElem hdi] at e
 simp only [Function.comp,getD_at _ hk,getD_at _ hdi]
 simpa using e
theorem ids_all {p:Pl} (h:PartsP p):idsPl p=(allC p).map (·.id):=by
 rw [idsPl,allC,List.map_append,List.map_flatMap]
 congr 1
 refine flatMap_cg fun x hx=>?_
 exact (lc_ids (h.all x hx).seg (h.all x hx).len).symm
theorem pl_may {p:Pl} (h:PlOk p):∀ c∈allC p,mayC c=true:=by
 intro c hc
 rcases List.mem_append.1 hc with hc|hc
 ·exact (okL_all (build_zero h.bld).1).1 c hc
 ·obtain ⟨x,hx,hc⟩:=List.mem_flatMap.1 hc
  exact lc_may (h.parts.all x hx).seg (h.parts.all x hx).len c hc
theorem all_nd {p:Pl} (h:PlOk p):((allC p).map (·.id)).Nodup:=by rw [← ids_all h.parts];exact h.once
theorem liveD_mem {x:List Bool} {d:Nat}:d∈liveD x x.length↔x.getD d false=true:=by
 rw [liveD,List.mem_filter,List.mem_range]
 constructor
 ·exact fun h=>h.2
 ·intro h
  refine ⟨?_,h⟩
  rcases Nat.lt_or_ge d x.length with h1|h1
  ·exact h1
  ·rw [List.getD_eq_getElem?_getD,List.getElem?_eq_none h1] at h;cases h
end Go.Aw
namespace Go.Aw
open Go.Proofs Go.Sort
set_option maxRecDepth 100000
set_option maxHeartbeats 1000000
def hasD (x:Pt) (y:ByteArray):Prop:=0≤idxS x.s.ids y∧x.live.getD (idxS x.s.ids y).toNat false=true
instance (x:Pt) (y:ByteArray):Decidable (hasD x y):=by unfold hasD;exact inferInstance
def killP (x:Pt) (y:ByteArray):Pt:=if hasD x y then ⟨x.gen,x.s,x.live.set (idxS x.s.ids y).toNat false⟩ else x
def goneP (p:Pl) (y:ByteArray):Pl:={ p with buf:=withO p.buf y,parts:=p.parts.map (killP · y) }
def hadP (p:Pl) (y:ByteArray):Bool:=(idsPl p).any fun x=>decide (x=y)
theorem hadP_iff {p:Pl} {y:ByteArray}:hadP p y=true↔y∈idsPl p:=by simp [hadP]
theorem killP_gen {x:Pt} {y:ByteArray}:(killP x y).gen=x.gen:=by unfold killP;split <;> rfl
theorem killP_s {x:Pt} {y:ByteArray}:(killP x y).s=x.s:=by unfold killP;split <;> rfl
theorem killP_len {x:Pt} {y:ByteArray}:(killP x y).live.length=x.live.length:=by unfold killP;split <;> simp
theorem lessP_refl {a:List Bool}:lessP a a:=⟨rfl,fun _ h=>h⟩
theorem lessP_trans {a b c:List Bool} (h:lessP a b) (k:lessP b c):lessP a c:=⟨h.1.trans k.1,fun i hi=>k.2 i (h.2 i hi)⟩
theorem set_false {l:List Bool} {i k:Nat}:(l.set i false).getD k false=(l.getD k false && !decide (k=i)):=by
 rw [List.getD_eq_getElem?_getD,List.getD_eq_getElem?_getD,List.getElem?_set]
 by_cases h:i=k
 ·subst h
  rw [if_pos rfl]
  split <;> simp
 ·have:k≠i:=fun e=>h e.symm
  simp [h,this]
theorem killP_less {x:Pt} {y:ByteArray}:lessP (killP x y).live x.live:=by
 unfold killP;split
 ·refine ⟨by simp,fun k hk=>?_⟩
  rw [set_false,Bool.and_eq_true] at hk
  exact hk.1
 ·exact lessP_refl
theorem idxS_mem {l:List ByteArray} {y:ByteArray} (h:y∈l):∃ i,∃ hi:i < l.length,idxS l y=(i:Int)∧l[i]=y:=by
 unfold idxS
 cases e:l.findIdx? (· == y) with
 | none =>
  rw [List.findIdx?_eq_none_iff] at e
  have:=e y h
  rw [ba_beq] at this
  exact absurd rfl (of_decide_eq_false this)
 | some i =>
  obtain ⟨hi,h1,_⟩:=List.findIdx?_eq_some_iff_getElem.1 e
  rw [ba_beq] at h1
  exact ⟨i,hi,rfl,of_decide_eq_true h1⟩
theorem idxS_no {l:List ByteArray} {y:ByteArray} (h:y∉l):idxS l y=-1:=by
 unfold idxS
 cases e:l.findIdx? (· == y) with
 | none=>rfl
 | some i =>
  obtain ⟨hi,h1,_⟩:=List.findIdx?_eq_some_iff_getElem.1 e
  rw [ba_beq] at h1
  exact absurd (by rw [← of_decide_eq_true h1];exact List.getElem_mem _) h
theorem cd_id {s:Sg} (h:SgP s) {d:Nat} (hd:d < s.ids.length):((cardsS s).getD d noCd).id=s.ids.getD d default:=by
 have hk:d < (cardsS s).length:=by rw [cards_len h];exact hd
 have e:((cardsS s).map (·.id))[d]?=s.ids[d]?:=by rw [cards_ids h]
 rw [List.getElem?_map,List.getElem?_eq_getElem hk,List.getElem?_eq_getElem hd] at e
 rw [getD_at _ hk,getD_at _ hd]
 simpa using e
theorem hasD_iff {x:Pt} (h:SgP x.s) (hx:x.live.length=x.s.ids.length) {y:ByteArray}:hasD x y↔y∈idsPt x:=by
 rw [idsPt,List.mem_map]
 constructor
 ·rintro ⟨h1,h2⟩
  by_cases hm:y∈x.s.ids
  ·obtain ⟨i,hi,e,e2⟩:=idxS_mem hm
   rw [e,Int.toNat_natCast] at h2
   exact ⟨i,liveD_mem.2 h2,by rw [getD_at _ hi];exact e2⟩
  ·rw [idxS_no hm] at h1;omega
 ·rintro ⟨d,hd,rfl⟩
  have h2:=liveD_mem.1 hd
  rw [liveD,List.mem_filter,List.mem_range] at hd
  have hdi:d < x.s.ids.length:=by omega
  rw [getD_at _ hdi,hasD,idxS_at h.2.2.2.1 hdi,Int.toNat_natCast]
  exact ⟨by omega,h2⟩
theorem kill_cards {x:Pt} (h:SgP x.s) (hx:x.live.length=x.s.ids.length) {y:ByteArray}:cardsPt (killP x y)=withO (cardsPt x) y:=by
 unfold killP;split
 ·rename_i hd
  have hm:y∈x.s.ids:=by
   by_cases hm:y∈x.s.ids
   ·exact hm
   ·have:=hd.1;rw [idxS_no hm] at this;omega
  obtain ⟨i,hi,e,e2⟩:=idxS_mem hm
  rw [e,Int.toNat_natCast]
  have hl:liveD (x.live.set i false) (x.live.set i false).length=(liveD x.live x.live.length).filter fun d=>!decide (d=i):=by
   rw [List.length_set,liveD,liveD,List.filter_filter]
   refine List.filter_congr fun d _=>?_
   rw [set_false,Bool.and_comm]
  show lcS x.s (x.live.set i false)=withO (lcS x.s x.live) y
  rw [lcS,hl,lcS,withO,List.filter_map]
  congr 1
  refine List.filter_congr fun d hd=>?_
  rw [liveD,List.mem_filter,List.mem_range] at hd
  have hdi:d < x.s.ids.length:=by omega
  show _=!decide (((cardsS x.s).getD d noCd).id=y)
  rw [cd_id h hdi,getD_at _ hdi,← e2]
  congr 1
  refine decide_eq_decide.2 ⟨fun e=>by subst e;rfl,fun e=>?_⟩
  exact (List.getElem_inj h.2.2.2.1).1 e
 ·rename_i hd
  rw [hasD_iff h hx] at hd
  rw [withO,eq_comm,List.filter_eq_self]
  intro c hc
  have:c.id∈idsPt x:=by
   rw [idsPt,← lc_ids h hx]
   exact List.mem_map_of_mem hc
  have:c.id≠y:=fun e=>hd (e▸this)
  simp [this]
theorem withO_app {a b:List Cd} {y:ByteArray}:withO (a++b) y=withO a y++withO b y:=by rw [withO,List.filter_append];rfl
theorem all_gone {p:Pl} (h:PartsP p) {y:ByteArray}:allC (goneP p y)=withO (allC p) y:=by
 rw [allC,allC,withO_app]
 congr 1
 show (p.parts.map (killP · y)).flatMap cardsPt=withO (p.parts.flatMap cardsPt) y
 rw [List.flatMap_map,withO,List.filter_flatMap]
 exact flatMap_cg fun x hx=>kill_cards (h.all x hx).seg (h.all x hx).len
theorem gens_gone {ps:List Pt} {y:ByteArray}:gens (ps.map (killP · y))=gens ps:=by
 rw [gens,List.map_map];exact List.map_congr_left fun x _=>killP_gen
theorem parts_gone {p:Pl} (h:PartsP p) {y:ByteArray}:PartsP (goneP p y):=by
 refine ⟨by simpa [goneP] using h.le,by rw [goneP];simp only;rw [gens_gone];exact h.nd,fun x hx=>?_⟩
 obtain ⟨z,hz,rfl⟩:=List.mem_map.1 hx
 obtain ⟨a,b,c,d⟩:=h.all z hz
 exact ⟨by rw [killP_gen];exact a,by rw [killP_s];exact b,by rw [killP_s];exact c,by rw [killP_len,killP_s];exact d⟩
theorem partOf_map {ps:List Pt} {f:Pt→Pt} (hf:∀ x,(f x).gen=x.gen) {g:Int} (hg:g∈gens ps):partOf (ps.map f) g=f (partOf ps g):=by
 have e:plN (ps.map f) g=plN ps g:=by
  rw [plN,plN,List.findIdx_map]
  congr 1
  funext x
  simp only [Function.comp,hf]
 have h1:=plN_lt.2 hg
 rw [partOf,partOf,e,getD_at _ h1,getD_at _ (by simpa using h1),List.getElem_map]
theorem JobP.moves {p p':Pl} {j:Jb} (h:JobP p j) (hs:p'.sort=p.sort) (hn:p.next≤p'.next) (hsub:j.frm.Sublist (gens p'.parts)) (hfree:j.gen∉gens p'.parts)
  (hp:∀ g∈j.frm,(partOf p'.parts g).s=(partOf p.parts g).s∧lessP (partOf p'.parts g).live (partOf p.parts g).live):JobP p' j:=by
 refine ⟨h.ne,hsub,⟨h.num.1,by have:=h.num.2;omega⟩,hfree,h.len,fun i hi=>?_,?_⟩
 ·refine lessP_trans ?_ (h.less i hi)
  have e1:∀ ps,(livL ps j.frm).getD i []=(partOf ps j.frm[i]).live:=fun ps=>by
   rw [getD_at _ (by simpa [livL] using hi)];simp [livL]
  rw [e1,e1]
  exact (hp _ (List.getElem_mem hi)).2
 ·have e:segL p'.parts j.frm=segL p.parts j.frm:=List.map_congr_left fun g hg=>(hp g hg).1
  rw [e,hs];exact h.ok
theorem jobs_gone {p:Pl} (h:JobsP p) {y:ByteArray}:JobsP (goneP p y):=by
 refine ⟨fun j hj=>?_,h.pw⟩
 have hj:=h.all j hj
 refine hj.moves rfl (Int.le_refl _) ?_ ?_ fun g hg=>?_
 ·show j.frm.Sublist (gens (p.parts.map (killP · y)))
  rw [gens_gone];exact hj.sub
 ·show j.gen∉gens (p.parts.map (killP · y))
  rw [gens_gone];exact hj.free
 ·have hm:=hj.sub.subset hg
  show (partOf (p.parts.map (killP · y)) g).s=_∧lessP (partOf (p.parts.map (killP · y)) g).live _
  rw [partOf_map (fun _=>killP_gen) hm]
  exact ⟨killP_s,killP_less⟩
theorem wl_le {a b:List ByteArray} (h:∀ x∈a,x∈b):(wlS a).length≤(wlS b).length:=by
 refine nd_len ?_ fun x hx=>?_
 ·exact ((wl_srt _).imp fun h e=>by subst e;rw [ltB_irr] at h;cases h)
 ·rw [wl_mem] at hx ⊢
  exact h x hx
theorem bld_of {l:List Cd} {b:Bool} (hm:∀ c∈l,mayC c=true) (hn:(l.map (·.id)).Nodup) (h1:l.length≤64) (h2:(wlS (l.flatMap (·.w))).length≤200):buildS l b=(segOf (ordO l b) b,0):=by
 have hok:okL l=true:=by
  rw [okL,Bool.and_eq_true,List.all_eq_true,decide_eq_true_eq];exact ⟨hm,hn⟩
 have hw:wlS ((ordO l b).flatMap (·.w))=wlS (l.flatMap (·.w)):=wl_perm (mem_w fun c=>ordO_perm.mem_iff)
 rw [buildS,if_neg (by rw [hok];simp),if_neg (by omega),if_neg (by rw [hw];omega)]
theorem bld_sub {l m:List Cd} (h:(buildS l false).2=0) (hs:m.Sublist l):(buildS m false).2=0:=by
 obtain ⟨h1,h2,h3,_⟩:=build_zero h
 obtain ⟨h4,h5⟩:=okL_all h1
 rw [bld_of (fun c hc=>h4 c (hs.subset hc)) ((hs.map _).nodup h5) (Nat.le_trans hs.length_le h2)]
 refine Nat.le_trans (wl_le fun x hx=>?_) h3
 obtain ⟨c,hc,hx⟩:=List.mem_flatMap.1 hx
 exact List.mem_flatMap.2 ⟨c,hs.subset hc,hx⟩
theorem withO_sub {l:List Cd} {y:ByteArray}:(withO l y).Sublist l:=List.filter_sublist
theorem ok_gone {p:Pl} (h:PlOk p) {y:ByteArray}:PlOk (goneP p y):=by
 have hp:=parts_gone h.parts (y:=y)
 refine ⟨h.room,h.next,?_,bld_sub h.bld withO_sub,hp,?_,jobs_gone h.jobs⟩
 ·have:=withO_sub (l:=p.buf) (y:=y) |>.length_le
  have:=h.buf
  show ((withO p.buf y).length:Int)≤p.room
  omega
 ·rw [ids_all hp,all_gone h.parts]
  exact ((withO_sub).map _).nodup (all_nd h)
def addB' (p:Pl) (c:Cd):Pl:={ goneP p c.id with buf:=withO p.buf c.id++[c] }
theorem ok_add {p:Pl} (h:PlOk p) {c:Cd} (h1:((withO p.buf c.id).length:Int) < p.room) (h2:(buildS (withO p.buf c.id++[c]) false).2=0):PlOk (addB' p c):=by
 have g:=ok_gone h (y:=c.id)
 have hp:PartsP (addB' p c):=⟨g.parts.le,g.parts.nd,g.parts.all⟩
 refine ⟨h.room,h.next,?_,h2,hp,?_,⟨fun j hj=>?_,g.jobs.pw⟩⟩
 ·show ((withO p.buf c.id++[c]).length:Int)≤p.room
  simp;omega
 ·have e:idsPl (addB' p c)=(withO p.buf c.id).map (·.id)++([c.id]++(goneP p c.id).parts.flatMap idsPt):=by
   show (withO p.buf c.id++[c]).map (·.id)++_=_
   rw [List.map_append,List.append_assoc];rfl
  have e2:idsPl (goneP p c.id)=(withO p.buf c.id).map (·.id)++(goneP p c.id).parts.flatMap idsPt:=rfl
  have hno:c.id∉idsPl (goneP p c.id):=by
   rw [ids_all g.parts,all_gone h.parts]
   intro hm
   obtain ⟨d,hd,e⟩:=List.mem_map.1 hm
   exact (withO_mem.1 hd).2 e
  have hg:=g.once
  rw [e2] at hno hg
  have:((c.id)::((withO p.buf c.id).map (·.id)++(goneP p c.id).parts.flatMap idsPt)).Nodup:=List.nodup_cons.2 ⟨hno,hg⟩
  rw [e]
  exact (List.perm_middle.nodup_iff).2 this
 ·have:=g.jobs.all j hj
  exact ⟨this.ne,this.sub,this.num,this.free,this.len,this.less,this.ok⟩
theorem partOf_app {ps qs:List Pt} {g:Int} (h:g∈gens ps):partOf (ps++qs) g=partOf ps g:=by
 have h1:=plN_lt.2 h
 have e:plN (ps++qs) g=plN ps g:=by
  rw [plN,List.findIdx_append];exact if_pos h1
 rw [partOf,partOf,e,getD_at _ h1,getD_at _ (by simp;omega),List.getElem_append_left h1]
theorem PartP.up {n n':Int} {b:Bool} {x:Pt} (h:PartP n b x) (hn:n≤n'):PartP n' b x:=⟨⟨h.num.1,by have:=h.num.2;omega⟩,h.seg,h.srt,h.len⟩
theorem JobsP.app {p:Pl} (h:JobsP p) {q:List Pt} (hq:∀ x∈q,p.next≤x.gen) {bf:List Cd} {n:Int} (hn:p.next≤n):JobsP { p with buf:=bf,parts:=p.parts++q,next:=n }:=by
 refine ⟨fun j hj=>?_,h.pw⟩
 have hj:=h.all j hj
 have e:gens (p.parts++q)=gens p.parts++gens q:=List.map_append
 refine hj.moves rfl hn ?_ ?_ fun g hg=>?_
 ·show j.frm.Sublist (gens (p.parts++q))
  rw [e];exact hj.sub.trans (List.sublist_append_left _ _)
 ·show j.gen∉gens (p.parts++q)
  rw [e,List.mem_append]
  rintro (h1|h1)
  ·exact hj.free h1
  ·obtain ⟨x,hx,e2⟩:=List.mem_map.1 h1
   have:=hq x hx
   have:=hj.num.2
   omega
 ·show (partOf (p.parts++q) g).s=_∧lessP (partOf (p.parts++q) g).live _
  rw [partOf_app (hj.sub.subset hg)]
  exact ⟨rfl,lessP_refl⟩
end Go.Aw
namespace Go.Aw
open Go.Proofs Go.Sort
set_option maxRecDepth 100000
set_option maxHeartbeats 1000000
abbrev mgJ (p:Pl) (j:Jb):Sg×List (List Int)×Int:=mergeS (segL p.parts j.frm) j.was p.sort
structure MgP (p:Pl) (j:Jb):Prop where
 right:rightP (segL p.parts j.frm) j.was
 rightN:rightP (segL p.parts j.frm) (livL p.parts j.frm)
 seg:SgP (mgJ p j).1
 cards:cardsS (mgJ p j).1=(permL (segL p.parts j.frm) j.was p.sort).map (cdP (segL p.parts j.frm))
 srt:(mgJ p j).1.sorted=p.sort
 len:(mgJ p j).1.ids.length=(permL (segL p.parts j.frm) j.was p.sort).length
 tab:(mgJ p j).2.1=tabsS (segL p.parts j.frm) j.was p.sort
end Go.Aw
namespace Go.Aw
open Go.Proofs Go.Sort
set_option maxRecDepth 100000
set_option maxHeartbeats 1000000
theorem flatM_le {α β:Type} {f:α→List β} {n:Nat}:∀ {l:List α},(∀ x∈l,(f x).length≤n)→(l.flatMap f).length≤n*l.length
 | [],_=>by simp
 | x::l,h=>by
  have h1:=h x (by simp)
  have h2:=flatM_le (l:=l) fun y hy=>h y (by simp [hy])
  simp only [List.flatMap_cons,List.length_append,List.length_cons]
  have:n*(l.length+1)=n*l.length+n:=Nat.mul_succ _ _
  omega
theorem flatM_ge {α β:Type} {f:α→List β}:∀ {l:List α},(∀ x∈l,f x≠[])→l.length≤(l.flatMap f).length
 | [],_=>by simp
 | x::l,h=>by
  have h1:=List.length_pos_iff.2 (h x (by simp))
  have h2:=flatM_ge (l:=l) fun y hy=>h y (by simp [hy])
  simp only [List.flatMap_cons,List.length_append,List.length_cons]
  omega
theorem fits_size {x:ByteArray} {n:Int} (h:fitsS x n=true):(x.size:Int)≤n:=by
 simp only [fitsS,Bool.and_eq_true,decide_eq_true_eq] at h
 exact h.2
theorem bnd_may {l:List Cd} (h:∀ c∈l,mayC c=true) (hl:l.length≤1100):bndC l:=by
 refine ⟨by omega,?_,fun c hc=>?_⟩
 ·have:=flatM_le (f:=fun c:Cd=>c.w) (n:=120) (l:=l) fun c hc=>(mayC_w (h c hc)).2.2.1
  omega
 ·obtain ⟨h1,_,_,h4⟩:=mayC_w (h c hc)
  have:=fits_size h1
  exact ⟨by unfold bigB;omega,fun x hx=>by have:=fits_size (h4 x hx);unfold bigB;omega⟩
theorem bnd_seg {s:Sg} (h:SgP s):bndS s:=by
 have t:=h.tms
 obtain ⟨h1,h2,h3,_⟩:=h
 refine ⟨by omega,by omega,by omega,by have:=t.len;omega,fun x hx=>?_⟩
 obtain ⟨_,m⟩:=t.ok x hx
 exact ⟨by have:=m.len;omega,fun p hp=>by have:=m.le p hp;omega⟩
theorem jobs_few {p:Pl} (h:PlOk p):p.jobs.length≤16:=by
 have h1:=flatM_ge (f:=fun j:Jb=>j.frm) (l:=p.jobs) fun j hj=>(h.jobs.all j hj).ne
 have h2:(p.jobs.flatMap fun j=>j.frm).Nodup:=by
  rw [List.Nodup,List.pairwise_flatMap]
  exact ⟨fun j hj=>(h.jobs.all j hj).sub.nodup h.parts.nd,h.jobs.pw.imp fun h x hx y hy e=>h.2 y hy (by rw [← e];exact hx)⟩
 have h3:=nd_len (l:=p.jobs.flatMap fun j=>j.frm) (m:=gens p.parts) h2 fun x hx=>by
  obtain ⟨j,hj,hx⟩:=List.mem_flatMap.1 hx
  exact (h.jobs.all j hj).sub.subset hx
 have h4:=h.parts.le
 rw [List.length_map] at h3
 omega
theorem bnd_ok {p:Pl} (h:PlOk p):bndP p:=by
 have hb:=build_zero h.bld
 refine ⟨bnd_may (okL_all hb.1).1 (by have:=hb.2.1;omega),by have:=h.parts.le;omega,fun x hx=>?_,by have:=jobs_few h;omega,fun j hj=>?_,by have:=h.next;omega⟩
 ·have:=(h.parts.all x hx).len
  have:=(h.parts.all x hx).seg.1
  exact ⟨bnd_seg (h.parts.all x hx).seg,by omega⟩
 ·have hj:=h.jobs.all j hj
  have h1:=hj.sub.length_le
  have h2:=h.parts.le
  simp at h1
  have h3:=hj.len
  refine ⟨by omega,by omega,fun x hx=>?_⟩
  obtain ⟨i,hi,rfl⟩:=List.getElem_of_mem hx
  have hi2:i < j.frm.length:=by omega
  have le:=(hj.less i hi2).1
  rw [getD_at _ hi,getD_at _ (by simpa [livL] using hi2)] at le
  simp only [livL,List.getElem_map] at le
  obtain ⟨m1,_⟩:=partOf_mem (hj.sub.subset (List.getElem_mem hi2))
  have:=(h.parts.all _ m1).len
  have:=(h.parts.all _ m1).seg.1
  omega
noncomputable def doP (p:Pl) (r:Pl×Int):Pl×Int:=if PlOk p then r else (p,1)
def addR (p:Pl) (c:Cd):Pl×Int :=
 if mayC c=false then (p,1) else if p.room≤((withO p.buf c.id).length:Int) then (p,4) else if (buildS (withO p.buf c.id++[c]) false).2≠0 then (p,8) else (addB' p c,0)
noncomputable def addK (p:Pl) (c:Cd):Pl×Int:=doP p (addR p c)
def busyP (js:List Jb) (g:Int):Bool:=js.any fun j=>decide (g∈j.frm)
theorem busy_iff {js:List Jb} {g:Int}:busyP js g=true↔∃ j∈js,g∈j.frm:=by simp [busyP]
structure Step (p:Pl) (r:Pl×Int):Prop where
 no:r.2≠0→r.1=p
 ok:r.2=0→PlOk p∧PlOk r.1∧r.1.sort=p.sort∧r.1.room=p.room∧p.next≤r.1.next
theorem ok_new {b:Bool} {n:Int} (h:1≤n∧n≤64):PlOk ⟨b,n,[],[],[],1⟩ :=
 ⟨h,⟨by show (1:Int)≤1;omega,by show (1:Int)≤_;omega⟩,by show ((0:Nat):Int)≤n;omega,rfl,⟨by simp,by simp,by simp⟩,by simp [idsPl],⟨by simp,by simp⟩⟩
end Go.Aw
namespace Go.Aw
open Go.Proofs Go.RowKit
set_option maxRecDepth 100000
set_option maxHeartbeats 4000000
def pvR (n:Int):Value:=.iface 173 (.agg #[.int .i64 n])
noncomputable abbrev PR (q:Int→List Blk→Prop):Prg:={ toProgram:=Tryz.prog,pv:=pvR,pq:=q }
theorem kNeedNo (n:Int) (w:World):Calls Tryz.prog 67 #[.bool false,.int .i64 n] w fun e w'=>e=.panicked [{ v:=pvR n,recovered:=false }]∧w'=w:=by
 go_enter Tryz.func67,Tryz.ntmps67
 go_wp2
 exact ⟨rfl,rfl,rfl⟩
theorem kNeedYes (n:Int) (w:World):Calls Tryz.prog 67 #[.bool true,.int .i64 n] w fun e w'=>e=.returned (.tuple #[])∧w'=w:=by
 go_enter Tryz.func67,Tryz.ntmps67
 go_wp2
 first|go_ret|go_end0
 exact ⟨rfl,rfl⟩
theorem ok_need:callOk Tryz.prog 67:=⟨Tryz.f67,Tryz.func67,by kernel_rfl,by kernel_rfl⟩
theorem two_of {γ:List (Option Nat)} {H:List Blk} {I:Nat→Prop} {w:World} {u v:Value} {vs:List Value} (hl:vs.length=2) (hv:∀ (i:Nat) (x:V),([V.g (.sc u),V.g (.sc v)]:List V)[i]?=some x→RV γ H I w x (vs.getD i undef)):vs=[u,v]:=by
 match vs,hl with
 | [x,y],_ =>
  have h0:=rv_sc (hv 0 _ rfl)
  have h1:=rv_sc (hv 1 _ rfl)
  simp at h0 h1
  rw [h0,h1]
theorem c_need_yes (n:Int) (H:List Blk) {K:V→List Blk→Prop} (k:K (.tu []) H):ACalls Tryz.prog 67 [.g (.b true),.g (.i n)] H K:=by
 refine ⟨ok_need,fun γ I w vs r hl hv=>?_⟩
 rw [two_of hl hv]
 refine (kNeedYes n w).mono fun e w' h=>?_
 obtain ⟨rfl,rfl⟩:=h
 exact ⟨_,_,_,_,_,rfl,k,r,.tu (vs:=[]) rfl (fun i t h=>by simp at h),Ext.refl ..⟩
theorem p_need_no (n:Int) (H:List Blk) {q:Int→List Blk→Prop} {K:V→List Blk→Prop} (k:q n H):PCalls (PR q) 67 [.g (.b false),.g (.i n)] H K:=by
 refine ⟨ok_need,fun γ I w vs r hl hv=>?_⟩
 rw [two_of hl hv]
 refine (kNeedNo n w).mono fun e w' h=>?_
 obtain ⟨rfl,rfl⟩:=h
 exact .inr ⟨n,_,_,_,rfl,k,r,Ext.refl ..⟩
theorem p_need (b:Bool) (n:Int) (H:List Blk) {q:Int→List Blk→Prop} {K:V→List Blk→Prop} (k1:b=true→K (.tu []) H) (k2:b=false→q n H):PCalls (PR q) 67 [.g (.b b),.g (.i n)] H K:=by
 cases b
 ·exact p_need_no n H (k2 rfl)
 ·exact (c_need_yes n H (k1 rfl)).pc
theorem try1_idle:DIdle Tryz.prog 137 3:=by
 intro w vs hl
 match vs,hl with
 | [x,y,z],_ =>
 refine callsDIn_of_wpSIn Tryz.func137 rfl trivial fun c₀ cs hu=>?_
 apply wpSIn_seq
 apply wpSIn_region
 simp [wpOpsSIn,go_sem,recoverD,hu,Tryz.ntmps137,Exit.thenS]
 apply wpSIn_seq
 apply wpSIn_region
 simp [wpOpsSIn,go_sem,Exit.thenS,Array.replicate]
 refine wpSIn_cond (t:=false) (by simp [Act.eval]) ?_
 simp only [Bool.false_eq_true,if_false]
 refine wpSIn_of_wpIn rfl (wpIn_skip ?_)
 cases c₀
 simp_all [bodyPostS,results,Tryz.results137]
noncomputable def tryReg:Code:=match Tryz.f137.body with|some (.seq _ (.seq _ (.cond _ c _)))=>c|_=>.skip
noncomputable def tryOps:List SOp:=match s_pile_tryS1 with|.seq _ (.seq _ (.cond _ (.reg os) _))=>os|_=>[]
theorem tryReg_slim:slimC Tryz.prog 0 tryReg=some (.reg tryOps):=by kernel_rfl
theorem try1_rec {q:Int→List Blk→Prop} {a b c:V} {H:List Blk} {n:Int} {R:List Blk→Prop}
  (h:AX (npP Tryz.prog) tryOps (fun _ h'=>R h') [a,b,c,.g (.sc (pvR n)),.g (.sc (pvR n)),.g (.sc (pvR n)),.g (.b true),.any,.any,.any,.any,.any] H):DCalls (PR q) 137 [a,b,c] H n R:=by
 intro γ I w vs r hl hv
 match vs,hl with
 | [x,y,z],_ =>
 have v0:=hv 0 _ rfl
 have v1:=hv 1 _ rfl
 have v2:=hv 2 _ rfl
 simp at v0 v1 v2
 refine callsDIn_of_wpSIn Tryz.func137 rfl trivial fun c₀ cs hu=>?_
 apply wpSIn_seq
 apply wpSIn_region
 have hu:c₀.mode=.panicking [{ v:=pvR n,recovered:=false }]:=hu
 simp [wpOpsSIn,go_sem,recoverD,hu,Tryz.ntmps137,Exit.thenS]
 apply wpSIn_seq
 apply wpSIn_region
 simp [wpOpsSIn,go_sem,Exit.thenS,Array.replicate,pvR]
 refine wpSIn_cond (t:=true) (by simp [Act.eval]) ?_
 simp only [if_true]
 have r2:Rel γ I w ⟨[a,b,c,.g (.sc (pvR n)),.g (.sc (pvR n)),.g (.sc (pvR n)),.g (.b true),.any,.any,.any,.any,.any],H⟩
   { tmps:=#[x,y,z,pvR n,pvR n,pvR n,.bool true,undef,undef,undef,undef,undef],defers:=[] }:=by
  refine ⟨.none,rfl,fun i v hi=>?_,r⟩
  have hsc:∀ u:Value,u.oneCell'=true→RV γ H I w (.g (.sc u)) u:=fun u hu=>.g (.sc hu)
  match i,hi with
  | 0,hi=>cases hi;exact v0
  | 1,hi=>cases hi;exact v1
  | 2,hi=>cases hi;exact v2
  | 3,hi=>cases hi;exact hsc _ rfl
  | 4,hi=>cases hi;exact hsc _ rfl
  | 5,hi=>cases hi;exact hsc _ rfl
  | 6,hi=>cases hi;exact hsc _ rfl
  | 7,hi=>cases hi;exact .any
  | 8,hi=>cases hi;exact .any
  | 9,hi=>cases hi;exact .any
  | 10,hi=>cases hi;exact .any
  | 11,hi=>cases hi;exact .any
  | n+12,hi=>simp at hi
 refine wpSIn_of_wpIn rfl (wpIn_wide.2 (wp_mono (reg_raw (wf:=0) (os:=tryOps) tryReg_slim r2 h) ?_))
 rintro e a' w' ⟨rfl,hd,s',γ',I',hR,hr',hx⟩
 refine ⟨hd,.panicking [{ v:=pvR n,recovered:=true }],rfl,.tuple #[],by simp [results,Tryz.results137],?_⟩
 exact ⟨⟨_,rfl⟩,rfl,s'.h,hR,γ',I',hr'.heap,hx⟩
end Go.Aw
