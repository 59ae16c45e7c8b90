/- Contracts of functions of the given program, by the abstract walk, for law StatReckons: what each one hands back; no condition but those that each theorem states. -/
import Derived.Test.YtocdciahhlbknaaGreatC3
import Derived.Test.YtocdciahhlbknaaGreatL1
namespace Go.Aw
open Go.Proofs
set_option maxRecDepth 100000
def tbools (bs:List Bool):T:=.sl 1 (bs.map T.b)
theorem c_slices_Clone_Lint_int (xs:List Int) (hl:xs.length < 1000000000):CG Tryz.prog 130 [tints xs] (tints xs):=by
 refine ⟨k_slices_Clone_Lint_int.calls ?_⟩
 conv=>whnf
 intro r hr
 conv=>whnf
 refine Br.intro (fun h=>?_) (fun h=>?_)
 ·conv=>whnf
  have:xs=[]:=by simpa using hr h
  subst this
  exact ⟨Ends.ground (H:=[]) (L:=[]) 0 rfl ⟨rfl,rfl⟩⟩
 ·conv=>whnf
  refine ⟨rfl,?_⟩
  conv=>whnf
  refine ⟨by simp;omega,⟨rfl,rfl,rfl⟩,[],⟨[],rfl⟩,rfl,?_⟩
  conv=>whnf
  refine ⟨Ends.ground (H:=[]) (L:=[_]) (t:=tints xs) 1 ?_ ⟨rfl,rfl⟩⟩
  have e:((xs.map T.i).map V.g)=xs.map fun x=>V.g (.i x):=by rw [List.map_map];rfl
  have:=gr_own (n:=0) (d:=0) (b:=0) (g:=1) (sz:=1) (len:=0+((xs.map T.i).map V.g).length) (h:=[.arr 1 1 ([]++(xs.map T.i).map V.g)]) (l:=xs) (f:=fun x=>V.g (.i x)) (e:=T.i) (by rw [e];rfl) (Nat.le_refl _) (by simp) (fun x _=>gr_g)
  exact this
end Go.Aw
namespace Go.Aw
open Go.Proofs
set_option maxRecDepth 100000
theorem Refi.backG {t t':List V} {H L:List Blk} {g sz:Nat} {es:List V} (d:Nat) (ts:List T) (hH:H=[.arr g sz es]++L) (hg:optL (es.map (gr 1 ([.arr g sz es]++L) d))=some ts) {h':List Blk} (hh:[.arr g sz (ts.map V.g)]=h') (hs:subT (t.map (cutV 1)) t') {z:Nat} (hz:z≤1):Refi z ⟨t,H⟩ ⟨t',h'⟩:=by
 subst hH;subst hh
 exact (Refi.drop (H2:=[.arr g sz es]) (H3:=[.arr g sz (ts.map V.g)]) d hz ⟨.inr ⟨g,sz,es,ts,rfl,rfl,hg⟩,trivial⟩ (cut_ok t)).trans (Refi.sub rfl hs)
end Go.Aw
namespace Go.Aw
open Go.Proofs
set_option maxRecDepth 100000
theorem c_bits_Mul (x y:Nat) (hx:x < 18446744073709551616) (hy:y < 18446744073709551616) :
  CV Tryz.prog 202 [.sc (.int .u64 x),.sc (.int .u64 y)] (.tu [.g (.sc (.int .u64 ((x*y / 18446744073709551616:Nat):Int))),.g (.sc (.int .u64 ((x*y % 18446744073709551616:Nat):Int)))]):=by
 refine ⟨⟨⟨Tryz.f202,Tryz.func202,by kernel_rfl,rfl⟩,fun γ I w vs r hl hv=>?_⟩,V.lt.gs (ts:=[_,_])⟩
 match vs,hl with
 | [a,b],_ =>
  have ha:=hv 0 _ rfl
  have hb:=hv 1 _ rfl
  simp only [List.getD_cons_zero,List.getD_cons_succ] at ha hb
  cases ha with|g ha =>
  cases hb with|g hb =>
  cases ha;cases hb
  refine (Tryz.bits_Mul x y hx hy w).mono ?_
  rintro e w' ⟨rfl,rfl⟩
  refine ⟨_,_,[],γ,I,rfl,⟨rfl,rfl⟩,r,?_,Ext.refl ..⟩
  refine .tu (vs:=[_,_]) rfl (fun i t ht=>?_)
  match i,ht with
  | 0,ht=>cases ht;exact .g (.sc rfl)
  | 1,ht=>cases ht;exact .g (.sc rfl)
end Go.Aw
namespace Go.Aw
open Go.Proofs
set_option maxRecDepth 100000
def fewP (l:List Po):Bool:=decide (l.length≤70) && l.all fun p=>decide (p.2.length≤130)
end Go.Aw
namespace Go.Aw
open Go.Proofs
set_option maxRecDepth 100000
end Go.Aw
