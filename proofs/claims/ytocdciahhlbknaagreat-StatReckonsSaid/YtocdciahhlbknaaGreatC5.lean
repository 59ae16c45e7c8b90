/- Contracts of functions of the given program, by the abstract walk, for law StatReckons: what each one hands back; no condition but those that each theorem states. -/
import Derived.Test.YtocdciahhlbknaaGreatC2
import Derived.Test.YtocdciahhlbknaaGreatW3
namespace Go.Aw
open Go.Proofs
set_option maxRecDepth 100000
set_option maxHeartbeats 4000000
structure Sz where
 gen:Int
 docs:Int
 dead:Int
 busy:Bool
 deriving DecidableEq
def Sz.live (s:Sz):Int:=s.docs-s.dead
theorem c_slices_Index_Lint_int (xs:List Int) (x:Int) (hl:xs.length < 1000000000) :
  ACalls Tryz.prog 147 [ints xs,.g (.i x)] [] (fun r h=>∃ n:Int,r=.g (.i n)∧decide (0≤n)=decide (x∈xs)∧h=[]):=by
 refine k_slices_Index_Lint_int.calls ?_
 have hm:(xs.map T.i).length=xs.length:=by simp
 (try conv=>whnf);repeat ((first|refine And.intro (show cellsAll _ _ from by repeat (first|exact trivial|refine ⟨⟨rfl,rfl⟩,?_⟩)) ?_|refine ⟨_,getZ (by omega),?_⟩|refine ⟨_,getI (by omega) (by omega),?_⟩|refine ⟨by omega,rfl,?_⟩|refine ⟨by (simp;omega),rfl,?_⟩|refine ⟨rfl,_,rfl,⟨rfl,rfl,by decide⟩,?_⟩|refine ⟨rfl,_,rfl,?_⟩|refine ⟨rfl,_,getO (by omega),?_⟩|refine ⟨rfl,⟨by omega,by omega,by omega⟩,?_⟩|refine ⟨⟨rfl,rfl⟩,?_⟩|refine ⟨⟨rfl,rfl,rfl⟩,?_⟩|refine ⟨⟨rfl,rfl,by decide⟩,?_⟩|refine ⟨rfl,?_⟩|refine ⟨⟨by omega,by omega⟩,⟨rfl,rfl⟩,?_⟩|refine ⟨in64 (by omega) (by omega),?_⟩|refine Br.dec (fun _=>?_) (fun hh=>absurd (by omega) hh)|refine Br.dec (fun hh=>absurd hh (by omega)) (fun _=>?_)|refine Br.eq (fun _=>?_) (fun hh=>absurd (by omega) hh)|refine Br.eq (fun hh=>absurd hh (by omega)) (fun _=>?_)|refine Br.ne (fun _=>?_) (fun hh=>absurd (by omega) hh)|refine Br.ne (fun hh=>absurd hh (by omega)) (fun _=>?_)|refine ⟨_,rfl,?_⟩|rw [← List.map_drop,← List.map_take]);conv=>whnf)
 refine SW.loop (α:=Nat) (fun k=>tm 19 [(0,ints xs),(1,.g (.i x)),(6,ints xs),(7,.g (.i xs.length)),(8,.g (.i k))]) (fun _=>[]) (fun k=>k≤xs.length∧x∉xs.take k) (fun k=>xs.length-k) 0 ?_ ?_ ?_ ?_
 ·simp
 ·rfl
 ·simp [subT,subV,tm,tmGo,ints]
 ·rintro k ⟨hk,hn⟩
  dsimp only at hk hn ⊢
  conv=>whnf
  refine Br.dec (fun h=>?_) (fun h=>?_)
  ·have hk':k < xs.length:=by omega
   (try conv=>whnf);repeat ((first|refine And.intro (show cellsAll _ _ from by repeat (first|exact trivial|refine ⟨⟨rfl,rfl⟩,?_⟩)) ?_|refine ⟨_,getZ (by omega),?_⟩|refine ⟨_,getI (by omega) (by omega),?_⟩|refine ⟨by omega,rfl,?_⟩|refine ⟨by (simp;omega),rfl,?_⟩|refine ⟨rfl,_,rfl,⟨rfl,rfl,by decide⟩,?_⟩|refine ⟨rfl,_,rfl,?_⟩|refine ⟨rfl,_,getO (by omega),?_⟩|refine ⟨rfl,⟨by omega,by omega,by omega⟩,?_⟩|refine ⟨⟨rfl,rfl⟩,?_⟩|refine ⟨⟨rfl,rfl,rfl⟩,?_⟩|refine ⟨⟨rfl,rfl,by decide⟩,?_⟩|refine ⟨rfl,?_⟩|refine ⟨⟨by omega,by omega⟩,⟨rfl,rfl⟩,?_⟩|refine ⟨in64 (by omega) (by omega),?_⟩|refine Br.dec (fun _=>?_) (fun hh=>absurd (by omega) hh)|refine Br.dec (fun hh=>absurd hh (by omega)) (fun _=>?_)|refine Br.eq (fun _=>?_) (fun hh=>absurd (by omega) hh)|refine Br.eq (fun hh=>absurd hh (by omega)) (fun _=>?_)|refine Br.ne (fun _=>?_) (fun hh=>absurd (by omega) hh)|refine Br.ne (fun hh=>absurd hh (by omega)) (fun _=>?_)|refine ⟨_,rfl,?_⟩|rw [← List.map_drop,← List.map_take]);conv=>whnf)
   refine Br.eq (fun h2=>?_) (fun h2=>?_)
   ·(try conv=>whnf);repeat ((first|refine And.intro (show cellsAll _ _ from by repeat (first|exact trivial|refine ⟨⟨rfl,rfl⟩,?_⟩)) ?_|refine ⟨_,getZ (by omega),?_⟩|refine ⟨_,getI (by omega) (by omega),?_⟩|refine ⟨by omega,rfl,?_⟩|refine ⟨by (simp;omega),rfl,?_⟩|refine ⟨rfl,_,rfl,⟨rfl,rfl,by decide⟩,?_⟩|refine ⟨rfl,_,rfl,?_⟩|refine ⟨rfl,_,getO (by omega),?_⟩|refine ⟨rfl,⟨by omega,by omega,by omega⟩,?_⟩|refine ⟨⟨rfl,rfl⟩,?_⟩|refine ⟨⟨rfl,rfl,rfl⟩,?_⟩|refine ⟨⟨rfl,rfl,by decide⟩,?_⟩|refine ⟨rfl,?_⟩|refine ⟨⟨by omega,by omega⟩,⟨rfl,rfl⟩,?_⟩|refine ⟨in64 (by omega) (by omega),?_⟩|refine Br.dec (fun _=>?_) (fun hh=>absurd (by omega) hh)|refine Br.dec (fun hh=>absurd hh (by omega)) (fun _=>?_)|refine Br.eq (fun _=>?_) (fun hh=>absurd (by omega) hh)|refine Br.eq (fun hh=>absurd hh (by omega)) (fun _=>?_)|refine Br.ne (fun _=>?_) (fun hh=>absurd (by omega) hh)|refine Br.ne (fun hh=>absurd hh (by omega)) (fun _=>?_)|refine ⟨_,rfl,?_⟩|rw [← List.map_drop,← List.map_take]);conv=>whnf)
    exact ⟨Ends.keep ⟨k,rfl,by rw [decide_eq_true (by omega),h2,decide_eq_true (List.getElem_mem _)],rfl⟩⟩
   ·(try conv=>whnf);repeat ((first|refine And.intro (show cellsAll _ _ from by repeat (first|exact trivial|refine ⟨⟨rfl,rfl⟩,?_⟩)) ?_|refine ⟨_,getZ (by omega),?_⟩|refine ⟨_,getI (by omega) (by omega),?_⟩|refine ⟨by omega,rfl,?_⟩|refine ⟨by (simp;omega),rfl,?_⟩|refine ⟨rfl,_,rfl,⟨rfl,rfl,by decide⟩,?_⟩|refine ⟨rfl,_,rfl,?_⟩|refine ⟨rfl,_,getO (by omega),?_⟩|refine ⟨rfl,⟨by omega,by omega,by omega⟩,?_⟩|refine ⟨⟨rfl,rfl⟩,?_⟩|refine ⟨⟨rfl,rfl,rfl⟩,?_⟩|refine ⟨⟨rfl,rfl,by decide⟩,?_⟩|refine ⟨rfl,?_⟩|refine ⟨⟨by omega,by omega⟩,⟨rfl,rfl⟩,?_⟩|refine ⟨in64 (by omega) (by omega),?_⟩|refine Br.dec (fun _=>?_) (fun hh=>absurd (by omega) hh)|refine Br.dec (fun hh=>absurd hh (by omega)) (fun _=>?_)|refine Br.eq (fun _=>?_) (fun hh=>absurd (by omega) hh)|refine Br.eq (fun hh=>absurd hh (by omega)) (fun _=>?_)|refine Br.ne (fun _=>?_) (fun hh=>absurd (by omega) hh)|refine Br.ne (fun hh=>absurd hh (by omega)) (fun _=>?_)|refine ⟨_,rfl,?_⟩|rw [← List.map_drop,← List.map_take]);conv=>whnf)
    refine ⟨⟨k+1,⟨hk',?_⟩,by omega,rfl,by simp [subT,subV,tm,tmGo,ints]⟩⟩
    rw [List.take_succ_eq_append_getElem hk']
    simp only [List.mem_append,List.mem_singleton,not_or]
    exact ⟨hn,h2⟩
  ·(try conv=>whnf);repeat ((first|refine And.intro (show cellsAll _ _ from by repeat (first|exact trivial|refine ⟨⟨rfl,rfl⟩,?_⟩)) ?_|refine ⟨_,getZ (by omega),?_⟩|refine ⟨_,getI (by omega) (by omega),?_⟩|refine ⟨by omega,rfl,?_⟩|refine ⟨by (simp;omega),rfl,?_⟩|refine ⟨rfl,_,rfl,⟨rfl,rfl,by decide⟩,?_⟩|refine ⟨rfl,_,rfl,?_⟩|refine ⟨rfl,_,getO (by omega),?_⟩|refine ⟨rfl,⟨by omega,by omega,by omega⟩,?_⟩|refine ⟨⟨rfl,rfl⟩,?_⟩|refine ⟨⟨rfl,rfl,rfl⟩,?_⟩|refine ⟨⟨rfl,rfl,by decide⟩,?_⟩|refine ⟨rfl,?_⟩|refine ⟨⟨by omega,by omega⟩,⟨rfl,rfl⟩,?_⟩|refine ⟨in64 (by omega) (by omega),?_⟩|refine Br.dec (fun _=>?_) (fun hh=>absurd (by omega) hh)|refine Br.dec (fun hh=>absurd hh (by omega)) (fun _=>?_)|refine Br.eq (fun _=>?_) (fun hh=>absurd (by omega) hh)|refine Br.eq (fun hh=>absurd hh (by omega)) (fun _=>?_)|refine Br.ne (fun _=>?_) (fun hh=>absurd (by omega) hh)|refine Br.ne (fun hh=>absurd hh (by omega)) (fun _=>?_)|refine ⟨_,rfl,?_⟩|rw [← List.map_drop,← List.map_take]);conv=>whnf)
   have:k=xs.length:=by omega
   subst this
   rw [List.take_length] at hn
   exact ⟨Ends.keep ⟨-1,rfl,by rw [decide_eq_false hn];rfl,rfl⟩⟩
theorem c_slices_Contains_Lint_int (xs:List Int) (x:Int) (hl:xs.length < 1000000000):CG Tryz.prog 74 [tints xs,.i x] (.b (decide (x∈xs))):=by
 refine ⟨k_slices_Contains_Lint_int.calls ?_⟩
 conv=>whnf
 refine (c_slices_Index_Lint_int xs x hl).mono ?_
 rintro r h ⟨n,rfl,hn,rfl⟩
 conv=>whnf
 rw [← hn]
 exact ⟨Ends.keep ⟨rfl,rfl⟩⟩
end Go.Aw
