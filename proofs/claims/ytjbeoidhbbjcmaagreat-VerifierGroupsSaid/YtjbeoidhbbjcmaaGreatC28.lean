/- A small machine that runs closed calls, with the proof that the program does what it does. -/
import Derived.Test.YtjbeoidhbbjcmaaGreatC21
import Derived.Test.YtjbeoidhbbjcmaaGreatC22
import Derived.Test.YtjbeoidhbbjcmaaGreatC23
import Derived.Test.YtjbeoidhbbjcmaaGreatC24
import Derived.Test.YtjbeoidhbbjcmaaGreatC25
import Derived.Test.YtjbeoidhbbjcmaaGreatC26
import Derived.Test.YtjbeoidhbbjcmaaGreatC27
namespace Go.AI
open Go Go.Proofs Go.Proofs.YtjbeoidhbbjcmaaGreat
open Go.RowKit (Below)
set_option maxRecDepth 1000000
theorem awake_body:(match Tryz.f10.body with|some b=>some (chain [pc 0 b,pc 1 b] (chain [pc 2 b] (chain [pc 3 b,pc 4 b] (chain [pc 5 b] (chain [pc 6 b] (chain [pc 7 b,pc 8 b,pc 9 b] (chain [pc 10 b] (.ret))))))))|none=>none)=Tryz.f10.body:=by kernel_rfl
theorem awake_calls (w:World):Calls Tryz.prog 10 #[] w fun e w'=>e=.returned (.bool true)∧Below w.heap.size w w':=by
 cases hb:Tryz.f10.body with
 | none=>have:=aw1_runs;unfold aw1 at this;rw[hb] at this;cases this
 | some b =>
  have s1:=aw1_runs;unfold aw1 at s1;rw[hb] at s1;have s2:=aw2_runs;unfold aw2 at s2;rw[hb] at s2;have s3:=aw3_runs;unfold aw3 at s3;rw[hb] at s3;have s4:=aw4_runs;unfold aw4 at s4;rw[hb] at s4;have s5:=aw5_runs;unfold aw5 at s5;rw[hb] at s5;have s6:=aw6_runs;unfold aw6 at s6;rw[hb] at s6;have s7:=aw7_runs;unfold aw7 at s7;rw[hb] at s7;have hbody:=awake_body;rw[hb] at hbody;have hbody:=Option.some.inj hbody;refine calls_of_wp Tryz.func10 hb ?_;rw[← hbody]
  have hR:HR Tryz.prog (fun _=>none) w w ⟨[],0,[]⟩:=by
   refine⟨Below.refl _ _,rfl,fun b m hm=>(by cases hm),fun b e cs hb=>?_,fun b ks hb=>?_,fun b b' m m' hm=>(by cases hm)⟩
   ·unfold Hp.blk at hb;simp at hb
   ·unfold Hp.blk at hb;simp at hb
  have hT:TR (fun _=>none) (List.replicate 99 undef) { tmps:=#[] ++ Array.replicate (Tryz.f10.ntmps - (#[]:Array Value).size) undef,defers:=[] }:=by
   have hn:Tryz.f10.ntmps=99:=rfl;rw[hn];refine⟨by simp,fun i=>?_,rfl⟩;rw[getL_eq,List.getD_eq_getElem?_getD,Array.getD_eq_getD_getElem?];by_cases hi:i < 99
   ·simp only[List.getElem?_replicate,hi,if_true];simp[hi];exact .same rfl
   ·simp only[List.getElem?_replicate,hi,if_false];simp[hi];exact .same rfl
  (refine seg_ok s1 hR hT fun a1 w1 hR1 hT1=>?_);(refine seg_ok s2 hR1 hT1 fun a2 w2 hR2 hT2=>?_);(refine seg_ok s3 hR2 hT2 fun a3 w3 hR3 hT3=>?_);(refine seg_ok s4 hR3 hT3 fun a4 w4 hR4 hT4=>?_);(refine seg_ok s5 hR4 hT4 fun a5 w5 hR5 hT5=>?_);(refine seg_ok s6 hR5 hT5 fun a6 w6 hR6 hT6=>?_);(refine seg_ok s7 hR6 hT6 fun a7 w7 hR7 hT7=>?_);refine wp_ret ?_;(have hv:resAll Tryz.prog Tryz.f10 (toT 99 [(0,.bool true)]) ⟨[],0,[]⟩=some (.bool true):=by kernel_rfl);obtain⟨v',r1,r2⟩:=resAll_ok hR7 hT7 hv;have hv':v'=.bool true:=VR.flat_eq rfl r1;subst hv';exact⟨hT7.df,.bool true,r2,rfl,hR7.below⟩
end Go.AI
namespace Go.Proofs.YtjbeoidhbbjcmaaGreat.PG
open Go.RowKit Go.Proofs.YtjbeoidhbbjcmaaGreatW.PrintWords Go.Proofs.YtjbeoidhbbjcmaaGreatW.PrintLast Go.Proofs.YtjbeoidhbbjcmaaGreatW.PrintMore
def galoislaw60_awake.f (_:Nat):Option (Bool):=some true
theorem galoislaw60_awake.calls (k:Nat) (r:Bool) (w:World) (h:galoislaw60_awake.f k=some r) :
    Calls Tryz.prog 10 #[] w fun e w'=>e=.returned (.bool r)∧Below w.heap.size w w':=by
 cases h;exact Go.AI.awake_calls w
end Go.Proofs.YtjbeoidhbbjcmaaGreat.PG
