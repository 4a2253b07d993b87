/- Plain functions of what the program computes, and the proofs that its calls come to them. -/
import Derived.Test.YtjbeoidhbbjcmaaGreatC02
import Derived.Laws.Slices
import Derived.Laws.Externs
import Derived.Shelf.Spec.BitsCarry
import Derived.Test.YtjbeoidhbbjcmaaGreatProg
import Derived.Below
import Derived.Deep.Draws
import Derived.Deep.AppendLies
import Derived.Maps.AppendAt
import Derived.OwnWalk
import Derived.Laws.BytesArg
import Derived.Laws.MakeOwn
import Derived.Laws.OwnMore
import Derived.Deep.OwnRows
import Derived.Tactics
import Derived.Lib.ConvBytes
import Derived.WalkKit
import Derived.KernelRfl
import Derived.RowKit3
import Derived.Deep.LoopGhost
import Derived.Deep.QuietTactic
import Derived.BigQuiet
import Derived.WideLaws
import Derived.Deep.DeepCutAuto
import Derived.Deep.CutBlock
import Derived.Deep.RegionHeld3
import Derived.Laws.Rows
import Derived.Lib.AppendStr
import Derived.ArgAppend
import Derived.Laws.IdiomCopy
import Derived.OrdersHeld
import Derived.Laws.BitsLemmas
import Derived.RowKit
import Derived.Laws.StructEq
import Derived.Maps.OwnOps
import Derived.Maps.OwnSet
import Derived.StringKeys
import Derived.Deep.DeepMust
namespace Go.Proofs.YtjbeoidhbbjcmaaGreat
open Go.RowKit Go.Proofs.YtjbeoidhbbjcmaaGreatW.PrintWords Go.Proofs.YtjbeoidhbbjcmaaGreatW.PrintLast
section
variable {P : Program}
/-- A call that the machine answers itself. -/
def XCalls (P:Program) (f:FuncId) (args:Array Value) (w:World) (R:Ending→World→Prop):Prop:=∃ v,(callFunc f args).run P w=.ok (.value v) w∧R (.returned v) w
theorem XCalls.mono {f:FuncId} {args:Array Value} {w:World} {R R':Ending→World→Prop} (h:XCalls P f args w R) (hR:∀ e w',R e w'→R' e w'):XCalls P f args w R':=by
 obtain⟨v,h1,h2⟩:=h;exact⟨v,h1,hR _ _ h2⟩
variable {ops : Array Oper} {Q : Exit → Act → World → Prop}
end
/-- The two numbers of math/bits.Add64 and Sub64, for a carry of 0 or 1. -/
def add64 (x y c:Int):Option (Int × Int):=if c=0∨c=1 then some ((((x.toNat + y.toNat + c.toNat) % 18446744073709551616:Nat):Int),(((x.toNat + y.toNat + c.toNat) / 18446744073709551616:Nat):Int)) else none
def sub64 (x y c:Int):Option (Int × Int):=if c=0∨c=1 then some ((((x.toNat + 18446744073709551616 - y.toNat - c.toNat) % 18446744073709551616:Nat):Int),(if x.toNat < y.toNat + c.toNat then 1 else 0)) else none
theorem run_add64' {P:Program} (x y c:Int) (hc:c=0∨c=1) (w:World) :
    (add64Entry #[.int .u64 x,.int .u64 y,.int .u64 c]).run P w =
      .ok (.tuple #[.int .u64 (((x.toNat + y.toNat + c.toNat) % 18446744073709551616:Nat):Int),.int .u64 (((x.toNat + y.toNat + c.toNat) / 18446744073709551616:Nat):Int)]) w:=by
 rcases hc with rfl|rfl <;> rfl
theorem run_sub64' {P:Program} (x y c:Int) (hc:c=0∨c=1) (w:World) :
    (sub64Entry #[.int .u64 x,.int .u64 y,.int .u64 c]).run P w =
      .ok (.tuple #[.int .u64 (((x.toNat + 18446744073709551616 - y.toNat - c.toNat) % 18446744073709551616:Nat):Int),.int .u64 (if x.toNat < y.toNat + c.toNat then 1 else 0)]) w:=by
 (have e:(if x.toNat < y.toNat + c.toNat then 1 else 0:Int)=((if x.toNat < y.toNat + c.toNat then 1 else 0:Nat):Int):=by split <;> rfl);rw[e];(rcases hc with rfl|rfl <;> rfl)
theorem xadd64 {P : Program} {f : FuncId} {fn : Func} (hf : P.funcs[f]? = some fn) (hname : (fn.name == "runtime.NumGoroutine") = false) (hb : fn.body.isNone = true) (hn : Extern.findNext fn = none) (he : Extern.find fn = some add64Entry)
    (x y c r1 r2:Int) (w:World) (h:add64 x y c=some (r1,r2)):XCalls P f #[.int .u64 x,.int .u64 y,.int .u64 c] w fun e w'=>e=.returned (.tuple #[.int .u64 r1,.int .u64 r2])∧w=w':=by
 unfold add64 at h;by_cases hc:c=0∨c=1
 ·rw[if_pos hc] at h;injection h with h;injection h with h1 h2;refine⟨_,?_,rfl,rfl⟩;rw[run_callFunc_extern hf hname hb hn he,run_add64' x y c hc,← h1,← h2];rfl
 ·rw[if_neg hc] at h;cases h
theorem xsub64 {P : Program} {f : FuncId} {fn : Func} (hf : P.funcs[f]? = some fn) (hname : (fn.name == "runtime.NumGoroutine") = false) (hb : fn.body.isNone = true) (hn : Extern.findNext fn = none) (he : Extern.find fn = some sub64Entry)
    (x y c r1 r2:Int) (w:World) (h:sub64 x y c=some (r1,r2)):XCalls P f #[.int .u64 x,.int .u64 y,.int .u64 c] w fun e w'=>e=.returned (.tuple #[.int .u64 r1,.int .u64 r2])∧w=w':=by
 unfold sub64 at h;by_cases hc:c=0∨c=1
 ·rw[if_pos hc] at h;injection h with h;injection h with h1 h2;refine⟨_,?_,rfl,rfl⟩;rw[run_callFunc_extern hf hname hb hn he,run_sub64' x y c hc,← h1,← h2];rfl
 ·rw[if_neg hc] at h;cases h
end Go.Proofs.YtjbeoidhbbjcmaaGreat
namespace Go.Proofs.YtjbeoidhbbjcmaaGreat
open Go.RowKit Go.Proofs.YtjbeoidhbbjcmaaGreatW.PrintWords Go.Proofs.YtjbeoidhbbjcmaaGreatW.PrintLast
theorem info81:(Tryz.prog.info? 81).map (fun i=>(i.zero,i.size,i.bytes))=some (some (.agg #[.int .i64 0,.slice none 0 0]),2,32):=by kernel_rfl
theorem info99:(Tryz.prog.info? 99).map (fun i=>(i.zero,i.size,i.bytes))=some (some (.slice none 0 0),1,24):=by kernel_rfl
def IRow (w:World) (base:Nat) (c:Value) (l:List Int):Prop:=w.ownsRow base 3 1 c l.length (nums .i64 l)
def LRow (w:World) (base:Nat) (v:Value) (ls:List (List Int)):Prop:=∃ cells,w.ownsRow base 99 1 v ls.length cells∧∀ (j:Nat) (l:List Int),ls[j]?=some l→∃ c,cells[j]?=some c∧IRow w base c l
section
variable {w w1 : World} {base b : Nat} {v c : Value} {l : List Int} {ls : List (List Int)}
theorem ne_map {e:TypeId} {size n:Nat} {xs:List Value} {es:Array MapEntry} {k:Nat} (h:w.ownsRow base e size v n xs) (hb:w.heap[b]?=some (.map es k)):v.ownBlock=none∨v.ownBlock≠some b:=by
 cases hv:v.ownBlock with
 | none=>exact .inl rfl
 | some g =>
  refine .inr ?_;rintro⟨⟩;obtain⟨cells,hc⟩:=own_typed h _ hv;rw[hb] at hc;cases hc
theorem ne_cells {e t:TypeId} {size n:Nat} {xs:List Value} {cs:Array Value} (h:w.ownsRow base e size v n xs) (hb:w.heap[b]?=some (.cells cs t (0,0))) (ht:e≠t):v.ownBlock=none∨v.ownBlock≠some b:=by
 cases hv:v.ownBlock with
 | none=>exact .inl rfl
 | some g =>
  refine .inr ?_;rintro⟨⟩;obtain⟨cells,hc⟩:=own_typed h _ hv;rw[hb] at hc;injection hc with hc;injection hc with _ hc;exact ht hc.symm
theorem IRow.below (h:IRow w base c l) (hb:Below w.heap.size w w1):IRow w1 base c l:=pw_own_below h hb
theorem IRow.other (h:IRow w base c l) {row:Option Nat} (hg:w.grownBy w1 row) (hne:c.ownBlock=none∨c.ownBlock≠row):IRow w1 base c l:=own_other h hg hne
theorem IRow.lower {base':Nat} (h:IRow w base c l) (hb:base'≤base):IRow w base' c l:=own_weaken h hb
theorem IRow.val (h:IRow w base c l):∃ A cap,c=.slice A l.length cap∧l.length≤cap∧Kd.C (Kd.int .i64) w A l.length l:=by
 obtain⟨A,cap,hc,hr⟩:=own_reads h;refine⟨A,cap,hc,?_,Kd.C_of_reads (d:=(0:Int)) (h1:=fun _=>rfl) hr⟩;subst hc;exact own_le h
theorem IRow.of_R {ok:Nat→Prop} (h:Kd.R (Kd.int .i64) 3 w base ok v l):IRow w base v l:=Kd.own_of_R h
theorem LRow.lower {base':Nat} (h:LRow w base v ls) (hb:base'≤base):LRow w base' v ls:=by
 obtain⟨cells,ho,hc⟩:=h;exact⟨cells,own_weaken ho hb,fun j l hj=>let ⟨c,h1,h2⟩:=hc j l hj;⟨c,h1,h2.lower hb⟩⟩
theorem LRow.below (h:LRow w base v ls) (hb:Below w.heap.size w w1):LRow w1 base v ls:=by
 obtain⟨cells,ho,hc⟩:=h;exact⟨cells,pw_own_below ho hb,fun j l hj=>let ⟨c,h1,h2⟩:=hc j l hj;⟨c,h1,h2.below hb⟩⟩
/-- A map has been written. -/
theorem LRow.map (h:LRow w base v ls) {es:Array MapEntry} {k:Nat} (hb:w.heap[b]?=some (.map es k)) (hg:w.grownBy w1 (some b)):LRow w1 base v ls:=by
 obtain⟨cells,ho,hc⟩:=h;exact⟨cells,own_other ho hg (ne_map ho hb),fun j l hj=>let ⟨c,h1,h2⟩:=hc j l hj;⟨c,h1,h2.other hg (ne_map h2 hb)⟩⟩
/-- Another row of permutations has been written. -/
theorem IRow.lists (h:IRow w base c l) {base' n:Nat} {u:Value} {xs:List Value} (hu:w.ownsRow base' 99 1 u n xs) (hg:w.grownBy w1 u.ownBlock):IRow w1 base c l :=
  h.other hg (own_type_ne h hu (by decide))
theorem LRow.own (h:LRow w base v ls):∃ cells,w.ownsRow base 99 1 v ls.length cells:=⟨_,h.choose_spec.1⟩
theorem LRow.slice (h:LRow w base v ls):∃ A cap,v=.slice A ls.length cap∧ls.length≤cap:=by
 obtain⟨cells,ho,_⟩:=h;obtain⟨A,cap,rfl⟩:=own_slice ho;exact⟨A,cap,rfl,own_le ho⟩
theorem LRow.lists (h:LRow w base v ls) {base' n:Nat} {u:Value} {xs:List Value} (hu:w.ownsRow base' 99 1 u n xs) (hne:v.ownBlock=none∨v.ownBlock≠u.ownBlock) (hg:w.grownBy w1 u.ownBlock):LRow w1 base v ls:=by
 obtain⟨cells,ho,hc⟩:=h;exact⟨cells,own_other ho hg hne,fun j l hj=>let ⟨c,h1,h2⟩:=hc j l hj;⟨c,h1,h2.lists hu hg⟩⟩
/-- An element. -/
theorem LRow.get {A:Option Addr} {n cap:Nat} (h:LRow w base (.slice A n cap) ls) (i:Nat) (hi:i < ls.length):∃ g c,A=some ⟨g,0,none⟩∧w.cell? ⟨g,i,none⟩=some c∧IRow w base c (ls.getD i []):=by
 obtain⟨cells,ho,hc⟩:=h;obtain⟨c,h1,h2⟩:=hc i _ (List.getElem?_eq_getElem hi);have hl:=ho.1;(rcases ho.2 with ⟨hv,h0⟩|⟨g,cap',cur,hv,_,hh,_,_,_,ht⟩)
 ·omega
 ·injection hv with hA _ _;refine⟨g,c,hA,?_,by rw[List.getD_eq_getElem?_getD,List.getElem?_eq_getElem hi];exact h2⟩;rw[blk_cell hh i,← h1,← ht,List.getElem?_take_of_lt (by omega),Array.getElem?_toList]
theorem LRow.take {A:Option Addr} {n cap m:Nat} (h:LRow w base (.slice A n cap) ls) (hm:m≤ls.length):LRow w base (.slice A m cap) (ls.take m):=by
 obtain⟨cells,ho,hc⟩:=h;obtain⟨A',c',he⟩:=own_slice ho;injection he with _ hn _;subst hn;(have hl:(ls.take m).length=m:=by rw[List.length_take];omega);refine⟨cells.take m,?_,fun j l hj=>?_⟩
 ·have:=own_take ho hm;rw[Nat.mul_one] at this;rw[hl];exact this
 ·(have hjm:j < m:=by have:=(List.getElem?_eq_some_iff.1 hj).1;omega);rw[List.getElem?_take_of_lt hjm] at hj;obtain⟨c,h1,h2⟩:=hc j l hj;exact⟨c,by rw[List.getElem?_take_of_lt hjm];exact h1,h2⟩
/-- One permutation more. -/
theorem LRow.snoc {v1:Value} {cells:List Value} (hc:∀ (j:Nat) (l:List Int),ls[j]?=some l→∃ c,cells[j]?=some c∧IRow w1 base c l) (hl:cells.length=ls.length) (ho:w1.ownsRow base 99 1 v1 (ls.length + 1) (cells ++ [c])) (hi:IRow w1 base c l):LRow w1 base v1 (ls ++ [l]):=by
 refine⟨cells ++ [c],by rw[List.length_append];exact ho,fun j l' hj=>?_⟩;by_cases h:j < ls.length
 ·rw[List.getElem?_append_left h] at hj;obtain⟨c',h1,h2⟩:=hc j l' hj;exact⟨c',by rw[List.getElem?_append_left (by omega)];exact h1,h2⟩
 ·(have hj':j=ls.length:=by have:=(List.getElem?_eq_some_iff.1 hj).1;simp at this;omega);subst hj';simp at hj;subst hj;exact⟨c,by rw[← hl];simp,hi⟩
theorem IRow.reads {A:Option Addr} {n cap:Nat} (h:IRow w base (.slice A n cap) l):n=l.length∧l.length≤cap∧Kd.C (Kd.int .i64) w A l.length l:=by
 obtain⟨A',c',he,h1,h2⟩:=h.val;injection he with ha hn hc;subst ha hn hc;exact⟨rfl,h1,h2⟩
theorem LRow.single (h:IRow w base c l) (hb:base≤w.heap.size):LRow (w.alloc (.cells #[c] 99 (0,0))) base (.slice (some ⟨w.heap.size,0,none⟩) 1 1) [l]:=by
 refine⟨[c],⟨rfl,.inr ⟨w.heap.size,1,#[c],rfl,hb,heap_alloc_new w _,Nat.le_refl _,by unfold maxLen;omega,rfl,rfl⟩⟩,fun j l' hj=>?_⟩;(have hj0:j=0:=by have:=(List.getElem?_eq_some_iff.1 hj).1;simp at this;omega);subst hj0;simp at hj;subst hj;exact⟨c,rfl,h.below (below_alloc (Below.refl _ _) _)⟩
theorem LRow.getA {A:Option Addr} {n cap:Nat} (h:LRow w base (.slice A n cap) ls) (i:Nat) (hi:i < ls.length):∃ ad c,A=some ad∧w.cell? (ad.add i)=some c∧IRow w base c (ls.getD i []):=by
 obtain⟨g,c,hA,hc,hr⟩:=h.get i hi;exact⟨_,c,hA,by rw[add_plain];exact hc,hr⟩
theorem LRow.split (h:LRow w base v ls):∃ cells,w.ownsRow base 99 1 v ls.length cells∧cells.length=ls.length∧∀ (j:Nat) (l:List Int),ls[j]?=some l→∃ c,cells[j]?=some c∧IRow w base c l:=by
 obtain⟨cells,ho,hc⟩:=h;exact⟨cells,ho,by have:=ho.1;omega,hc⟩
/-- Handed back: a row of rows. -/
theorem LRow.R (h:LRow w base v ls):Kd.R (Kd.slice 3 (Kd.int .i64)) 99 w base (fun k=>base≤k) v ls:=by
 obtain⟨cells,ho,hl,hc⟩:=h.split;refine⟨fun k hk=>own_base ho k hk,cells,ho,by rw[hl];exact (Nat.mul_one _).symm,fun j l hj=>?_⟩;obtain⟨c,h1,h2⟩:=hc j l hj
 have e:(cells.drop (j * 1)).take 1=[c]:=by
  rw[Nat.mul_one];have hj':j < cells.length:=(List.getElem?_eq_some_iff.1 h1).1;rw[List.drop_eq_getElem_cons hj'];rw[List.getElem?_eq_getElem hj'] at h1;injection h1 with h1;simp[h1]
 show (Kd.slice 3 (Kd.int .i64)).M w base _ l ((cells.drop (j * 1)).take 1);rw[e];refine Kd.M_row (Kd.R_of_own h2 (fun k hk=>⟨own_base h2 k hk,fun he=>?_⟩));(rcases own_type_ne h2 ho (by decide) with h0|h0)
 ·rw[h0] at hk;cases hk
 ·exact h0 (hk.trans he)
theorem LRow.readsC {A:Option Addr} {n cap:Nat} (h:LRow w base (.slice A n cap) ls):n=ls.length∧ls.length≤cap∧Kd.C (Kd.slice 3 (Kd.int .i64)) w A ls.length ls:=by
 have h1:=Kd.R_reads' h.R;exact⟨h1.1,by omega,h1.2.2⟩
theorem LRow.ownBase (h:LRow w base v ls) (k:Nat) (hk:v.ownBlock=some k):base≤k∧k < w.heap.size:=by
 obtain⟨cells,ho⟩:=h.own;exact⟨own_base ho k hk,own_lt ho k hk⟩
end
end Go.Proofs.YtjbeoidhbbjcmaaGreat
namespace Go.Proofs.YtjbeoidhbbjcmaaGreat.PG
open Go.RowKit Go.Proofs.YtjbeoidhbbjcmaaGreatW.PrintWords Go.Proofs.YtjbeoidhbbjcmaaGreatW.PrintLast Go.Proofs.YtjbeoidhbbjcmaaGreatW.PrintMore
set_option linter.unusedVariables false
set_option linter.unusedSimpArgs false

def errW:Option Int→Value
  | none=>.nilIface
  | some c=>.iface 0 (.int .i64 c)
theorem errW_none:errW none=.nilIface:=rfl
theorem errW_some (c:Int):errW (some c)=.iface 0 (.int .i64 c):=rfl

theorem info3:(Tryz.prog.info? 3).map (fun i=>(i.zero,i.size,i.bytes))=some (some (.int .i64 0),1,8):=by kernel_rfl
theorem info4:(Tryz.prog.info? 4).map (fun i=>(i.zero,i.size,i.bytes))=some (some (.bool false),1,1):=by kernel_rfl
theorem info5:(Tryz.prog.info? 5).map (fun i=>(i.zero,i.size,i.bytes))=some (some (.int .u8 0),1,1):=by kernel_rfl
theorem info79:(Tryz.prog.info? 79).map (fun i=>(i.zero,i.size,i.bytes))=some (some (.slice none 0 0),1,24):=by kernel_rfl
-- the values' own types
def rd_L2 (xs:List (List Int)) (i:Int):(List Int):=xs.getD i.toNat ([]:List Int)
theorem at_L2 {w:World} {A:Option Addr} {n:Nat} {xs:List (List Int)} (h:Kd.C (Kd.slice 3 (Kd.int .i64)) w A n xs) (i:Int) (h0:0≤i) (h1:i < n):∃ ad A0 c0,A=some ad∧w.cell? (ad.add i.toNat)=some (.slice A0 (rd_L2 xs i).length c0)∧(rd_L2 xs i).length≤c0∧(Kd.int .i64).C w A0 (rd_L2 xs i).length (rd_L2 xs i):=by
 obtain⟨ad,c,e,_,hK,hc0⟩:=Kd.C_get h ([]:List Int) i h0 h1;have hc:∀ j u,c[j]?=some u→w.cell? (ad.add (i.toNat * 1 + j))=some u:=hc0;obtain⟨A0,c0,rfl,l0,g0⟩:=hK;exact⟨ad,A0,c0,e,by have hq:=hc 0 _ rfl;rwa [Nat.mul_one,Nat.add_zero] at hq,l0,g0⟩
def rd_L3 (xs:List (List (List Int))) (i:Int):(List (List Int)):=xs.getD i.toNat ([]:List (List Int))
theorem at_L3 {w:World} {A:Option Addr} {n:Nat} {xs:List (List (List Int))} (h:Kd.C (Kd.slice 99 (Kd.slice 3 (Kd.int .i64))) w A n xs) (i:Int) (h0:0≤i) (h1:i < n):∃ ad A0 c0,A=some ad∧w.cell? (ad.add i.toNat)=some (.slice A0 (rd_L3 xs i).length c0)∧(rd_L3 xs i).length≤c0∧(Kd.slice 3 (Kd.int .i64)).C w A0 (rd_L3 xs i).length (rd_L3 xs i):=by
 obtain⟨ad,c,e,_,hK,hc0⟩:=Kd.C_get h ([]:List (List Int)) i h0 h1;have hc:∀ j u,c[j]?=some u→w.cell? (ad.add (i.toNat * 1 + j))=some u:=hc0;obtain⟨A0,c0,rfl,l0,g0⟩:=hK;exact⟨ad,A0,c0,e,by have hq:=hc 0 _ rfl;rwa [Nat.mul_one,Nat.add_zero] at hq,l0,g0⟩
structure S81 where
  f0:Int
  f1:(List (List Int))
def z81:S81:=⟨(0:Int),([]:List (List Int))⟩
def k81:Kd S81:=Kd.iso (Kd.pair (Kd.int .i64) (Kd.slice 99 (Kd.slice 3 (Kd.int .i64)))) (fun x:S81=>(x.f0,x.f1))
theorem k81_open {w:World} {x:S81} {cs:List Value} (h:k81.K w x cs):∃ A1 c1,cs=[.int .i64 x.f0,.slice A1 x.f1.length c1]∧x.f1.length≤c1∧(Kd.slice 3 (Kd.int .i64)).C w A1 x.f1.length x.f1:=by
 obtain⟨_,_,rfl,rfl,⟨A1,c1,rfl,l1,g1⟩⟩:=h;exact⟨A1,c1,rfl,l1,g1⟩
def rd_T81 (xs:List S81) (i:Int):S81:=xs.getD i.toNat z81
theorem at_T81 {w:World} {A:Option Addr} {n:Nat} {xs:List S81} (h:Kd.C k81 w A n xs) (i:Int) (h0:0≤i) (h1:i < n):∃ ad A1 c1,A=some ad∧w.cell? (ad.add (i.toNat * 2))=some (.int .i64 (rd_T81 xs i).f0)∧w.cell? ⟨(ad.add (i.toNat * 2)).block,(ad.add (i.toNat * 2)).off + 1,none⟩=some (.slice A1 (rd_T81 xs i).f1.length c1)∧(rd_T81 xs i).f1.length≤c1∧(Kd.slice 3 (Kd.int .i64)).C w A1 (rd_T81 xs i).f1.length (rd_T81 xs i).f1:=by
 obtain⟨ad,c,e,_,hK,hc0⟩:=Kd.C_get h z81 i h0 h1;have hc:∀ j u,c[j]?=some u→w.cell? (ad.add (i.toNat * 2 + j))=some u:=hc0;obtain⟨A1,c1,rfl,l1,g1⟩:=k81_open hK;exact⟨ad,A1,c1,e,hc 0 _ rfl,by rw[← add_field _ _ 1 (by omega)];exact hc 1 _ rfl,l1,g1⟩
structure S26 where
  f0:Bool
  f1:ByteArray
def k26:Kd S26:=Kd.iso (Kd.pair Kd.bool Kd.string) (fun x:S26=>(x.f0,x.f1))
structure S28 where
  f0:S26
  f1:ByteArray
def k28:Kd S28:=Kd.iso (Kd.pair k26 Kd.string) (fun x:S28=>(x.f0,x.f1))
structure S41 where
  f0:(List S26)
  f1:Int
def k41:Kd S41:=Kd.iso (Kd.pair (Kd.slice 26 k26) (Kd.int .i64)) (fun x:S41=>(x.f0,x.f1))
structure S95 where
  f0:Int
  f1:Int
  f2:Int
  f3:Int
  f4:(List Int)
  f5:(List (List Int))
def k95:Kd S95:=Kd.iso (Kd.pair (Kd.int .i64) (Kd.pair (Kd.int .i64) (Kd.pair (Kd.int .i64) (Kd.pair (Kd.int .i64) (Kd.pair (Kd.slice 3 (Kd.int .i64)) (Kd.slice 45 (Kd.slice 3 (Kd.int .i64)))))))) (fun x:S95=>(x.f0,x.f1,x.f2,x.f3,x.f4,x.f5))
structure S67 where
  f0:(List Int)
  f1:Int
def k67:Kd S67:=Kd.iso (Kd.pair (Kd.slice 3 (Kd.int .i64)) (Kd.int .i64)) (fun x:S67=>(x.f0,x.f1))
structure S101 where
  f0:Int
  f1:(List (List S28))
def k101:Kd S101:=Kd.iso (Kd.pair (Kd.int .i64) (Kd.slice 22 (Kd.slice 28 k28))) (fun x:S101=>(x.f0,x.f1))
structure S304 where
  f0:S28
  f1:S28
def k304:Kd S304:=Kd.iso (Kd.pair k28 k28) (fun x:S304=>(x.f0,x.f1))
structure S306 where
  f0:S304
  f1:S304
def k306:Kd S306:=Kd.iso (Kd.pair k304 k304) (fun x:S306=>(x.f0,x.f1))
structure S147 where
  f0:Int
  f1:Int
  f2:Int
  f3:Int
  f4:Int
  f5:Int
def k147:Kd S147:=Kd.iso (Kd.pair (Kd.int .i64) (Kd.pair (Kd.int .i64) (Kd.pair (Kd.int .i64) (Kd.pair (Kd.int .i64) (Kd.pair (Kd.int .i64) (Kd.int .i64)))))) (fun x:S147=>(x.f0,x.f1,x.f2,x.f3,x.f4,x.f5))
structure S87 where
  f0:Int
  f1:(List (List S28))
def k87:Kd S87:=Kd.iso (Kd.pair (Kd.int .i64) (Kd.slice 22 (Kd.slice 28 k28))) (fun x:S87=>(x.f0,x.f1))
end Go.Proofs.YtjbeoidhbbjcmaaGreat.PG
namespace Go.Proofs.YtjbeoidhbbjcmaaGreat.PG
open Go.RowKit Go.Proofs.YtjbeoidhbbjcmaaGreatW.PrintWords Go.Proofs.YtjbeoidhbbjcmaaGreatW.PrintLast Go.Proofs.YtjbeoidhbbjcmaaGreatW.PrintMore
set_option linter.unusedVariables false
set_option linter.unusedSimpArgs false

def galoisref22_Compare.l0:Nat→List Int→List Int→Int→Option (Int)
  | 0,_,_,_=>none
  | k + 1,x0,x1,x5=>if x5 < (x0.length:Int) then (if 0≤x5 then (if x5 < (x1.length:Int) then (if (rd x0 x5) < (rd x1 x5) then (some (-1)) else (if (rd x0 x5) > (rd x1 x5) then (some 1) else (galoisref22_Compare.l0 k x0 x1 (wrap64 (x5 + 1))))) else (none)) else (none)) else (some 0)
def galoisref22_Compare.f (k:Nat) (l0:List Int) (l1:List Int):Option (Int):=galoisref22_Compare.l0 k l0 l1 0
set_option maxHeartbeats 8000000 in
set_option maxRecDepth 100000 in
theorem galoisref22_Compare.calls (k:Nat) (A0:Option Addr) (c0:Nat) (l0:List Int) (A1:Option Addr) (c1:Nat) (l1:List Int) (r:Int) (w:World) (hr0:Kd.C (Kd.int .i64) w A0 l0.length l0) (hc0:l0.length≤c0) (hr1:Kd.C (Kd.int .i64) w A1 l1.length l1) (hc1:l1.length≤c1) (h:galoisref22_Compare.f k l0 l1=some r) :
    Calls Tryz.prog 207 #[.slice A0 l0.length c0,.slice A1 l1.length c1] w fun e w'=>e=.returned (.int .i64 r)∧Drawn0 w w':=by
 have HR0:=Aside0.mk hr0;have HC0:=Aside0.mk hc0;clear hr0 hc0;have HR1:=Aside0.mk hr1;have HC1:=Aside0.mk hc1;clear hr1 hc1;have H:(galoisref22_Compare.l0 k l0 l1 0)=some r:=h;clear h;have H':=Aside0.mk H;clear H;go_enter Tryz.func207,Tryz.ntmps207;go_wp2;(repeat (go_quiet (fail);try go_wp2));go_loopg [5] k (fun kq v5 w'=>∃ (x5_1:Int),v5=.int .i64 x5_1∧Aside0 (galoisref22_Compare.l0 kq l0 l1 x5_1=some r)∧Aside0 (kq≤k)∧Drawn0 w w')
 case atStart=>exact⟨(0),(by first|rfl|(simp;done)|(simp[*];done)),H',⟨Nat.le_refl _⟩,by repeat (first|exact Drawn0.refl _|apply Drawn0.step)⟩
 case round =>
  clear H';(try clear c1);(try clear c2);(try clear p2);obtain⟨x5_1,rfl,HA,HK1,⟨m1,rfl⟩⟩:=hrel
  cases gk with
  | zero=>exact absurd HA.out (by simp[galoisref22_Compare.l0])
  | succ k1 =>
   have H:=HA.out;clear HA;simp only[galoisref22_Compare.l0] at H;by_cases c3:x5_1 < (l0.length:Int)
   ·rw[if_pos c3] at H;have c3b0:decide (x5_1 < (l0.length:Int))=true:=decide_eq_true c3;clear c3;by_cases c4:0≤x5_1
    ·rw[if_pos c4] at H;have c4b0:decide (0≤x5_1)=true:=decide_eq_true c4;clear c4;by_cases c5:x5_1 < (l1.length:Int)
     ·rw[if_pos c5] at H;have c5b0:decide (x5_1 < (l1.length:Int))=true:=decide_eq_true c5;clear c5;by_cases c6:(rd l0 x5_1) < (rd l1 x5_1)
      ·rw[if_pos c6] at H;have c6b0:decide ((rd l0 x5_1) < (rd l1 x5_1))=true:=decide_eq_true c6;clear c6;obtain rfl:=Option.some.inj H;have p101:0≤(x5_1:Int):=of_decide_eq_true (by first|(with_reducible assumption)|assumption);have q101:x5_1 < (l0.length:Int):=of_decide_eq_true (by first|(with_reducible assumption)|assumption);obtain⟨ad101,e101,hx101_0⟩:=Kd.at_int HR0.out x5_1 p101 q101;cases e101;replace p101:=eq_true p101;replace q101:=eq_true q101;have p102:0≤(x5_1:Int):=of_decide_eq_true (by first|(with_reducible assumption)|assumption);have q102:x5_1 < (l1.length:Int):=of_decide_eq_true (by first|(with_reducible assumption)|assumption);obtain⟨ad102,e102,hx102_0⟩:=Kd.at_int HR1.out x5_1 p102 q102;cases e102;replace p102:=eq_true p102;replace q102:=eq_true q102;go_wp2;(repeat (go_quiet (fail);try go_wp2));go_ret;exact⟨by first|rfl|(simp;done)|(simp[*];done),by repeat (first|exact Drawn0.refl _|apply Drawn0.step)⟩
      ·rw[if_neg c6] at H;have c6b0:decide ((rd l0 x5_1) < (rd l1 x5_1))=false:=decide_eq_false c6;clear c6;by_cases c7:(rd l0 x5_1) > (rd l1 x5_1)
       ·rw[if_pos c7] at H;have c7b0:decide ((rd l1 x5_1) < (rd l0 x5_1))=true:=decide_eq_true c7;clear c7;obtain rfl:=Option.some.inj H;have p101:0≤(x5_1:Int):=of_decide_eq_true (by first|(with_reducible assumption)|assumption);have q101:x5_1 < (l0.length:Int):=of_decide_eq_true (by first|(with_reducible assumption)|assumption);obtain⟨ad101,e101,hx101_0⟩:=Kd.at_int HR0.out x5_1 p101 q101;cases e101;replace p101:=eq_true p101;replace q101:=eq_true q101;have p102:0≤(x5_1:Int):=of_decide_eq_true (by first|(with_reducible assumption)|assumption);have q102:x5_1 < (l1.length:Int):=of_decide_eq_true (by first|(with_reducible assumption)|assumption);obtain⟨ad102,e102,hx102_0⟩:=Kd.at_int HR1.out x5_1 p102 q102;cases e102;replace p102:=eq_true p102;replace q102:=eq_true q102;have p103:0≤(x5_1:Int):=of_decide_eq_true (by first|(with_reducible assumption)|assumption);have q103:x5_1 < (l0.length:Int):=of_decide_eq_true (by first|(with_reducible assumption)|assumption);obtain⟨ad103,e103,hx103_0⟩:=Kd.at_int HR0.out x5_1 p103 q103;obtain rfl:ad101=ad103:=(by injection e103);replace p103:=eq_true p103;replace q103:=eq_true q103;have p104:0≤(x5_1:Int):=of_decide_eq_true (by first|(with_reducible assumption)|assumption);have q104:x5_1 < (l1.length:Int):=of_decide_eq_true (by first|(with_reducible assumption)|assumption);obtain⟨ad104,e104,hx104_0⟩:=Kd.at_int HR1.out x5_1 p104 q104;obtain rfl:ad102=ad104:=(by injection e104);replace p104:=eq_true p104;replace q104:=eq_true q104;go_wp2;(repeat (go_quiet (fail);try go_wp2));go_ret;exact⟨by first|rfl|(simp;done)|(simp[*];done),by repeat (first|exact Drawn0.refl _|apply Drawn0.step)⟩
       ·rw[if_neg c7] at H;have c7b0:decide ((rd l1 x5_1) < (rd l0 x5_1))=false:=decide_eq_false c7;clear c7;have H':=Aside0.mk H;clear H;have p101:0≤(x5_1:Int):=of_decide_eq_true (by first|(with_reducible assumption)|assumption);have q101:x5_1 < (l0.length:Int):=of_decide_eq_true (by first|(with_reducible assumption)|assumption);obtain⟨ad101,e101,hx101_0⟩:=Kd.at_int HR0.out x5_1 p101 q101;cases e101;replace p101:=eq_true p101;replace q101:=eq_true q101;have p102:0≤(x5_1:Int):=of_decide_eq_true (by first|(with_reducible assumption)|assumption);have q102:x5_1 < (l1.length:Int):=of_decide_eq_true (by first|(with_reducible assumption)|assumption);obtain⟨ad102,e102,hx102_0⟩:=Kd.at_int HR1.out x5_1 p102 q102;cases e102;replace p102:=eq_true p102;replace q102:=eq_true q102;have p103:0≤(x5_1:Int):=of_decide_eq_true (by first|(with_reducible assumption)|assumption);have q103:x5_1 < (l0.length:Int):=of_decide_eq_true (by first|(with_reducible assumption)|assumption);obtain⟨ad103,e103,hx103_0⟩:=Kd.at_int HR0.out x5_1 p103 q103;obtain rfl:ad101=ad103:=(by injection e103);replace p103:=eq_true p103;replace q103:=eq_true q103;have p104:0≤(x5_1:Int):=of_decide_eq_true (by first|(with_reducible assumption)|assumption);have q104:x5_1 < (l1.length:Int):=of_decide_eq_true (by first|(with_reducible assumption)|assumption);obtain⟨ad104,e104,hx104_0⟩:=Kd.at_int HR1.out x5_1 p104 q104;obtain rfl:ad102=ad104:=(by injection e104);replace p104:=eq_true p104;replace q104:=eq_true q104;go_wp2;(repeat (go_quiet (fail);try go_wp2));go_roundg k1
        case measure=>have:=HK1.out;omega
        case rel=>exact⟨(wrap64 (x5_1 + 1)),(by first|rfl|(simp;done)|(simp[*];done)),H',⟨by have:=HK1.out;omega⟩,by repeat (first|exact Drawn0.refl _|apply Drawn0.step)⟩
     ·rw[if_neg c5] at H;exact absurd H (by simp)
    ·rw[if_neg c4] at H;exact absurd H (by simp)
   ·rw[if_neg c3] at H;have c3b0:decide (x5_1 < (l0.length:Int))=false:=decide_eq_false c3;clear c3;obtain rfl:=Option.some.inj H;go_wp2;(repeat (go_quiet (fail);try go_wp2));go_ret;exact⟨by first|rfl|(simp;done)|(simp[*];done),by repeat (first|exact Drawn0.refl _|apply Drawn0.step)⟩
end Go.Proofs.YtjbeoidhbbjcmaaGreat.PG
namespace Go.Proofs.YtjbeoidhbbjcmaaGreat.PG
open Go.RowKit Go.Proofs.YtjbeoidhbbjcmaaGreatW.PrintWords Go.Proofs.YtjbeoidhbbjcmaaGreatW.PrintLast Go.Proofs.YtjbeoidhbbjcmaaGreatW.PrintMore
set_option linter.unusedVariables false
set_option linter.unusedSimpArgs false

def galoisref23_Place.l0:Nat→List (List Int)→List Int→Int→Int→Option (Int)
  | 0,_,_,_,_=>none
  | k + 1,x0,x1,x5,x6=>if x5 < x6 then (if 0≤(wrap64 (Int.tdiv (wrap64 (x5 + x6)) 2)) then (if (wrap64 (Int.tdiv (wrap64 (x5 + x6)) 2)) < (x0.length:Int) then ((galoisref22_Compare.f k (rd_L2 x0 (wrap64 (Int.tdiv (wrap64 (x5 + x6)) 2))) x1).bind fun t102=>(if t102 < 0 then (galoisref23_Place.l0 k x0 x1 (wrap64 ((wrap64 (Int.tdiv (wrap64 (x5 + x6)) 2)) + 1)) x6) else (galoisref23_Place.l0 k x0 x1 x5 (wrap64 (Int.tdiv (wrap64 (x5 + x6)) 2))))) else (none)) else (none)) else (some x5)
def galoisref23_Place.f (k:Nat) (l0:List (List Int)) (l1:List Int):Option (Int):=galoisref23_Place.l0 k l0 l1 0 (l0.length:Int)
set_option maxHeartbeats 8000000 in
set_option maxRecDepth 100000 in
theorem galoisref23_Place.calls (k:Nat) (A0:Option Addr) (c0:Nat) (l0:List (List Int)) (A1:Option Addr) (c1:Nat) (l1:List Int) (r:Int) (w:World) (hr0:Kd.C (Kd.slice 3 (Kd.int .i64)) w A0 l0.length l0) (hc0:l0.length≤c0) (hr1:Kd.C (Kd.int .i64) w A1 l1.length l1) (hc1:l1.length≤c1) (h:galoisref23_Place.f k l0 l1=some r) :
    Calls Tryz.prog 173 #[.slice A0 l0.length c0,.slice A1 l1.length c1] w fun e w'=>e=.returned (.int .i64 r)∧Drawn0 w w':=by
 have HR0:=Aside0.mk hr0;have HC0:=Aside0.mk hc0;clear hr0 hc0;have HR1:=Aside0.mk hr1;have HC1:=Aside0.mk hc1;clear hr1 hc1;have H:(galoisref23_Place.l0 k l0 l1 0 (l0.length:Int))=some r:=h;clear h;have H':=Aside0.mk H;clear H;go_enter Tryz.func173,Tryz.ntmps173;go_wp2;go_loopg [5,6] k (fun kq v5 v6 w'=>∃ (x5_1:Int) (x6_1:Int),v5=.int .i64 x5_1∧v6=.int .i64 x6_1∧Aside0 (galoisref23_Place.l0 kq l0 l1 x5_1 x6_1=some r)∧Aside0 (kq≤k)∧Drawn0 w w')
 case atStart=>exact⟨(0),((l0.length:Int)),(by first|rfl|(simp;done)|(simp[*];done)),(by first|rfl|(simp;done)|(simp[*];done)),H',⟨Nat.le_refl _⟩,by repeat (first|exact Drawn0.refl _|apply Drawn0.step)⟩
 case round =>
  clear H';(try clear c1);(try clear p2);obtain⟨x5_1,x6_1,rfl,rfl,HA,HK1,⟨m1,rfl⟩⟩:=hrel
  cases gk with
  | zero=>exact absurd HA.out (by simp[galoisref23_Place.l0])
  | succ k1 =>
   have H:=HA.out;clear HA;simp only[galoisref23_Place.l0] at H;by_cases c3:x5_1 < x6_1
   ·rw[if_pos c3] at H;have c3b0:decide (x5_1 < x6_1)=true:=decide_eq_true c3;clear c3;obtain⟨ji4,hji4⟩:∃ j_:Int,(wrap64 (Int.tdiv (wrap64 (x5_1 + x6_1)) 2))=j_:=⟨_,rfl⟩;(replace H:(if 0≤(ji4) then (if (ji4) < (l0.length:Int) then ((galoisref22_Compare.f k1 (rd_L2 l0 (ji4)) l1).bind fun t102=>(if t102 < 0 then (galoisref23_Place.l0 k1 l0 l1 (wrap64 ((ji4) + 1)) x6_1) else (galoisref23_Place.l0 k1 l0 l1 x5_1 ji4))) else (none)) else (none))=some r:=by first|(rw[hji4] at H;exact H)|(simp only[hji4] at H ⊢;exact H));have hji4w:(IntKind.i64.wrap (Int.tdiv (wrap64 (x5_1 + x6_1)) 2))=ji4:=(i64_w _).trans hji4;by_cases c5:0≤(ji4)
    ·rw[if_pos c5] at H;have c5b0:decide (0≤(ji4))=true:=decide_eq_true c5;clear c5;by_cases c6:(ji4) < (l0.length:Int)
     ·rw[if_pos c6] at H;have c6b0:decide ((ji4) < (l0.length:Int))=true:=decide_eq_true c6;clear c6;replace H:=Option.bind_eq_some_iff.mp H;obtain⟨t102,A70,H⟩:=H;replace H:(if t102 < 0 then (galoisref23_Place.l0 k1 l0 l1 (wrap64 ((ji4) + 1)) x6_1) else (galoisref23_Place.l0 k1 l0 l1 x5_1 ji4))=some r:=H;have A7:=Aside0.mk A70;clear A70;by_cases c8:t102 < 0
      ·rw[if_pos c8] at H;have c8b0:decide (t102 < 0)=true:=decide_eq_true c8;clear c8;have H':=Aside0.mk H;clear H;have p101:0≤((ji4):Int):=of_decide_eq_true (by first|(with_reducible assumption)|assumption);have q101:(ji4) < (l0.length:Int):=of_decide_eq_true (by first|(with_reducible assumption)|assumption);obtain⟨ad101,A101_0,c101_0,e101,hx101_0,hl101_0,hi101_0⟩:=at_L2 HR0.out (ji4) p101 q101;cases e101;have HR101_0:=Aside0.mk hi101_0;have HC101_0:=Aside0.mk hl101_0;clear hi101_0 hl101_0;replace p101:=eq_true p101;replace q101:=eq_true q101;go_wp2_with (first|((with_reducible refine gate_callee (f:=207) rfl ?_);refine goesL_ (some 22) rfl rfl Tryz.func207 (by kernel_rfl) rfl #[.slice A101_0 (rd_L2 l0 (ji4)).length c101_0,.slice A1 l1.length c1] rfl (by (try simp only[List.map_toArray,List.map_cons,List.map_nil]);first|done|(simp only[hji4];rfl)|rfl|(simp only[List.length_drop,List.length_take];rfl)) ?_;(with_reducible refine (galoisref22_Compare.calls k1 _ _ (rd_L2 l0 (ji4)) _ _ l1 t102 _ ?side1 ?side2 ?side3 ?side4 A7.out).mono ?_);(case side1=>repeat (first|exact HR101_0.out|(with_reducible refine Kd.C_alloc ?_ _)|(with_reducible refine Kd.C_drewN ?_ _)|(with_reducible refine Kd.C_drew ?_)));(case side2=>exact HC101_0.out);(case side3=>repeat (first|exact HR1.out|(with_reducible refine Kd.C_alloc ?_ _)|(with_reducible refine Kd.C_drewN ?_ _)|(with_reducible refine Kd.C_drew ?_)));(case side4=>exact HC1.out);rintro e w' ⟨rfl,⟨nd,rfl⟩⟩;refine⟨_,rfl,?_⟩));go_roundg k1
       case measure=>have:=HK1.out;omega
       case rel=>exact⟨(wrap64 ((ji4) + 1)),(x6_1),(by first|rfl|(simp;done)|(simp only[← hji4] <;> (first|rfl|simp))|(simp[*];done)),(by first|rfl|(simp;done)|(simp[*];done)),H',⟨by have:=HK1.out;omega⟩,by repeat (first|exact Drawn0.refl _|apply Drawn0.step)⟩
      ·rw[if_neg c8] at H;have c8b0:decide (t102 < 0)=false:=decide_eq_false c8;clear c8;have H':=Aside0.mk H;clear H;have p101:0≤((ji4):Int):=of_decide_eq_true (by first|(with_reducible assumption)|assumption);have q101:(ji4) < (l0.length:Int):=of_decide_eq_true (by first|(with_reducible assumption)|assumption);obtain⟨ad101,A101_0,c101_0,e101,hx101_0,hl101_0,hi101_0⟩:=at_L2 HR0.out (ji4) p101 q101;cases e101;have HR101_0:=Aside0.mk hi101_0;have HC101_0:=Aside0.mk hl101_0;clear hi101_0 hl101_0;replace p101:=eq_true p101;replace q101:=eq_true q101;go_wp2_with (first|((with_reducible refine gate_callee (f:=207) rfl ?_);refine goesL_ (some 22) rfl rfl Tryz.func207 (by kernel_rfl) rfl #[.slice A101_0 (rd_L2 l0 (ji4)).length c101_0,.slice A1 l1.length c1] rfl (by (try simp only[List.map_toArray,List.map_cons,List.map_nil]);first|done|(simp only[hji4];rfl)|rfl|(simp only[List.length_drop,List.length_take];rfl)) ?_;(with_reducible refine (galoisref22_Compare.calls k1 _ _ (rd_L2 l0 (ji4)) _ _ l1 t102 _ ?side1 ?side2 ?side3 ?side4 A7.out).mono ?_);(case side1=>repeat (first|exact HR101_0.out|(with_reducible refine Kd.C_alloc ?_ _)|(with_reducible refine Kd.C_drewN ?_ _)|(with_reducible refine Kd.C_drew ?_)));(case side2=>exact HC101_0.out);(case side3=>repeat (first|exact HR1.out|(with_reducible refine Kd.C_alloc ?_ _)|(with_reducible refine Kd.C_drewN ?_ _)|(with_reducible refine Kd.C_drew ?_)));(case side4=>exact HC1.out);rintro e w' ⟨rfl,⟨nd,rfl⟩⟩;refine⟨_,rfl,?_⟩));go_roundg k1
       case measure=>have:=HK1.out;omega
       case rel=>exact⟨(x5_1),(ji4),(by first|rfl|(simp;done)|(simp[*];done)),(by first|rfl|(simp;done)|(simp only[← hji4] <;> (first|rfl|simp))|(simp[*];done)),H',⟨by have:=HK1.out;omega⟩,by repeat (first|exact Drawn0.refl _|apply Drawn0.step)⟩
     ·rw[if_neg c6] at H;exact absurd H (by simp)
    ·rw[if_neg c5] at H;exact absurd H (by simp)
   ·rw[if_neg c3] at H;have c3b0:decide (x5_1 < x6_1)=false:=decide_eq_false c3;clear c3;obtain rfl:=Option.some.inj H;go_wp2;go_ret;exact⟨by first|rfl|(simp;done)|(simp[*];done),by repeat (first|exact Drawn0.refl _|apply Drawn0.step)⟩
end Go.Proofs.YtjbeoidhbbjcmaaGreat.PG
namespace Go.Proofs.YtjbeoidhbbjcmaaGreat.PG
open Go.RowKit Go.Proofs.YtjbeoidhbbjcmaaGreatW.PrintWords Go.Proofs.YtjbeoidhbbjcmaaGreatW.PrintLast Go.Proofs.YtjbeoidhbbjcmaaGreatW.PrintMore
set_option linter.unusedVariables false
set_option linter.unusedSimpArgs false

def galoisref22_Identity.l0:Nat→Int→List Int→Int→Option (List Int)
  | 0,_,_,_=>none
  | k + 1,x0,x3,x4=>if x4 < x0 then (if 0≤x4 then (if x4 < (x3.length:Int) then (galoisref22_Identity.l0 k x0 (x3.set (x4:Int).toNat x4) (wrap64 (x4 + 1))) else (none)) else (none)) else (some x3)
def galoisref22_Identity.f (k:Nat) (a0:Int):Option (List Int):=if 0≤a0 then (if (a0:Int).toNat≤35184372088832 then (galoisref22_Identity.l0 k a0 (List.replicate (a0:Int).toNat 0) 0) else (none)) else (none)
set_option maxHeartbeats 8000000 in
set_option maxRecDepth 100000 in
theorem galoisref22_Identity.calls (k:Nat) (a0:Int) (r:List Int) (w:World) (h:galoisref22_Identity.f k a0=some r) :
    Calls Tryz.prog 75 #[.int .i64 a0] w fun e w'=>∃ v0_:Value,e=.returned (v0_)∧Kd.R (Kd.int .i64) 3 w' w.heap.size (fun _=>True) v0_ r∧Below w.heap.size w w':=by
 have HB:=Aside0.mk (Below.refl w.heap.size w);have H:(if 0≤a0 then (if (a0:Int).toNat≤35184372088832 then (galoisref22_Identity.l0 k a0 (List.replicate (a0:Int).toNat 0) 0) else (none)) else (none))=some r:=h;clear h;by_cases c2:0≤a0
 ·rw[if_pos c2] at H;have c2b0:=eq_true c2;have c2b1:decide (0≤a0)=true:=decide_eq_true c2;clear c2;by_cases c3:(a0:Int).toNat≤35184372088832
  ·rw[if_pos c3] at H;have c3b0:=eq_true c3;have c3b1:decide ((a0:Int).toNat≤35184372088832)=true:=decide_eq_true c3;clear c3;obtain⟨y101,hy101⟩:∃ y_:List Int,y_=(List.replicate (a0:Int).toNat 0):=⟨_,rfl⟩;(replace H:(galoisref22_Identity.l0 k a0 y101 0)=some r:=by first|(rw[hy101];with_reducible exact H)|(have H2_:=(Option.bind_some _ _).symm.trans H;rw[hy101];with_reducible exact H2_)|(have H2_:=(Option.bind_some _ _).symm.trans H;with_reducible exact H2_)|with_reducible exact H|(rw[hy101];exact H)|exact H);have Ny101:=Aside0.mk hy101;clear hy101;have H':=Aside0.mk H;clear H;go_enter Tryz.func75,Tryz.ntmps75;go_wp2_with (first|((with_reducible refine gate_dst (N:=6) rfl ?_);refine Kd.R_make (Kd.int .i64) _ 3 rfl (N:=6) rfl 99 _ _ rfl a0 rfl rfl Tryz.underlying99 (.int .i64 0) 8 info3 rfl (by decide) (by omega) 0 (ok:=fun _=>True) (okp:=fun _=>True) rfl (fun _ hk=>hk) trivial (of_decide_eq_true (by first|(with_reducible assumption)|assumption)) (Nat.le_trans (Nat.mul_le_mul_right _ (of_decide_eq_true (by first|(with_reducible assumption)|assumption):a0.toNat≤35184372088832)) (by omega)) (Below.refl _ _) (Nat.le_refl _) ?_;intro v102 w4 ho5 hb hg_ hnew_;clear hg_ hnew_;(first|rw[← Ny101.out] at ho5|(simp only[Int.reduceToNat] at ho5;rw[← Ny101.out] at ho5));have n0_:=Aside0.mk (Kd.R_lower ho5 (below_size (by repeat (first|(with_reducible first|exact HB.out|apply below_alloc|apply pw_below_drewN|apply below_drew1)|exact HB.out))));have n1_:=Aside0.mk (below_step (by repeat (first|(with_reducible first|exact HB.out|apply below_alloc|apply pw_below_drewN|apply below_drew1)|exact HB.out)) hb);clear HB;have HO103:=n0_;have HB:=n1_;clear n0_ n1_;clear hb ho5));go_loopg [4] k (fun kq v4 w'=>∃ (x3_1:List Int) (x4_1:Int),v4=.int .i64 x4_1∧Aside0 (galoisref22_Identity.l0 kq a0 x3_1 x4_1=some r)∧Aside0 (kq≤k)∧Aside0 (Kd.R (Kd.int .i64) 3 w' w.heap.size (fun _=>True) v102 x3_1)∧Aside0 (Below w.heap.size w w'))
   case atStart=>exact⟨(y101),(0),(by first|rfl|(simp;done)|(simp[*];done)),H',⟨Nat.le_refl _⟩,⟨by (with_reducible repeat (first|apply Kd.R_alloc|apply Kd.R_drewN|apply Kd.R_drew));exact HO103.out⟩,⟨by repeat (first|(with_reducible first|exact HB.out|apply below_alloc|apply pw_below_drewN|apply below_drew1)|exact HB.out)⟩⟩
   case round =>
    clear H';(try clear c2);(try clear c2b0);(try clear c2b1);(try clear p2);(try clear c3);(try clear c3b0);(try clear c3b1);obtain⟨x3_1,x4_1,rfl,HA,HK1,HO_3,HB⟩:=hrel
    cases gk with
    | zero=>exact absurd HA.out (by simp[galoisref22_Identity.l0])
    | succ k1 =>
     have H:=HA.out;clear HA;simp only[galoisref22_Identity.l0] at H;by_cases c6:x4_1 < a0
     ·rw[if_pos c6] at H;have c6b0:decide (x4_1 < a0)=true:=decide_eq_true c6;clear c6;by_cases c7:0≤x4_1
      ·rw[if_pos c7] at H;have c7b0:decide (0≤x4_1)=true:=decide_eq_true c7;clear c7;by_cases c8:x4_1 < (x3_1.length:Int)
       ·rw[if_pos c8] at H;have c8b0:decide (x4_1 < (x3_1.length:Int))=true:=decide_eq_true c8;clear c8;obtain⟨y104,hy104⟩:∃ y_:List Int,y_=(x3_1.set (x4_1:Int).toNat x4_1):=⟨_,rfl⟩;(replace H:(galoisref22_Identity.l0 k1 a0 y104 (wrap64 (x4_1 + 1)))=some r:=by first|(rw[hy104];with_reducible exact H)|(have H2_:=(Option.bind_some _ _).symm.trans H;rw[hy104];with_reducible exact H2_)|(have H2_:=(Option.bind_some _ _).symm.trans H;with_reducible exact H2_)|with_reducible exact H|(rw[hy104];exact H)|exact H);have Ny104:=Aside0.mk hy104;clear hy104;have H':=Aside0.mk H;clear H;have p9:0≤(x4_1:Int):=of_decide_eq_true (by first|(with_reducible assumption)|assumption);have q9:(x4_1:Int) < ((x3_1.length:Int):Int):=of_decide_eq_true (by first|(with_reducible assumption)|assumption);obtain⟨go9,co9,eo9,gb9,gl9,cl9,HG9⟩:=Kd.R_form HO_3.out (by omega);(first|cases eo9|(injection eo9 with ea_ en_ ec_;(first|subst ea_|(injection ea_ with ea_;subst ea_));subst ec_;clear en_));have GB9:=Aside0.mk gb9;have GG9:=Aside0.mk HG9;clear gb9 gl9 HG9;obtain⟨hx9_0,hf9_0⟩:=Kd.R_celln 0 HO_3.out (x4_1:Int) p9 q9;replace p9:=eq_true p9;replace q9:=eq_true q9;have HP10:=Kd.R_putg HO_3.out (x4_1:Int) x4_1;go_wp2_with (first|((with_reducible refine gate_store (t:=3) (p:=15) rfl ?_);refine store_event (t:=3) (p:=15) (v:=?vo_w11) (w1:=(wr.setCell ⟨go9,(x4_1:Int).toNat,none⟩ (.int .i64 x4_1))) ?hg ?ho ?hn ?hr ?_;(case ho=>rfl);(case hg=>rfl);(case hn=>rfl);(case hr=>first|(go_simp;done)|(go_simp;rfl));intro w11 hw;have hg:wr.grownBy w11 (some go9):=(by rw[hw];exact HP10.2);have hp_:Kd.R (Kd.int .i64) 3 w11 w.heap.size (fun _=>True) (.slice (some ⟨go9,0,none⟩) x3_1.length co9) y104:=(by rw[hw,Ny104.out];exact HP10.1);clear HP10;have n0_:=Aside0.mk (hp_);have n1_:=Aside0.mk ((by rw[hw];exact below_set (HB.out) GB9.out:Below w.heap.size w w11));clear HO_3;clear HB;have HO_3:=n0_;have HB:=n1_;clear n0_ n1_;clear hg hw hp_));go_roundg k1
        case measure=>have:=HK1.out;omega
        case rel=>exact⟨(y104),(wrap64 (x4_1 + 1)),(by first|rfl|(simp;done)|(simp[*];done)),H',⟨by have:=HK1.out;omega⟩,⟨by (with_reducible repeat (first|apply Kd.R_alloc|apply Kd.R_drewN|apply Kd.R_drew));exact HO_3.out⟩,⟨by repeat (first|(with_reducible first|exact HB.out|apply below_alloc|apply pw_below_drewN|apply below_drew1)|exact HB.out)⟩⟩
       ·rw[if_neg c8] at H;exact absurd H (by simp)
      ·rw[if_neg c7] at H;exact absurd H (by simp)
     ·rw[if_neg c6] at H;have c6b0:decide (x4_1 < a0)=false:=decide_eq_false c6;clear c6;obtain rfl:=Option.some.inj H;go_wp2;go_ret;exact⟨_,by first|rfl|(simp[errW_none,errW_some] <;> rfl)|(simp[*,errW_none,errW_some] <;> rfl)|(congr 2;rw[Bool.eq_iff_iff];simp;done),by (with_reducible repeat (first|apply Kd.R_alloc|apply Kd.R_drewN|apply Kd.R_drew));exact HO_3.out,by repeat (first|(with_reducible first|exact HB.out|apply below_alloc|apply pw_below_drewN|apply below_drew1)|exact HB.out)⟩
  ·rw[if_neg c3] at H;exact absurd H (by simp)
 ·rw[if_neg c2] at H;exact absurd H (by simp)
end Go.Proofs.YtjbeoidhbbjcmaaGreat.PG
namespace Go.Proofs.YtjbeoidhbbjcmaaGreat.PG
open Go.RowKit Go.Proofs.YtjbeoidhbbjcmaaGreatW.PrintWords Go.Proofs.YtjbeoidhbbjcmaaGreatW.PrintLast Go.Proofs.YtjbeoidhbbjcmaaGreatW.PrintMore
set_option linter.unusedVariables false
set_option linter.unusedSimpArgs false

def galoisref22_Same.l0:Nat→List Int→List Int→Int→Option (Bool)
  | 0,_,_,_=>none
  | k + 1,x0,x1,x5=>if x5 < (x0.length:Int) then (if 0≤x5 then (if x5 < (x1.length:Int) then (if (rd x0 x5)=(rd x1 x5) then (galoisref22_Same.l0 k x0 x1 (wrap64 (x5 + 1))) else (some false)) else (none)) else (none)) else (some true)
def galoisref22_Same.f (k:Nat) (l0:List Int) (l1:List Int):Option (Bool):=if (l0.length:Int)=(l1.length:Int) then (galoisref22_Same.l0 k l0 l1 0) else (some false)
set_option maxHeartbeats 8000000 in
set_option maxRecDepth 100000 in
theorem galoisref22_Same.calls (k:Nat) (A0:Option Addr) (c0:Nat) (l0:List Int) (A1:Option Addr) (c1:Nat) (l1:List Int) (r:Bool) (w:World) (hr0:Kd.C (Kd.int .i64) w A0 l0.length l0) (hc0:l0.length≤c0) (hr1:Kd.C (Kd.int .i64) w A1 l1.length l1) (hc1:l1.length≤c1) (h:galoisref22_Same.f k l0 l1=some r) :
    Calls Tryz.prog 174 #[.slice A0 l0.length c0,.slice A1 l1.length c1] w fun e w'=>e=.returned (.bool r)∧Drawn0 w w':=by
 have HR0:=Aside0.mk hr0;have HC0:=Aside0.mk hc0;clear hr0 hc0;have HR1:=Aside0.mk hr1;have HC1:=Aside0.mk hc1;clear hr1 hc1;have H:(if (l0.length:Int)=(l1.length:Int) then (galoisref22_Same.l0 k l0 l1 0) else (some false))=some r:=h;clear h;by_cases c3:(l0.length:Int)=(l1.length:Int)
 ·rw[if_pos c3] at H;have c3b0:((l0.length:Int)==(l1.length:Int))=true:=beq_iff_eq.mpr c3;have c3b1:((l0.length:Int) != (l1.length:Int))=false:=bne_eq_false_iff_eq.mpr c3;(have c3b2:(l0.length==l1.length)=true:=by first|simpa using c3|(simp at c3 ⊢;omega));clear c3;have H':=Aside0.mk H;clear H;go_enter Tryz.func174,Tryz.ntmps174;go_wp2;(repeat (go_quiet (fail);try go_wp2));go_loopg [5] k (fun kq v5 w'=>∃ (x5_1:Int),v5=.int .i64 x5_1∧Aside0 (galoisref22_Same.l0 kq l0 l1 x5_1=some r)∧Aside0 (kq≤k)∧Drawn0 w w')
  case atStart=>exact⟨(0),(by first|rfl|(simp;done)|(simp[*];done)),H',⟨Nat.le_refl _⟩,by repeat (first|exact Drawn0.refl _|apply Drawn0.step)⟩
  case round =>
   clear H';(try clear c1);(try clear p2);(try clear c3);(try clear c3b0);(try clear c3b1);(try clear c3b2);obtain⟨x5_1,rfl,HA,HK1,⟨m1,rfl⟩⟩:=hrel
   cases gk with
   | zero=>exact absurd HA.out (by simp[galoisref22_Same.l0])
   | succ k1 =>
    have H:=HA.out;clear HA;simp only[galoisref22_Same.l0] at H;by_cases c4:x5_1 < (l0.length:Int)
    ·rw[if_pos c4] at H;have c4b0:decide (x5_1 < (l0.length:Int))=true:=decide_eq_true c4;clear c4;by_cases c5:0≤x5_1
     ·rw[if_pos c5] at H;have c5b0:decide (0≤x5_1)=true:=decide_eq_true c5;clear c5;by_cases c6:x5_1 < (l1.length:Int)
      ·rw[if_pos c6] at H;have c6b0:decide (x5_1 < (l1.length:Int))=true:=decide_eq_true c6;clear c6;by_cases c7:(rd l0 x5_1)=(rd l1 x5_1)
       ·rw[if_pos c7] at H;have c7b0:((rd l0 x5_1)==(rd l1 x5_1))=true:=beq_iff_eq.mpr c7;have c7b1:((rd l0 x5_1) != (rd l1 x5_1))=false:=bne_eq_false_iff_eq.mpr c7;clear c7;have H':=Aside0.mk H;clear H;have p101:0≤(x5_1:Int):=of_decide_eq_true (by first|(with_reducible assumption)|assumption);have q101:x5_1 < (l0.length:Int):=of_decide_eq_true (by first|(with_reducible assumption)|assumption);obtain⟨ad101,e101,hx101_0⟩:=Kd.at_int HR0.out x5_1 p101 q101;cases e101;replace p101:=eq_true p101;replace q101:=eq_true q101;have p102:0≤(x5_1:Int):=of_decide_eq_true (by first|(with_reducible assumption)|assumption);have q102:x5_1 < (l1.length:Int):=of_decide_eq_true (by first|(with_reducible assumption)|assumption);obtain⟨ad102,e102,hx102_0⟩:=Kd.at_int HR1.out x5_1 p102 q102;cases e102;replace p102:=eq_true p102;replace q102:=eq_true q102;go_wp2;(repeat (go_quiet (fail);try go_wp2));go_roundg k1
        case measure=>have:=HK1.out;omega
        case rel=>exact⟨(wrap64 (x5_1 + 1)),(by first|rfl|(simp;done)|(simp[*];done)),H',⟨by have:=HK1.out;omega⟩,by repeat (first|exact Drawn0.refl _|apply Drawn0.step)⟩
       ·rw[if_neg c7] at H;have c7b0:((rd l0 x5_1)==(rd l1 x5_1))=false:=beq_eq_false_iff_ne.mpr c7;have c7b1:((rd l0 x5_1) != (rd l1 x5_1))=true:=bne_iff_ne.mpr c7;obtain rfl:=Option.some.inj H;have p101:0≤(x5_1:Int):=of_decide_eq_true (by first|(with_reducible assumption)|assumption);have q101:x5_1 < (l0.length:Int):=of_decide_eq_true (by first|(with_reducible assumption)|assumption);obtain⟨ad101,e101,hx101_0⟩:=Kd.at_int HR0.out x5_1 p101 q101;cases e101;replace p101:=eq_true p101;replace q101:=eq_true q101;have p102:0≤(x5_1:Int):=of_decide_eq_true (by first|(with_reducible assumption)|assumption);have q102:x5_1 < (l1.length:Int):=of_decide_eq_true (by first|(with_reducible assumption)|assumption);obtain⟨ad102,e102,hx102_0⟩:=Kd.at_int HR1.out x5_1 p102 q102;cases e102;replace p102:=eq_true p102;replace q102:=eq_true q102;go_wp2;(repeat (go_quiet (fail);try go_wp2));go_ret;exact⟨by first|rfl|(simp;done)|(simp[*];done),by repeat (first|exact Drawn0.refl _|apply Drawn0.step)⟩
      ·rw[if_neg c6] at H;exact absurd H (by simp)
     ·rw[if_neg c5] at H;exact absurd H (by simp)
    ·rw[if_neg c4] at H;have c4b0:decide (x5_1 < (l0.length:Int))=false:=decide_eq_false c4;clear c4;obtain rfl:=Option.some.inj H;go_wp2;(repeat (go_quiet (fail);try go_wp2));go_ret;exact⟨by first|rfl|(simp;done)|(simp[*];done),by repeat (first|exact Drawn0.refl _|apply Drawn0.step)⟩
 ·rw[if_neg c3] at H;have c3b0:((l0.length:Int)==(l1.length:Int))=false:=beq_eq_false_iff_ne.mpr c3;have c3b1:((l0.length:Int) != (l1.length:Int))=true:=bne_iff_ne.mpr c3;(have c3b2:(l0.length==l1.length)=false:=by first|simpa using c3|(simp at c3 ⊢;omega));obtain rfl:=Option.some.inj H;go_enter Tryz.func174,Tryz.ntmps174;go_wp2;(repeat (go_quiet (fail);try go_wp2));go_ret;exact⟨by first|rfl|(simp;done)|(simp[*];done),by repeat (first|exact Drawn0.refl _|apply Drawn0.step)⟩
end Go.Proofs.YtjbeoidhbbjcmaaGreat.PG
namespace Go.Proofs.YtjbeoidhbbjcmaaGreat.PG
open Go.RowKit Go.Proofs.YtjbeoidhbbjcmaaGreatW.PrintWords Go.Proofs.YtjbeoidhbbjcmaaGreatW.PrintLast Go.Proofs.YtjbeoidhbbjcmaaGreatW.PrintMore
set_option linter.unusedVariables false
set_option linter.unusedSimpArgs false

def galoisref23_Has.f (k:Nat) (l0:List (List Int)) (l1:List Int):Option (Bool):=(galoisref23_Place.f k l0 l1).bind fun t101=>(if t101 < (l0.length:Int) then (if 0≤t101 then ((galoisref22_Same.f k (rd_L2 l0 t101) l1).bind fun t103=>(some t103)) else (none)) else (some false))
set_option maxHeartbeats 8000000 in
set_option maxRecDepth 100000 in
theorem galoisref23_Has.calls (k:Nat) (A0:Option Addr) (c0:Nat) (l0:List (List Int)) (A1:Option Addr) (c1:Nat) (l1:List Int) (r:Bool) (w:World) (hr0:Kd.C (Kd.slice 3 (Kd.int .i64)) w A0 l0.length l0) (hc0:l0.length≤c0) (hr1:Kd.C (Kd.int .i64) w A1 l1.length l1) (hc1:l1.length≤c1) (h:galoisref23_Has.f k l0 l1=some r) :
    Calls Tryz.prog 118 #[.slice A0 l0.length c0,.slice A1 l1.length c1] w fun e w'=>e=.returned (.bool r)∧Drawn0 w w':=by
 have HR0:=Aside0.mk hr0;have HC0:=Aside0.mk hc0;clear hr0 hc0;have HR1:=Aside0.mk hr1;have HC1:=Aside0.mk hc1;clear hr1 hc1;have H:((galoisref23_Place.f k l0 l1).bind fun t101=>(if t101 < (l0.length:Int) then (if 0≤t101 then ((galoisref22_Same.f k (rd_L2 l0 t101) l1).bind fun t103=>(some t103)) else (none)) else (some false)))=some r:=h;clear h;replace H:=Option.bind_eq_some_iff.mp H;obtain⟨t101,A30,H⟩:=H;replace H:(if t101 < (l0.length:Int) then (if 0≤t101 then ((galoisref22_Same.f k (rd_L2 l0 t101) l1).bind fun t103=>(some t103)) else (none)) else (some false))=some r:=H;have A3:=Aside0.mk A30;clear A30;by_cases c4:t101 < (l0.length:Int)
 ·rw[if_pos c4] at H;have c4b0:decide (t101 < (l0.length:Int))=true:=decide_eq_true c4;clear c4;by_cases c5:0≤t101
  ·rw[if_pos c5] at H;have c5b0:decide (0≤t101)=true:=decide_eq_true c5;clear c5;replace H:=Option.bind_eq_some_iff.mp H;obtain⟨t103,A60,H⟩:=H;replace H:(some t103)=some r:=H;have A6:=Aside0.mk A60;clear A60;obtain rfl:=Option.some.inj H;go_enter Tryz.func118,Tryz.ntmps118;go_wp2_with (first|((with_reducible refine gate_callee (f:=173) rfl ?_);refine goesL_ (some 8) rfl rfl Tryz.func173 (by kernel_rfl) rfl #[.slice A0 l0.length c0,.slice A1 l1.length c1] rfl (by (try simp only[List.map_toArray,List.map_cons,List.map_nil]);first|done|rfl|(simp only[List.length_drop,List.length_take];rfl)) ?_;(with_reducible refine (galoisref23_Place.calls k _ _ l0 _ _ l1 t101 _ ?side1 ?side2 ?side3 ?side4 A3.out).mono ?_);(case side1=>repeat (first|exact HR0.out|(with_reducible refine Kd.C_alloc ?_ _)|(with_reducible refine Kd.C_drewN ?_ _)|(with_reducible refine Kd.C_drew ?_)));(case side2=>exact HC0.out);(case side3=>repeat (first|exact HR1.out|(with_reducible refine Kd.C_alloc ?_ _)|(with_reducible refine Kd.C_drewN ?_ _)|(with_reducible refine Kd.C_drew ?_)));(case side4=>exact HC1.out);rintro e w' ⟨rfl,⟨nd,rfl⟩⟩;refine⟨_,rfl,?_⟩;have p102:0≤(t101:Int):=of_decide_eq_true (by first|(with_reducible assumption)|assumption);have q102:t101 < (l0.length:Int):=of_decide_eq_true (by first|(with_reducible assumption)|assumption);obtain⟨ad102,A102_0,c102_0,e102,hx102_0,hl102_0,hi102_0⟩:=at_L2 HR0.out t101 p102 q102;cases e102;have HR102_0:=Aside0.mk hi102_0;have HC102_0:=Aside0.mk hl102_0;clear hi102_0 hl102_0;replace p102:=eq_true p102;replace q102:=eq_true q102)|(go_at_call 174;(with_reducible refine (galoisref22_Same.calls k _ _ (rd_L2 l0 t101) _ _ l1 t103 _ ?side1 ?side2 ?side3 ?side4 A6.out).mono ?_);(case side1=>repeat (first|exact HR102_0.out|(with_reducible refine Kd.C_alloc ?_ _)|(with_reducible refine Kd.C_drewN ?_ _)|(with_reducible refine Kd.C_drew ?_)));(case side2=>exact HC102_0.out);(case side3=>repeat (first|exact HR1.out|(with_reducible refine Kd.C_alloc ?_ _)|(with_reducible refine Kd.C_drewN ?_ _)|(with_reducible refine Kd.C_drew ?_)));(case side4=>exact HC1.out);rintro e w' ⟨rfl,⟨nd,rfl⟩⟩));go_ret;exact⟨by first|rfl|(simp;done)|(simp[*];done),by repeat (first|exact Drawn0.refl _|apply Drawn0.step)⟩
  ·rw[if_neg c5] at H;exact absurd H (by simp)
 ·rw[if_neg c4] at H;have c4b0:decide (t101 < (l0.length:Int))=false:=decide_eq_false c4;clear c4;obtain rfl:=Option.some.inj H;go_enter Tryz.func118,Tryz.ntmps118;go_wp2_with (first|((with_reducible refine gate_callee (f:=173) rfl ?_);refine goesL_ (some 8) rfl rfl Tryz.func173 (by kernel_rfl) rfl #[.slice A0 l0.length c0,.slice A1 l1.length c1] rfl (by (try simp only[List.map_toArray,List.map_cons,List.map_nil]);first|done|rfl|(simp only[List.length_drop,List.length_take];rfl)) ?_;(with_reducible refine (galoisref23_Place.calls k _ _ l0 _ _ l1 t101 _ ?side1 ?side2 ?side3 ?side4 A3.out).mono ?_);(case side1=>repeat (first|exact HR0.out|(with_reducible refine Kd.C_alloc ?_ _)|(with_reducible refine Kd.C_drewN ?_ _)|(with_reducible refine Kd.C_drew ?_)));(case side2=>exact HC0.out);(case side3=>repeat (first|exact HR1.out|(with_reducible refine Kd.C_alloc ?_ _)|(with_reducible refine Kd.C_drewN ?_ _)|(with_reducible refine Kd.C_drew ?_)));(case side4=>exact HC1.out);rintro e w' ⟨rfl,⟨nd,rfl⟩⟩;refine⟨_,rfl,?_⟩));go_ret;exact⟨by first|rfl|(simp;done)|(simp[*];done),by repeat (first|exact Drawn0.refl _|apply Drawn0.step)⟩
end Go.Proofs.YtjbeoidhbbjcmaaGreat.PG
namespace Go.Proofs.YtjbeoidhbbjcmaaGreat.PG
open Go.RowKit Go.Proofs.YtjbeoidhbbjcmaaGreatW.PrintWords Go.Proofs.YtjbeoidhbbjcmaaGreatW.PrintLast Go.Proofs.YtjbeoidhbbjcmaaGreatW.PrintMore
set_option linter.unusedVariables false
set_option linter.unusedSimpArgs false

def galoisref22_Mul.l0:Nat→List Int→List Int→List Int→Int→Option (List Int)
  | 0,_,_,_,_=>none
  | k + 1,x0,x1,x5,x6=>if x6 < (x0.length:Int) then (if 0≤x6 then (if 0≤(rd x0 x6) then (if (rd x0 x6) < (x1.length:Int) then (if x6 < (x5.length:Int) then (galoisref22_Mul.l0 k x0 x1 (x5.set (x6:Int).toNat (rd x1 (rd x0 x6))) (wrap64 (x6 + 1))) else (none)) else (none)) else (none)) else (none)) else (some x5)
def galoisref22_Mul.f (k:Nat) (l0:List Int) (l1:List Int):Option (List Int):=if 0≤(l0.length:Int) then (if ((l0.length:Int):Int).toNat≤35184372088832 then (galoisref22_Mul.l0 k l0 l1 (List.replicate ((l0.length:Int):Int).toNat 0) 0) else (none)) else (none)
set_option maxHeartbeats 8000000 in
set_option maxRecDepth 100000 in
theorem galoisref22_Mul.calls (k:Nat) (A0:Option Addr) (c0:Nat) (l0:List Int) (A1:Option Addr) (c1:Nat) (l1:List Int) (r:List Int) (w:World) (hr0:Kd.C (Kd.int .i64) w A0 l0.length l0) (hc0:l0.length≤c0) (hr1:Kd.C (Kd.int .i64) w A1 l1.length l1) (hc1:l1.length≤c1) (h:galoisref22_Mul.f k l0 l1=some r) :
    Calls Tryz.prog 171 #[.slice A0 l0.length c0,.slice A1 l1.length c1] w fun e w'=>∃ v0_:Value,e=.returned (v0_)∧Kd.R (Kd.int .i64) 3 w' w.heap.size (fun _=>True) v0_ r∧Below w.heap.size w w':=by
 have HR0:=Aside0.mk hr0;have HC0:=Aside0.mk hc0;clear hr0 hc0;have HR1:=Aside0.mk hr1;have HC1:=Aside0.mk hc1;clear hr1 hc1;have HB:=Aside0.mk (Below.refl w.heap.size w);have H:(if 0≤(l0.length:Int) then (if ((l0.length:Int):Int).toNat≤35184372088832 then (galoisref22_Mul.l0 k l0 l1 (List.replicate ((l0.length:Int):Int).toNat 0) 0) else (none)) else (none))=some r:=h;clear h;by_cases c3:0≤(l0.length:Int)
 ·rw[if_pos c3] at H;have c3b0:=eq_true c3;have c3b1:decide (0≤(l0.length:Int))=true:=decide_eq_true c3;clear c3;by_cases c4:((l0.length:Int):Int).toNat≤35184372088832
  ·rw[if_pos c4] at H;have c4b0:=eq_true c4;have c4b1:decide (((l0.length:Int):Int).toNat≤35184372088832)=true:=decide_eq_true c4;clear c4;obtain⟨y101,hy101⟩:∃ y_:List Int,y_=(List.replicate ((l0.length:Int):Int).toNat 0):=⟨_,rfl⟩;(replace H:(galoisref22_Mul.l0 k l0 l1 y101 0)=some r:=by first|(rw[hy101];with_reducible exact H)|(have H2_:=(Option.bind_some _ _).symm.trans H;rw[hy101];with_reducible exact H2_)|(have H2_:=(Option.bind_some _ _).symm.trans H;with_reducible exact H2_)|with_reducible exact H|(rw[hy101];exact H)|exact H);have Ny101:=Aside0.mk hy101;clear hy101;have H':=Aside0.mk H;clear H;go_enter Tryz.func171,Tryz.ntmps171;go_wp2_with (first|((with_reducible refine gate_dst (N:=9) rfl ?_);refine Kd.R_make (Kd.int .i64) _ 3 rfl (N:=9) rfl 99 _ _ rfl (l0.length:Int) rfl rfl Tryz.underlying99 (.int .i64 0) 8 info3 rfl (by decide) (by omega) 0 (ok:=fun _=>True) (okp:=fun _=>True) rfl (fun _ hk=>hk) trivial (of_decide_eq_true (by first|(with_reducible assumption)|assumption)) (Nat.le_trans (Nat.mul_le_mul_right _ (of_decide_eq_true (by first|(with_reducible assumption)|assumption):(l0.length:Int).toNat≤35184372088832)) (by omega)) (Below.refl _ _) (Nat.le_refl _) ?_;intro v102 w5 ho6 hb hg_ hnew_;clear hg_ hnew_;(first|rw[← Ny101.out] at ho6|(simp only[Int.reduceToNat] at ho6;rw[← Ny101.out] at ho6));have n0_:=Aside0.mk (Kd.R_lower ho6 (below_size (by repeat (first|(with_reducible first|exact HB.out|apply below_alloc|apply pw_below_drewN|apply below_drew1)|exact HB.out))));have n1_:=Aside0.mk (below_step (by repeat (first|(with_reducible first|exact HB.out|apply below_alloc|apply pw_below_drewN|apply below_drew1)|exact HB.out)) hb);clear HB;have HO103:=n0_;have HB:=n1_;clear n0_ n1_;clear hb ho6));go_loopg [6] k (fun kq v6 w'=>∃ (x5_1:List Int) (x6_1:Int),v6=.int .i64 x6_1∧Aside0 (galoisref22_Mul.l0 kq l0 l1 x5_1 x6_1=some r)∧Aside0 (kq≤k)∧Aside0 (Kd.R (Kd.int .i64) 3 w' w.heap.size (fun _=>True) v102 x5_1)∧Aside0 (Below w.heap.size w w'))
   case atStart=>exact⟨(y101),(0),(by first|rfl|(simp;done)|(simp[*];done)),H',⟨Nat.le_refl _⟩,⟨by (with_reducible repeat (first|apply Kd.R_alloc|apply Kd.R_drewN|apply Kd.R_drew));exact HO103.out⟩,⟨by repeat (first|(with_reducible first|exact HB.out|apply below_alloc|apply pw_below_drewN|apply below_drew1)|exact HB.out)⟩⟩
   case round =>
    clear H';(try clear c1);(try clear p2);(try clear c3);(try clear c3b0);(try clear c3b1);(try clear c4);(try clear c4b0);(try clear c4b1);obtain⟨x5_1,x6_1,rfl,HA,HK1,HO_5,HB⟩:=hrel
    cases gk with
    | zero=>exact absurd HA.out (by simp[galoisref22_Mul.l0])
    | succ k1 =>
     have H:=HA.out;clear HA;simp only[galoisref22_Mul.l0] at H;by_cases c7:x6_1 < (l0.length:Int)
     ·rw[if_pos c7] at H;have c7b0:decide (x6_1 < (l0.length:Int))=true:=decide_eq_true c7;clear c7;by_cases c8:0≤x6_1
      ·rw[if_pos c8] at H;have c8b0:decide (0≤x6_1)=true:=decide_eq_true c8;clear c8;by_cases c9:0≤(rd l0 x6_1)
       ·rw[if_pos c9] at H;have c9b0:decide (0≤(rd l0 x6_1))=true:=decide_eq_true c9;clear c9;by_cases c10:(rd l0 x6_1) < (l1.length:Int)
        ·rw[if_pos c10] at H;have c10b0:decide ((rd l0 x6_1) < (l1.length:Int))=true:=decide_eq_true c10;clear c10;by_cases c11:x6_1 < (x5_1.length:Int)
         ·rw[if_pos c11] at H;have c11b0:decide (x6_1 < (x5_1.length:Int))=true:=decide_eq_true c11;clear c11;obtain⟨y106,hy106⟩:∃ y_:List Int,y_=(x5_1.set (x6_1:Int).toNat (rd l1 (rd l0 x6_1))):=⟨_,rfl⟩;(replace H:(galoisref22_Mul.l0 k1 l0 l1 y106 (wrap64 (x6_1 + 1)))=some r:=by first|(rw[hy106];with_reducible exact H)|(have H2_:=(Option.bind_some _ _).symm.trans H;rw[hy106];with_reducible exact H2_)|(have H2_:=(Option.bind_some _ _).symm.trans H;with_reducible exact H2_)|with_reducible exact H|(rw[hy106];exact H)|exact H);have Ny106:=Aside0.mk hy106;clear hy106;have H':=Aside0.mk H;clear H;have p104:0≤(x6_1:Int):=of_decide_eq_true (by first|(with_reducible assumption)|assumption);have q104:x6_1 < (l0.length:Int):=of_decide_eq_true (by first|(with_reducible assumption)|assumption);obtain⟨ad104,e104,hx104_0⟩:=Kd.at_int HR0.out x6_1 p104 q104;cases e104;replace hx104_0:=(HB.out.cell (World.block_lt_of_cell? w _ hx104_0)).trans hx104_0;replace p104:=eq_true p104;replace q104:=eq_true q104;have p105:0≤((rd l0 x6_1):Int):=of_decide_eq_true (by first|(with_reducible assumption)|assumption);have q105:(rd l0 x6_1) < (l1.length:Int):=of_decide_eq_true (by first|(with_reducible assumption)|assumption);obtain⟨ad105,e105,hx105_0⟩:=Kd.at_int HR1.out (rd l0 x6_1) p105 q105;cases e105;replace hx105_0:=(HB.out.cell (World.block_lt_of_cell? w _ hx105_0)).trans hx105_0;replace p105:=eq_true p105;replace q105:=eq_true q105;have p12:0≤(x6_1:Int):=of_decide_eq_true (by first|(with_reducible assumption)|assumption);have q12:(x6_1:Int) < ((x5_1.length:Int):Int):=of_decide_eq_true (by first|(with_reducible assumption)|assumption);obtain⟨go12,co12,eo12,gb12,gl12,cl12,HG12⟩:=Kd.R_form HO_5.out (by omega);(first|cases eo12|(injection eo12 with ea_ en_ ec_;(first|subst ea_|(injection ea_ with ea_;subst ea_));subst ec_;clear en_));have GB12:=Aside0.mk gb12;have GG12:=Aside0.mk HG12;clear gb12 gl12 HG12;obtain⟨hx12_0,hf12_0⟩:=Kd.R_celln 0 HO_5.out (x6_1:Int) p12 q12;replace p12:=eq_true p12;replace q12:=eq_true q12;have HP13:=Kd.R_putg HO_5.out (x6_1:Int) (rd l1 (rd l0 x6_1));go_wp2_with (first|((with_reducible refine gate_store (t:=3) (p:=25) rfl ?_);refine store_event (t:=3) (p:=25) (v:=?vo_w14) (w1:=(wr.setCell ⟨go12,(x6_1:Int).toNat,none⟩ (.int .i64 (rd l1 (rd l0 x6_1))))) ?hg ?ho ?hn ?hr ?_;(case ho=>rfl);(case hg=>rfl);(case hn=>rfl);(case hr=>first|(go_simp;done)|(go_simp;rfl));intro w14 hw;have hg:wr.grownBy w14 (some go12):=(by rw[hw];exact HP13.2);have hp_:Kd.R (Kd.int .i64) 3 w14 w.heap.size (fun _=>True) (.slice (some ⟨go12,0,none⟩) x5_1.length co12) y106:=(by rw[hw,Ny106.out];exact HP13.1);clear HP13;have n0_:=Aside0.mk (hp_);have n1_:=Aside0.mk ((by rw[hw];exact below_set (HB.out) GB12.out:Below w.heap.size w w14));clear HO_5;clear HB;have HO_5:=n0_;have HB:=n1_;clear n0_ n1_;clear hg hw hp_));go_roundg k1
          case measure=>have:=HK1.out;omega
          case rel=>exact⟨(y106),(wrap64 (x6_1 + 1)),(by first|rfl|(simp;done)|(simp[*];done)),H',⟨by have:=HK1.out;omega⟩,⟨by (with_reducible repeat (first|apply Kd.R_alloc|apply Kd.R_drewN|apply Kd.R_drew));exact HO_5.out⟩,⟨by repeat (first|(with_reducible first|exact HB.out|apply below_alloc|apply pw_below_drewN|apply below_drew1)|exact HB.out)⟩⟩
         ·rw[if_neg c11] at H;exact absurd H (by simp)
        ·rw[if_neg c10] at H;exact absurd H (by simp)
       ·rw[if_neg c9] at H;exact absurd H (by simp)
      ·rw[if_neg c8] at H;exact absurd H (by simp)
     ·rw[if_neg c7] at H;have c7b0:decide (x6_1 < (l0.length:Int))=false:=decide_eq_false c7;clear c7;obtain rfl:=Option.some.inj H;go_wp2;go_ret;exact⟨_,by first|rfl|(simp[errW_none,errW_some] <;> rfl)|(simp[*,errW_none,errW_some] <;> rfl)|(congr 2;rw[Bool.eq_iff_iff];simp;done),by (with_reducible repeat (first|apply Kd.R_alloc|apply Kd.R_drewN|apply Kd.R_drew));exact HO_5.out,by repeat (first|(with_reducible first|exact HB.out|apply below_alloc|apply pw_below_drewN|apply below_drew1)|exact HB.out)⟩
  ·rw[if_neg c4] at H;exact absurd H (by simp)
 ·rw[if_neg c3] at H;exact absurd H (by simp)
end Go.Proofs.YtjbeoidhbbjcmaaGreat.PG
namespace Go.Proofs.YtjbeoidhbbjcmaaGreat
open Go.RowKit
open Go.Maps (Keyed has size setOf)
/-- The letter of a key. -/
def kl (s:List UInt8):Lit:=.string s
theorem kl_inj {a b:List UInt8} (h:kl a=kl b):a=b:=by
 unfold kl at h;injection h
/-- Block b of w is a map whose keys are these (all different), each with the value true. -/
def OwnSet (P:Program) (t e:TypeId) (w:World) (b:Nat) (keys:List (List UInt8)):Prop :=
  keys.Nodup∧w.ownsMap (H:=Unit) P t (plainElem P e) b keys.length (setOf (.lit (.bool true)) (keys.map kl))
section
variable {P : Program} {m t e : TypeId} {w w1 : World} {b : Nat} {keys : List (List UInt8)}
theorem isKey_kl (s:List UInt8):WideAt.IsKeyLit (kl s):=by unfold kl;trivial
theorem keys_kl (keys:List (List UInt8)):∀ x∈keys.map kl,WideAt.IsKeyLit x:=by
 intro x hx;obtain⟨s,_,rfl⟩:=List.mem_map.1 hx;exact isKey_kl s
theorem sameKey_kl (a b:List UInt8):(kl a).sameKey (kl b)=decide (a=b):=by
 by_cases h:a=b
 ·subst h;rw[WideAt.sameKey_self (isKey_kl a)];simp
 ·rw[Maps.sameKey_ne (fun he=>h (kl_inj he))];simp[h]
theorem any_kl (keys:List (List UInt8)) (s:List UInt8):(keys.map kl).any (fun x=>x.sameKey (kl s))=decide (s∈keys):=by
 induction keys with
 | nil=>simp
 | cons k r ih =>
  simp only[List.map_cons,List.any_cons,ih,sameKey_kl];by_cases h:k=s
  ·subst h;simp
  ·(have h':¬ s=k:=fun he=>h he.symm);simp[h,h']
theorem OwnSet.lt (h:OwnSet P t e w b keys):b < w.heap.size:=h.2.lt
theorem OwnSet.kept (h:OwnSet P t e w b keys) {row:Option Nat} (hg:w.grownBy w1 row) (hne:some b≠row):OwnSet P t e w1 b keys:=⟨h.1,h.2.kept hg hne⟩
theorem OwnSet.below (h:OwnSet P t e w b keys) (hb:Below w.heap.size w w1):OwnSet P t e w1 b keys:=h.kept (row:=none) ⟨hb.os,hb.tape,hb.output,hb.size,fun i hi _=>hb.block i hi⟩ (by simp)
theorem has_keys (keys:List (List UInt8)) (s:List UInt8):has (setOf (H:=Unit) (.lit (.bool true)) (keys.map kl)) (kl s)=decide (s∈keys):=by
 rw[Maps.has_setOf _ _ _ (keys_kl keys),any_kl]
theorem at_fold (u z:DataW Unit) (k:Lit):∀ (acc:List Lit) (M:DataW Unit),Maps.IsMap M→(∀ x∈acc,WideAt.IsKeyLit x)→(M.atKey k z=u∨acc.any (fun x=>x.sameKey k)=true)→(acc.foldl (fun m x=>m.put x u) M).atKey k z=u
  | [],M,_,_,h=>by simpa using h
  | x :: r,M,hM,hk,h=>by
    simp only[List.foldl_cons]
    refine at_fold u z k r _ (hM.put x u) (fun y hy=>hk y (by simp[hy])) ?_
    by_cases hx:x=k
    · subst hx;exact .inl (Maps.atKey_put_same hM (hk x (by simp)) u z)
    · rw[Maps.atKey_put_other (fun he=>hx he.symm)]
      rcases h with h|h
      · exact .inl h
      · simp only[List.any_cons,Maps.sameKey_ne hx,Bool.false_or] at h
        exact .inr h
theorem at_keys (keys:List (List UInt8)) (s:List UInt8):(setOf (H:=Unit) (.lit (.bool true)) (keys.map kl)).atKey (kl s) (.lit (.bool false))=.lit (.bool (decide (s∈keys))):=by
 by_cases h:s∈keys
 ·rw[show decide (s∈keys)=true by simp[h]];exact at_fold _ _ _ _ _ Maps.isMap_empty (keys_kl keys) (.inr (by rw[any_kl];simp[h]))
 ·rw[show decide (s∈keys)=false by simp[h]];exact Maps.atKey_of_not_has (by rw[has_keys];simp[h]) _
theorem nodup_add:∀ (xs acc:List Lit),(∀ x∈xs,WideAt.IsKeyLit x)→(acc ++ xs).Nodup→xs.foldl Maps.addKey acc=acc ++ xs
  | [],acc,_,_=>by simp
  | x :: r,acc,hk,hn=>by
    have hx:acc.any (fun y=>y.sameKey x)=false:=by
      rw[List.any_eq_false]
      intro y hy hs
      have he:=WideAt.sameKey_eq hs
      subst he
      rw[List.nodup_append] at hn
      exact hn.2.2 y hy y (by simp) rfl
    simp only[List.foldl_cons,Maps.addKey,hx]
    have:=nodup_add r (acc ++ [x]) (fun y hy=>hk y (by simp[hy])) (by simpa using hn)
    simpa using this
theorem nodup_map_kl {keys:List (List UInt8)} (h:keys.Nodup):(keys.map kl).Nodup:=by
 rw[List.nodup_iff_pairwise_ne] at h ⊢;rw[List.pairwise_map];exact h.imp (fun hne he=>hne (kl_inj he))
theorem size_keys (h:keys.Nodup):size (setOf (H:=Unit) (.lit (.bool true)) (keys.map kl))=keys.length:=by
 rw[Maps.size_setOf _ _ (keys_kl keys),nodup_add _ [] (keys_kl keys) (by simpa using nodup_map_kl h)];simp
theorem own_look (h:OwnSet P t e w b keys) (hm:P.underlying m=some (.map t e)) (ht:P.underlying t=some .string) (he:P.underlying e=some .bool) (hz:(zeroValue e).run P w=.ok (.bool false) w) {s:ByteArray} (hs:s.size≤maxLen) :
    (Instr.lookup m (.map (some b)) (.string s) false).run P w=.ok (.bool (decide (s.data.toList∈keys))) w:=by
 obtain⟨v,ps,hrun,hv⟩:=h.2.lookup (Maps.string_keyed ht) hm hz (plainElem_bool he false) (Go.WideMaps.keyOf_string_mk ht hs);have hk:(DataW.lit (H:=Unit) (.bool (decide (s.data.toList∈keys))))=(setOf (H:=Unit) (.lit (.bool true)) (keys.map kl)).atKey (.string s.data.toList) (.lit (.bool false)):=(at_keys keys s.data.toList).symm;rw[← hk] at hv;rw[hrun];unfold plainElem at hv;rw[he] at hv;(cases v <;> simp at hv);rw[hv.1]
/-- 'known[s]' in a walk. -/
theorem wp_look {ops:Array Oper} {rest:List Oper} {o:Oper} {a:Act} {Q:Exit→Act→World→Prop} (hg:o.guard=none) (x y:Operand) (m:TypeId) (hop:o.op=Op.lookup m x y false)
    (t e:TypeId) (hm:P.underlying m=some (.map t e)) (ht:P.underlying t=some .string) (he:P.underlying e=some .bool) (hz:(zeroValue e).run P w=.ok (.bool false) w) (b:Nat) (keys:List (List UInt8)) (s:ByteArray)
    (hx:a.eval x=.map (some b)) (hown:OwnSet P t e w b keys) (hy:a.eval y=.string s) (hs:s.size≤maxLen)
    (hK:wpList P ops Q rest (a.put o.dst (.bool (decide (s.data.toList∈keys)))) w):wpList P ops Q (o :: rest) a w:=by
 (refine wpList_plain hg fun K' hK'=>?_);have hrun:=own_look hown hm ht he hz hs;unfold Oper.wp;simp[execOp,hop,hx,hy,hrun,Result.andThen];exact hK' _ _ hK
/-- 'known[s] = true' in a walk, where s is new. -/
theorem wp_put {ops:Array Oper} {rest:List Oper} {o:Oper} {a:Act} {Q:Exit→Act→World→Prop} (hg:o.guard=none) (x y z:Operand) (m:TypeId) (hop:o.op=Op.mapUpdate m x y z∨o.op=Op.insert m x y z)
    (t e:TypeId) (hm:P.underlying m=some (.map t e)) (ht:P.underlying t=some .string) (he:P.underlying e=some .bool) (b:Nat) (keys:List (List UInt8)) (s:ByteArray)
    (hx:a.eval x=.map (some b)) (hown:OwnSet P t e w b keys) (hy:a.eval y=.string s) (hv:a.eval z=.bool true) (hs:s.size≤maxLen) (hn:s.data.toList∉keys) (hl:keys.length < maxLen)
    (hK:∀ w',OwnSet P t e w' b (keys ++ [s.data.toList])→w.grownBy w' (some b)→wpList P ops Q rest (a.put o.dst undef) w'):wpList P ops Q (o :: rest) a w:=by
 (refine wpList_plain hg fun K' hK'=>?_);obtain⟨w',hrun,r1,r2⟩:=hown.2.update (Maps.string_keyed ht) hm hl (Go.WideMaps.keyOf_string_mk ht hs) (plainElem_bool (H:=Unit) he true)
 have hset:OwnSet P t e w' b (keys ++ [s.data.toList]):=by
  refine⟨?_,?_⟩
  ·rw[List.nodup_append];exact⟨hown.1,by simp,fun x hx y hy he=>by simp at hy;subst hy;subst he;exact hn hx⟩
  ·rw[List.map_append,List.map_cons,List.map_nil,Maps.setOf_snoc,List.length_append];exact r1
 unfold Oper.wp;(rcases hop with hop|hop)
 ·simp[execOp,hop,hx,hy,hv,hrun,Result.andThen];exact hK' _ _ (hK w' hset r2)
 ·simp[execOp,hop,hx,hy,hv,hrun,Result.andThen];exact hK' _ _ (hK w' hset r2)
/-- 'len(known)'. -/
theorem own_len (h:OwnSet P t e w b keys) (hm:P.underlying m=some (.map t e)) (ty:TypeId):(Builtin.len_ #[m] ty #[.map (some b)]).run P w=.ok (.int .i64 keys.length) w:=by
 have:=h.2.len hm ty;rw[size_keys h.1] at this;exact this
theorem OwnSet.blk (h:OwnSet P t e w b keys):∃ es k,w.heap[b]?=some (.map es k):=by
 obtain⟨es,k,hb,_⟩:=h.2;exact⟨es,k,hb⟩
theorem OwnSet.other {w1:World} {n size:Nat} {e':TypeId} {v:Value} {xs:List Value} {base:Nat} (h:OwnSet P t e w b keys) (hv:w.ownsRow base e' size v n xs) (hg:w.grownBy w1 v.ownBlock):OwnSet P t e w1 b keys:=by
 refine h.kept hg ?_;obtain⟨es,k,hb⟩:=h.blk;intro he;(rcases hv.2 with ⟨rfl,_⟩|⟨g,cap,cur,rfl,_,hh,_⟩)
 ·simp[Value.ownBlock] at he
 ·simp[Value.ownBlock] at he;subst he;rw[hb] at hh;cases hh
theorem own_new (w:World):OwnSet P t e (w.alloc (.map #[] 0)) w.heap.size []:=⟨by simp,World.ownsMap_made w P t _⟩
end
end Go.Proofs.YtjbeoidhbbjcmaaGreat
namespace Go.Proofs.YtjbeoidhbbjcmaaGreat.PG
open Go.RowKit Go.Proofs.YtjbeoidhbbjcmaaGreatW.PrintWords Go.Proofs.YtjbeoidhbbjcmaaGreatW.PrintLast Go.Proofs.YtjbeoidhbbjcmaaGreatW.PrintMore
set_option linter.unusedVariables false
set_option linter.unusedSimpArgs false

def verifier_key.l0:Nat→List Int→List Int→Int→Int→Option (ByteArray)
  | 0,_,_,_,_=>none
  | k + 1,x3,x9,x10,x11=>if x11 < x10 then (if 0≤x11 then (if x11 < (x9.length:Int) then (if x11 < (x3.length:Int) then (verifier_key.l0 k (x3.set (x11:Int).toNat ((rd x9 x11) % 256)) x9 x10 (wrap64 (x11 + 1))) else (none)) else (none)) else (none)) else (some (strOfNums x3))
def verifier_key.f (k:Nat) (l0:List Int):Option (ByteArray):=if 0≤(l0.length:Int) then (if ((l0.length:Int):Int).toNat≤281474976710656 then (verifier_key.l0 k (List.replicate ((l0.length:Int):Int).toNat 0) l0 (l0.length:Int) 0) else (none)) else (none)
set_option maxHeartbeats 8000000 in
set_option maxRecDepth 100000 in
theorem verifier_key.calls (k:Nat) (A0:Option Addr) (c0:Nat) (l0:List Int) (r:ByteArray) (w:World) (hr0:Kd.C (Kd.int .i64) w A0 l0.length l0) (hc0:l0.length≤c0) (h:verifier_key.f k l0=some r) :
    Calls Tryz.prog 380 #[.slice A0 l0.length c0] w fun e w'=>e=.returned (.string r)∧Below w.heap.size w w':=by
 have HR0:=Aside0.mk hr0;have HC0:=Aside0.mk hc0;clear hr0 hc0;have HB:=Aside0.mk (Below.refl w.heap.size w);have H:(if 0≤(l0.length:Int) then (if ((l0.length:Int):Int).toNat≤281474976710656 then (verifier_key.l0 k (List.replicate ((l0.length:Int):Int).toNat 0) l0 (l0.length:Int) 0) else (none)) else (none))=some r:=h;clear h;by_cases c2:0≤(l0.length:Int)
 ·rw[if_pos c2] at H;have c2b0:=eq_true c2;have c2b1:decide (0≤(l0.length:Int))=true:=decide_eq_true c2;clear c2;by_cases c3:((l0.length:Int):Int).toNat≤281474976710656
  ·rw[if_pos c3] at H;have c3b0:=eq_true c3;have c3b1:decide (((l0.length:Int):Int).toNat≤281474976710656)=true:=decide_eq_true c3;clear c3;obtain⟨y101,hy101⟩:∃ y_:List Int,y_=(List.replicate ((l0.length:Int):Int).toNat 0):=⟨_,rfl⟩;(replace H:(verifier_key.l0 k y101 l0 (l0.length:Int) 0)=some r:=by first|(rw[hy101];with_reducible exact H)|(have H2_:=(Option.bind_some _ _).symm.trans H;rw[hy101];with_reducible exact H2_)|(have H2_:=(Option.bind_some _ _).symm.trans H;with_reducible exact H2_)|with_reducible exact H|(rw[hy101];exact H)|exact H);have Ny101:=Aside0.mk hy101;clear hy101;have H':=Aside0.mk H;clear H;go_enter Tryz.func380,Tryz.ntmps380;go_wp2_with (first|((with_reducible refine gate_dst (N:=8) rfl ?_);refine Kd.R_make (Kd.int .u8) _ 5 rfl (N:=8) rfl 273 _ _ rfl (l0.length:Int) rfl rfl Tryz.underlying273 (.int .u8 0) 1 info5 rfl (by decide) (by omega) 0 (ok:=fun _=>True) (okp:=fun _=>True) rfl (fun _ hk=>hk) trivial (of_decide_eq_true (by first|(with_reducible assumption)|assumption)) (Nat.le_trans (Nat.mul_le_mul_right _ (of_decide_eq_true (by first|(with_reducible assumption)|assumption):(l0.length:Int).toNat≤281474976710656)) (by omega)) (Below.refl _ _) (Nat.le_refl _) ?_;intro v102 w4 ho5 hb hg_ hnew_;clear hg_ hnew_;(first|rw[← Ny101.out] at ho5|(simp only[Int.reduceToNat] at ho5;rw[← Ny101.out] at ho5));have n0_:=Aside0.mk (Kd.R_lower ho5 (below_size (by repeat (first|(with_reducible first|exact HB.out|apply below_alloc|apply pw_below_drewN|apply below_drew1)|exact HB.out))));have n1_:=Aside0.mk (below_step (by repeat (first|(with_reducible first|exact HB.out|apply below_alloc|apply pw_below_drewN|apply below_drew1)|exact HB.out)) hb);clear HB;have HO103:=n0_;have HB:=n1_;clear n0_ n1_;clear hb ho5));go_loopg [11] k (fun kq v11 w'=>∃ (x3_1:List Int) (x11_1:Int),v11=.int .i64 x11_1∧Aside0 (verifier_key.l0 kq x3_1 l0 (l0.length:Int) x11_1=some r)∧Aside0 (kq≤k)∧Aside0 (Kd.R (Kd.int .u8) 5 w' w.heap.size (fun _=>True) v102 x3_1)∧Aside0 (Below w.heap.size w w'))
   case atStart=>exact⟨(y101),(0),(by first|rfl|(simp;done)|(simp[*];done)),H',⟨Nat.le_refl _⟩,⟨by (with_reducible repeat (first|apply Kd.R_alloc|apply Kd.R_drewN|apply Kd.R_drew));exact HO103.out⟩,⟨by repeat (first|(with_reducible first|exact HB.out|apply below_alloc|apply pw_below_drewN|apply below_drew1)|exact HB.out)⟩⟩
   case round =>
    clear H';(try clear c2);(try clear c2b0);(try clear c2b1);(try clear p2);(try clear c3);(try clear c3b0);(try clear c3b1);obtain⟨x3_1,x11_1,rfl,HA,HK1,HO_3,HB⟩:=hrel
    cases gk with
    | zero=>exact absurd HA.out (by simp[verifier_key.l0])
    | succ k1 =>
     have H:=HA.out;clear HA;simp only[verifier_key.l0] at H;by_cases c6:x11_1 < (l0.length:Int)
     ·rw[if_pos c6] at H;have c6b0:decide (x11_1 < (l0.length:Int))=true:=decide_eq_true c6;clear c6;by_cases c7:0≤x11_1
      ·rw[if_pos c7] at H;have c7b0:decide (0≤x11_1)=true:=decide_eq_true c7;clear c7;by_cases c8:x11_1 < (l0.length:Int)
       ·rw[if_pos c8] at H;have c8b0:decide (x11_1 < (l0.length:Int))=true:=decide_eq_true c8;clear c8;by_cases c9:x11_1 < (x3_1.length:Int)
        ·rw[if_pos c9] at H;have c9b0:decide (x11_1 < (x3_1.length:Int))=true:=decide_eq_true c9;clear c9;obtain⟨y105,hy105⟩:∃ y_:List Int,y_=(x3_1.set (x11_1:Int).toNat ((rd l0 x11_1) % 256)):=⟨_,rfl⟩;(replace H:(verifier_key.l0 k1 y105 l0 (l0.length:Int) (wrap64 (x11_1 + 1)))=some r:=by first|(rw[hy105];with_reducible exact H)|(have H2_:=(Option.bind_some _ _).symm.trans H;rw[hy105];with_reducible exact H2_)|(have H2_:=(Option.bind_some _ _).symm.trans H;with_reducible exact H2_)|with_reducible exact H|(rw[hy105];exact H)|exact H);have Ny105:=Aside0.mk hy105;clear hy105;have H':=Aside0.mk H;clear H;have p104:0≤(x11_1:Int):=of_decide_eq_true (by first|(with_reducible assumption)|assumption);have q104:x11_1 < (l0.length:Int):=of_decide_eq_true (by first|(with_reducible assumption)|assumption);obtain⟨ad104,e104,hx104_0⟩:=Kd.at_int HR0.out x11_1 p104 q104;cases e104;replace hx104_0:=(HB.out.cell (World.block_lt_of_cell? w _ hx104_0)).trans hx104_0;replace p104:=eq_true p104;replace q104:=eq_true q104;have p10:0≤(x11_1:Int):=of_decide_eq_true (by first|(with_reducible assumption)|assumption);have q10:(x11_1:Int) < ((x3_1.length:Int):Int):=of_decide_eq_true (by first|(with_reducible assumption)|assumption);obtain⟨go10,co10,eo10,gb10,gl10,cl10,HG10⟩:=Kd.R_form HO_3.out (by omega);(first|cases eo10|(injection eo10 with ea_ en_ ec_;(first|subst ea_|(injection ea_ with ea_;subst ea_));subst ec_;clear en_));have GB10:=Aside0.mk gb10;have GG10:=Aside0.mk HG10;clear gb10 gl10 HG10;obtain⟨hx10_0,hf10_0⟩:=Kd.R_celln 0 HO_3.out (x11_1:Int) p10 q10;replace p10:=eq_true p10;replace q10:=eq_true q10;have HP11:=Kd.R_putg HO_3.out (x11_1:Int) ((rd l0 x11_1) % 256);go_wp2_with (first|((with_reducible refine gate_store (t:=5) (p:=20) rfl ?_);refine store_event (t:=5) (p:=20) (v:=?vo_w12) (w1:=(wr.setCell ⟨go10,(x11_1:Int).toNat,none⟩ (.int .u8 ((rd l0 x11_1) % 256)))) ?hg ?ho ?hn ?hr ?_;(case ho=>rfl);(case hg=>rfl);(case hn=>rfl);(case hr=>first|(go_simp;done)|(go_simp;rfl));intro w12 hw;have hg:wr.grownBy w12 (some go10):=(by rw[hw];exact HP11.2);have hp_:Kd.R (Kd.int .u8) 5 w12 w.heap.size (fun _=>True) (.slice (some ⟨go10,0,none⟩) x3_1.length co10) y105:=(by rw[hw,Ny105.out];exact HP11.1);clear HP11;have n0_:=Aside0.mk (hp_);have n1_:=Aside0.mk ((by rw[hw];exact below_set (HB.out) GB10.out:Below w.heap.size w w12));clear HO_3;clear HB;have HO_3:=n0_;have HB:=n1_;clear n0_ n1_;clear hg hw hp_));go_roundg k1
         case measure=>have:=HK1.out;omega
         case rel=>exact⟨(y105),(wrap64 (x11_1 + 1)),(by first|rfl|(simp;done)|(simp[*];done)),H',⟨by have:=HK1.out;omega⟩,⟨by (with_reducible repeat (first|apply Kd.R_alloc|apply Kd.R_drewN|apply Kd.R_drew));exact HO_3.out⟩,⟨by repeat (first|(with_reducible first|exact HB.out|apply below_alloc|apply pw_below_drewN|apply below_drew1)|exact HB.out)⟩⟩
        ·rw[if_neg c9] at H;exact absurd H (by simp)
       ·rw[if_neg c8] at H;exact absurd H (by simp)
      ·rw[if_neg c7] at H;exact absurd H (by simp)
     ·rw[if_neg c6] at H;have c6b0:decide (x11_1 < (l0.length:Int))=false:=decide_eq_false c6;clear c6;obtain rfl:=Option.some.inj H;have hcv13:=own_string (P:=Tryz.prog) Tryz.underlying273 Tryz.underlying5 Tryz.underlying9 (Kd.own_of_R HO_3.out);go_wp2;go_ret;exact⟨by first|rfl|(simp[errW_none,errW_some] <;> rfl)|(simp[*,errW_none,errW_some] <;> rfl)|(congr 2;rw[Bool.eq_iff_iff];simp;done),by repeat (first|(with_reducible first|exact HB.out|apply below_alloc|apply pw_below_drewN|apply below_drew1)|exact HB.out)⟩
  ·rw[if_neg c3] at H;exact absurd H (by simp)
 ·rw[if_neg c2] at H;exact absurd H (by simp)
end Go.Proofs.YtjbeoidhbbjcmaaGreat.PG
namespace Go.Proofs.YtjbeoidhbbjcmaaGreat.PG
open Go.RowKit Go.Proofs.YtjbeoidhbbjcmaaGreatW.PrintWords Go.Proofs.YtjbeoidhbbjcmaaGreatW.PrintLast Go.Proofs.YtjbeoidhbbjcmaaGreatW.PrintMore
set_option linter.unusedVariables false
set_option linter.unusedSimpArgs false

def verifier_times.l0:Nat→List Int→List Int→List Int→Int→Int→Option (List Int)
  | 0,_,_,_,_,_=>none
  | k + 1,x1,x5,x11,x12,x13=>if x13 < x12 then (if 0≤x13 then (if x13 < (x11.length:Int) then (if 0≤(rd x11 x13) then (if (rd x11 x13) < (x1.length:Int) then (if x13 < (x5.length:Int) then (verifier_times.l0 k x1 (x5.set (x13:Int).toNat (rd x1 (rd x11 x13))) x11 x12 (wrap64 (x13 + 1))) else (none)) else (none)) else (none)) else (none)) else (none)) else (some x5)
def verifier_times.f (k:Nat) (l0:List Int) (l1:List Int):Option (List Int):=if 0≤(l0.length:Int) then (if ((l0.length:Int):Int).toNat≤35184372088832 then (verifier_times.l0 k l1 (List.replicate ((l0.length:Int):Int).toNat 0) l0 (l0.length:Int) 0) else (none)) else (none)
set_option maxHeartbeats 8000000 in
set_option maxRecDepth 100000 in
theorem verifier_times.calls (k:Nat) (A0:Option Addr) (c0:Nat) (l0:List Int) (A1:Option Addr) (c1:Nat) (l1:List Int) (r:List Int) (w:World) (hr0:Kd.C (Kd.int .i64) w A0 l0.length l0) (hc0:l0.length≤c0) (hr1:Kd.C (Kd.int .i64) w A1 l1.length l1) (hc1:l1.length≤c1) (h:verifier_times.f k l0 l1=some r) :
    Calls Tryz.prog 381 #[.slice A0 l0.length c0,.slice A1 l1.length c1] w fun e w'=>∃ v0_:Value,e=.returned (v0_)∧Kd.R (Kd.int .i64) 3 w' w.heap.size (fun _=>True) v0_ r∧Below w.heap.size w w':=by
 have HR0:=Aside0.mk hr0;have HC0:=Aside0.mk hc0;clear hr0 hc0;have HR1:=Aside0.mk hr1;have HC1:=Aside0.mk hc1;clear hr1 hc1;have HB:=Aside0.mk (Below.refl w.heap.size w);have H:(if 0≤(l0.length:Int) then (if ((l0.length:Int):Int).toNat≤35184372088832 then (verifier_times.l0 k l1 (List.replicate ((l0.length:Int):Int).toNat 0) l0 (l0.length:Int) 0) else (none)) else (none))=some r:=h;clear h;by_cases c3:0≤(l0.length:Int)
 ·rw[if_pos c3] at H;have c3b0:=eq_true c3;have c3b1:decide (0≤(l0.length:Int))=true:=decide_eq_true c3;clear c3;by_cases c4:((l0.length:Int):Int).toNat≤35184372088832
  ·rw[if_pos c4] at H;have c4b0:=eq_true c4;have c4b1:decide (((l0.length:Int):Int).toNat≤35184372088832)=true:=decide_eq_true c4;clear c4;obtain⟨y101,hy101⟩:∃ y_:List Int,y_=(List.replicate ((l0.length:Int):Int).toNat 0):=⟨_,rfl⟩;(replace H:(verifier_times.l0 k l1 y101 l0 (l0.length:Int) 0)=some r:=by first|(rw[hy101];with_reducible exact H)|(have H2_:=(Option.bind_some _ _).symm.trans H;rw[hy101];with_reducible exact H2_)|(have H2_:=(Option.bind_some _ _).symm.trans H;with_reducible exact H2_)|with_reducible exact H|(rw[hy101];exact H)|exact H);have Ny101:=Aside0.mk hy101;clear hy101;have H':=Aside0.mk H;clear H;go_enter Tryz.func381,Tryz.ntmps381;go_wp2_with (first|((with_reducible refine gate_dst (N:=10) rfl ?_);refine Kd.R_make (Kd.int .i64) _ 3 rfl (N:=10) rfl 99 _ _ rfl (l0.length:Int) rfl rfl Tryz.underlying99 (.int .i64 0) 8 info3 rfl (by decide) (by omega) 0 (ok:=fun _=>True) (okp:=fun _=>True) rfl (fun _ hk=>hk) trivial (of_decide_eq_true (by first|(with_reducible assumption)|assumption)) (Nat.le_trans (Nat.mul_le_mul_right _ (of_decide_eq_true (by first|(with_reducible assumption)|assumption):(l0.length:Int).toNat≤35184372088832)) (by omega)) (Below.refl _ _) (Nat.le_refl _) ?_;intro v102 w5 ho6 hb hg_ hnew_;clear hg_ hnew_;(first|rw[← Ny101.out] at ho6|(simp only[Int.reduceToNat] at ho6;rw[← Ny101.out] at ho6));have n0_:=Aside0.mk (Kd.R_lower ho6 (below_size (by repeat (first|(with_reducible first|exact HB.out|apply below_alloc|apply pw_below_drewN|apply below_drew1)|exact HB.out))));have n1_:=Aside0.mk (below_step (by repeat (first|(with_reducible first|exact HB.out|apply below_alloc|apply pw_below_drewN|apply below_drew1)|exact HB.out)) hb);clear HB;have HO103:=n0_;have HB:=n1_;clear n0_ n1_;clear hb ho6));go_loopg [13] k (fun kq v13 w'=>∃ (x5_1:List Int) (x13_1:Int),v13=.int .i64 x13_1∧Aside0 (verifier_times.l0 kq l1 x5_1 l0 (l0.length:Int) x13_1=some r)∧Aside0 (kq≤k)∧Aside0 (Kd.R (Kd.int .i64) 3 w' w.heap.size (fun _=>True) v102 x5_1)∧Aside0 (Below w.heap.size w w'))
   case atStart=>exact⟨(y101),(0),(by first|rfl|(simp;done)|(simp[*];done)),H',⟨Nat.le_refl _⟩,⟨by (with_reducible repeat (first|apply Kd.R_alloc|apply Kd.R_drewN|apply Kd.R_drew));exact HO103.out⟩,⟨by repeat (first|(with_reducible first|exact HB.out|apply below_alloc|apply pw_below_drewN|apply below_drew1)|exact HB.out)⟩⟩
   case round =>
    clear H';(try clear c1);(try clear p2);(try clear c3);(try clear c3b0);(try clear c3b1);(try clear c4);(try clear c4b0);(try clear c4b1);obtain⟨x5_1,x13_1,rfl,HA,HK1,HO_5,HB⟩:=hrel
    cases gk with
    | zero=>exact absurd HA.out (by simp[verifier_times.l0])
    | succ k1 =>
     have H:=HA.out;clear HA;simp only[verifier_times.l0] at H;by_cases c7:x13_1 < (l0.length:Int)
     ·rw[if_pos c7] at H;have c7b0:decide (x13_1 < (l0.length:Int))=true:=decide_eq_true c7;clear c7;by_cases c8:0≤x13_1
      ·rw[if_pos c8] at H;have c8b0:decide (0≤x13_1)=true:=decide_eq_true c8;clear c8;by_cases c9:x13_1 < (l0.length:Int)
       ·rw[if_pos c9] at H;have c9b0:decide (x13_1 < (l0.length:Int))=true:=decide_eq_true c9;clear c9;by_cases c10:0≤(rd l0 x13_1)
        ·rw[if_pos c10] at H;have c10b0:decide (0≤(rd l0 x13_1))=true:=decide_eq_true c10;clear c10;by_cases c11:(rd l0 x13_1) < (l1.length:Int)
         ·rw[if_pos c11] at H;have c11b0:decide ((rd l0 x13_1) < (l1.length:Int))=true:=decide_eq_true c11;clear c11;by_cases c12:x13_1 < (x5_1.length:Int)
          ·rw[if_pos c12] at H;have c12b0:decide (x13_1 < (x5_1.length:Int))=true:=decide_eq_true c12;clear c12;obtain⟨y106,hy106⟩:∃ y_:List Int,y_=(x5_1.set (x13_1:Int).toNat (rd l1 (rd l0 x13_1))):=⟨_,rfl⟩;(replace H:(verifier_times.l0 k1 l1 y106 l0 (l0.length:Int) (wrap64 (x13_1 + 1)))=some r:=by first|(rw[hy106];with_reducible exact H)|(have H2_:=(Option.bind_some _ _).symm.trans H;rw[hy106];with_reducible exact H2_)|(have H2_:=(Option.bind_some _ _).symm.trans H;with_reducible exact H2_)|with_reducible exact H|(rw[hy106];exact H)|exact H);have Ny106:=Aside0.mk hy106;clear hy106;have H':=Aside0.mk H;clear H;have p104:0≤(x13_1:Int):=of_decide_eq_true (by first|(with_reducible assumption)|assumption);have q104:x13_1 < (l0.length:Int):=of_decide_eq_true (by first|(with_reducible assumption)|assumption);obtain⟨ad104,e104,hx104_0⟩:=Kd.at_int HR0.out x13_1 p104 q104;cases e104;replace hx104_0:=(HB.out.cell (World.block_lt_of_cell? w _ hx104_0)).trans hx104_0;replace p104:=eq_true p104;replace q104:=eq_true q104;have p105:0≤((rd l0 x13_1):Int):=of_decide_eq_true (by first|(with_reducible assumption)|assumption);have q105:(rd l0 x13_1) < (l1.length:Int):=of_decide_eq_true (by first|(with_reducible assumption)|assumption);obtain⟨ad105,e105,hx105_0⟩:=Kd.at_int HR1.out (rd l0 x13_1) p105 q105;cases e105;replace hx105_0:=(HB.out.cell (World.block_lt_of_cell? w _ hx105_0)).trans hx105_0;replace p105:=eq_true p105;replace q105:=eq_true q105;have p13:0≤(x13_1:Int):=of_decide_eq_true (by first|(with_reducible assumption)|assumption);have q13:(x13_1:Int) < ((x5_1.length:Int):Int):=of_decide_eq_true (by first|(with_reducible assumption)|assumption);obtain⟨go13,co13,eo13,gb13,gl13,cl13,HG13⟩:=Kd.R_form HO_5.out (by omega);(first|cases eo13|(injection eo13 with ea_ en_ ec_;(first|subst ea_|(injection ea_ with ea_;subst ea_));subst ec_;clear en_));have GB13:=Aside0.mk gb13;have GG13:=Aside0.mk HG13;clear gb13 gl13 HG13;obtain⟨hx13_0,hf13_0⟩:=Kd.R_celln 0 HO_5.out (x13_1:Int) p13 q13;replace p13:=eq_true p13;replace q13:=eq_true q13;have HP14:=Kd.R_putg HO_5.out (x13_1:Int) (rd l1 (rd l0 x13_1));go_wp2_with (first|((with_reducible refine gate_store (t:=3) (p:=24) rfl ?_);refine store_event (t:=3) (p:=24) (v:=?vo_w15) (w1:=(wr.setCell ⟨go13,(x13_1:Int).toNat,none⟩ (.int .i64 (rd l1 (rd l0 x13_1))))) ?hg ?ho ?hn ?hr ?_;(case ho=>rfl);(case hg=>rfl);(case hn=>rfl);(case hr=>first|(go_simp;done)|(go_simp;rfl));intro w15 hw;have hg:wr.grownBy w15 (some go13):=(by rw[hw];exact HP14.2);have hp_:Kd.R (Kd.int .i64) 3 w15 w.heap.size (fun _=>True) (.slice (some ⟨go13,0,none⟩) x5_1.length co13) y106:=(by rw[hw,Ny106.out];exact HP14.1);clear HP14;have n0_:=Aside0.mk (hp_);have n1_:=Aside0.mk ((by rw[hw];exact below_set (HB.out) GB13.out:Below w.heap.size w w15));clear HO_5;clear HB;have HO_5:=n0_;have HB:=n1_;clear n0_ n1_;clear hg hw hp_));go_roundg k1
           case measure=>have:=HK1.out;omega
           case rel=>exact⟨(y106),(wrap64 (x13_1 + 1)),(by first|rfl|(simp;done)|(simp[*];done)),H',⟨by have:=HK1.out;omega⟩,⟨by (with_reducible repeat (first|apply Kd.R_alloc|apply Kd.R_drewN|apply Kd.R_drew));exact HO_5.out⟩,⟨by repeat (first|(with_reducible first|exact HB.out|apply below_alloc|apply pw_below_drewN|apply below_drew1)|exact HB.out)⟩⟩
          ·rw[if_neg c12] at H;exact absurd H (by simp)
         ·rw[if_neg c11] at H;exact absurd H (by simp)
        ·rw[if_neg c10] at H;exact absurd H (by simp)
       ·rw[if_neg c9] at H;exact absurd H (by simp)
      ·rw[if_neg c8] at H;exact absurd H (by simp)
     ·rw[if_neg c7] at H;have c7b0:decide (x13_1 < (l0.length:Int))=false:=decide_eq_false c7;clear c7;obtain rfl:=Option.some.inj H;go_wp2;go_ret;exact⟨_,by first|rfl|(simp[errW_none,errW_some] <;> rfl)|(simp[*,errW_none,errW_some] <;> rfl)|(congr 2;rw[Bool.eq_iff_iff];simp;done),by (with_reducible repeat (first|apply Kd.R_alloc|apply Kd.R_drewN|apply Kd.R_drew));exact HO_5.out,by repeat (first|(with_reducible first|exact HB.out|apply below_alloc|apply pw_below_drewN|apply below_drew1)|exact HB.out)⟩
  ·rw[if_neg c4] at H;exact absurd H (by simp)
 ·rw[if_neg c3] at H;exact absurd H (by simp)
end Go.Proofs.YtjbeoidhbbjcmaaGreat.PG
namespace Go.Proofs.YtjbeoidhbbjcmaaGreat.PG
open Go.RowKit Go.Proofs.YtjbeoidhbbjcmaaGreatW.PrintWords Go.Proofs.YtjbeoidhbbjcmaaGreatW.PrintLast Go.Proofs.YtjbeoidhbbjcmaaGreatW.PrintMore
open Go.Proofs.YtjbeoidhbbjcmaaGreatW.PrintWords.Aside0 renaming mk → aM
abbrev Ks:=List (List UInt8)
def mput (m:Ks) (s:ByteArray):Option Ks:=if s.size≤maxLen∧s.data.toList∉m∧m.length < maxLen then some (m ++ [s.data.toList]) else none
def mlook (m:Ks) (s:ByteArray):Option Bool:=if s.size≤maxLen then some (decide (s.data.toList∈m)) else none
mutual
def verifier_of.l0:Nat→List Int→Int→Int→List (List Int)→Option (Option Ks)
  | 0,_,_,_,_=>none
  | k + 1,x4,x16,x17,gens=>if x17 < x16 then (if 0≤x17 then (if x17 < (x4.length:Int) then (verifier_of.l0 k (x4.set x17.toNat x17) x16 (wrap64 (x17 + 1)) gens) else none) else none) else ((verifier_key.f k x4).bind fun t=>(mput [] t).bind fun m=>verifier_of.l1 k m [x4] gens)
def verifier_of.l1:Nat→Ks→List (List Int)→List (List Int)→Option (Option Ks)
  | 0,_,_,_=>none
  | k + 1,m,l,gens=>if 0 < l.length then verifier_of.l2 k m (l.take (l.length - 1)) (l.getD (l.length - 1) []) 0 gens else some (some m)
def verifier_of.l2:Nat→Ks→List (List Int)→List Int→Int→List (List Int)→Option (Option Ks)
  | 0,_,_,_,_,_=>none
  | k + 1,m,l,p,i,gens=>if i < (gens.length:Int) then (if 0≤i then ((verifier_times.f k p (gens.getD i.toNat [])).bind fun y=>(verifier_key.f k y).bind fun s=>(mlook m s).bind fun b =>
      if b=true then verifier_of.l2 k m l p (wrap64 (i + 1)) gens else (mput m s).bind fun m'=>if 5040 < m'.length then some none else (if l.length < 5864062014805 then verifier_of.l2 k m' (l ++ [y]) p (wrap64 (i + 1)) gens else none)) else none) else verifier_of.l1 k m l gens
end
def verifier_of.f (k:Nat) (a0_0:Int) (l0_1:List (List Int)):Option (Option Ks):=if 0≤a0_0 then (if a0_0.toNat≤35184372088832 then verifier_of.l0 k (List.replicate a0_0.toNat 0) ((List.replicate a0_0.toNat (0:Int)).length:Int) 0 l0_1 else none) else none
/-- What the call hands back. -/
def OfRes (w':World) (base:Nat):Option Ks→Value→Prop
  | none,v=>v=.tuple #[.map none,.bool false]
  | some m,v=>∃ b,v=.tuple #[.map (some b),.bool true]∧base≤b∧OwnSet Tryz.prog 9 4 w' b m
theorem look_of {m:Ks} {s:ByteArray} {b:Bool} (h:mlook m s=some b):s.size≤maxLen∧b=decide (s.data.toList∈m):=by
 unfold mlook at h;split at h
 ·rename_i h0;injection h with h;exact⟨h0,h.symm⟩
 ·cases h
theorem put_of {m m':Ks} {s:ByteArray} (h:mput m s=some m'):s.size≤maxLen∧s.data.toList∉m∧m.length < maxLen∧m'=m ++ [s.data.toList]:=by
 unfold mput at h;split at h
 ·rename_i h0;injection h with h;exact⟨h0.1,h0.2.1,h0.2.2,h.symm⟩
 ·cases h
theorem hm357:Tryz.prog.underlying 357=some (.map 9 4):=by kernel_rfl
theorem ht9:Tryz.prog.underlying 9=some .string:=by kernel_rfl
theorem he4:Tryz.prog.underlying 4=some .bool:=by kernel_rfl
theorem hz4 (w:World):(zeroValue 4).run Tryz.prog w=.ok (.bool false) w:=by kernel_rfl
theorem at_perm {w:World} {A:Option Addr} {n:Nat} {xs:List (List Int)} (h:Kd.C (Kd.slice 3 (Kd.int .i64)) w A n xs) (i:Nat) (h1:i < n):∃ ad A0 c0,A=some ad∧w.cell? (ad.add i)=some (.slice A0 (xs.getD i []).length c0)∧(xs.getD i []).length≤c0∧(Kd.int .i64).C w A0 (xs.getD i []).length (xs.getD i []):=by
 obtain⟨ad,c,e,_,hK,hc0⟩:=Kd.C_get h ([]:List Int) (i:Int) (by omega) (by omega);have hc:∀ j u,c[j]?=some u→w.cell? (ad.add (i * 1 + j))=some u:=hc0;obtain⟨A0,c0,rfl,l0,g0⟩:=hK;exact⟨ad,A0,c0,e,by have hq:=hc 0 _ rfl;rwa [Nat.mul_one,Nat.add_zero] at hq,l0,g0⟩
set_option maxHeartbeats 4000000 in
set_option maxRecDepth 100000 in
theorem verifier_of.calls (k:Nat) (a0_0:Int) (A0_1:Option Addr) (c0_1:Nat) (l0_1:List (List Int)) (r:Option Ks) (w:World) (hr0_1:Kd.C (Kd.slice 3 (Kd.int .i64)) w A0_1 l0_1.length l0_1) (hc0_1:l0_1.length≤c0_1) (h:verifier_of.f k a0_0 l0_1=some r) :
    Calls Tryz.prog 379 #[.agg #[.int .i64 a0_0,.slice A0_1 l0_1.length c0_1]] w fun e w'=>∃ v,e=.returned v∧OfRes w' w.heap.size r v∧Below w.heap.size w w':=by
 have hu81:=Tryz.underlying81;have HR:=aM hr0_1;have HC:=aM hc0_1;clear hr0_1 hc0_1;have HB:=aM (Below.refl w.heap.size w);unfold verifier_of.f at h;by_cases c2:0≤a0_0
 ·rw[if_pos c2] at h;by_cases c3:a0_0.toNat≤35184372088832
  ·rw[if_pos c3] at h;obtain⟨y,hy⟩:∃ y_:List Int,y_=List.replicate a0_0.toNat 0:=⟨_,rfl⟩;rw[← hy] at h;have NY:=aM hy;have H:=aM h;clear h hy;have hmm:=@run_makeMap Tryz.prog;go_enter Tryz.func379,Tryz.ntmps379;go_wp2_with (first|((with_reducible refine gate_dst (N:=1) rfl ?_);refine box_event ?hg (N:=1) ?hd (cs:=#[.int .i64 a0_0,.slice A0_1 l0_1.length c0_1]) (t:=81) ?hr ?_;(case hd=>rfl);(case hg=>rfl);(case hr=>first|(go_simp;done)|(go_simp;rfl));intro gb hgb w5 hbox hb;have BK:=aM hbox;have GB:=aM (show w.heap.size≤gb by rw[hgb];exact Nat.le_refl _);clear hgb hbox;replace HB:=aM (below_step HB.out hb);have hcz0:w5.cell? ⟨gb,0,none⟩=some (.int .i64 a0_0):=(blk_cell BK.out 0).trans rfl;clear hb)|((with_reducible refine gate_dst (N:=14) rfl ?_);refine Kd.R_make (Kd.int .i64) _ 3 rfl (N:=14) rfl 99 _ _ rfl a0_0 rfl rfl Tryz.underlying99 (.int .i64 0) 8 info3 rfl (by decide) (by omega) 0 (ok:=fun _=>True) (okp:=fun _=>True) rfl (fun _ hk=>hk) trivial c2 (Nat.le_trans (Nat.mul_le_mul_right _ c3) (by omega)) (Below.refl _ _) (Nat.le_refl _) ?_;intro v103 w6 ho7 hb hg_ hnew_;clear hg_ hnew_ hcz0;rw[← NY.out] at ho7;have HO:=aM (Kd.R_lower ho7 HB.out.size);replace BK:=aM (blk_below BK.out hb);replace HB:=aM (below_step HB.out hb);clear hb ho7;obtain⟨Ao,co,eo⟩:=Kd.R_slice HO.out;subst eo));go_loopg [17] k (fun kq v17 w'=>∃ (x4:List Int) (x17:Int),v17=.int .i64 x17∧Aside0 (verifier_of.l0 kq x4 (y.length:Int) x17 l0_1=some r)∧Aside0 (kq≤k)∧Aside0 (Kd.R (Kd.int .i64) 3 w' w.heap.size (fun _=>True) (.slice Ao y.length co) x4)∧Aside0 (w'.heap[gb]?=some (.cells #[.int .i64 a0_0,(.slice A0_1 l0_1.length c0_1)] 81 (0,0)))∧Aside0 (Below w.heap.size w w'))
   case atStart=>exact⟨y,0,rfl,H,⟨Nat.le_refl _⟩,HO,BK,HB⟩
   case round =>
    clear H HO BK HB c2 c3;obtain⟨x4,x17,rfl,HA,HK1,HO,BK,HB⟩:=hrel;have hl4:=(Kd.R_reads' HO.out).1;rw[hl4] at HO;simp only[hl4] at HA;(try simp only[hl4])
    cases gk with
    | zero=>exact absurd HA.out (by simp[verifier_of.l0])
    | succ k1 =>
     have H:=HA.out;clear HA;simp only[verifier_of.l0] at H;by_cases c9:x17 < (x4.length:Int)
     ·rw[if_pos c9] at H;by_cases c10:0≤x17
      ·rw[if_pos c10,if_pos c9] at H;have H':=aM H;clear H;obtain⟨go,co,eo,gb12,gl12,cl12,HG12⟩:=Kd.R_form HO.out (by omega);(first|cases eo|(injection eo with ea_ en_ ec_;(first|subst ea_|(injection ea_ with ea_;subst ea_));subst ec_;clear en_));have GB12:=aM gb12;clear gb12 gl12 HG12;obtain⟨hx12,hf12⟩:=Kd.R_celln 0 HO.out x17 c10 c9;have HP13:=Kd.R_putg HO.out x17 x17;have d9:decide (x17 < (x4.length:Int))=true:=decide_eq_true c9;have d10:decide (0≤x17)=true:=decide_eq_true c10;go_wp2_with (first|((with_reducible refine gate_store (t:=3) (p:=23) rfl ?_);refine store_event (t:=3) (p:=23) (v:=?vo_) (w1:=(wr.setCell ⟨go,x17.toNat,none⟩ (.int .i64 x17))) ?hg ?ho ?hn ?hr ?_;(case ho=>rfl);(case hg=>rfl);(case hn=>rfl);(case hr=>first|(go_simp;done)|(go_simp;rfl));intro w14 hw;have hg:wr.grownBy w14 (some go):=(by rw[hw];exact HP13.2);have hp_:Kd.R (Kd.int .i64) 3 w14 w.heap.size (fun _=>True) (.slice (some ⟨go,0,none⟩) x4.length co) (x4.set x17.toNat x17):=(by rw[hw];exact HP13.1);clear HP13;replace BK:=aM (blk_grown BK.out hg (Kd.R_ne HO.out BK.out (by decide)));replace HO:=aM hp_;replace HB:=aM (by rw[hw];exact below_set HB.out GB12.out:Below w.heap.size w w14);clear hg hw hp_));(try simp only[← hl4]);go_roundg k1
       case measure=>have:=HK1.out;omega
       case rel=>exact⟨_,_,rfl,⟨by rw[hl4];exact H'.out⟩,⟨by have:=HK1.out;omega⟩,⟨by rw[hl4];exact HO.out⟩,BK,HB⟩
      ·rw[if_neg c10] at H;cases H
     ·rw[if_neg c9] at H;obtain⟨t,A1,H⟩:=Option.bind_eq_some_iff.mp H;obtain⟨m,A2,H⟩:=Option.bind_eq_some_iff.mp H;have HK:=aM A1;have HA2:=aM (put_of A2);have H':=aM H;clear A1 A2 H;have d9:decide (x17 < (x4.length:Int))=false:=decide_eq_false c9;go_wp2_with (first|((with_reducible refine gate_callee (f:=380) rfl ?_);refine goesL_ (some 27) rfl rfl Tryz.func380 (by kernel_rfl) rfl #[.slice Ao x4.length co] rfl (by (try simp only[List.map_toArray,List.map_cons,List.map_nil]);first|done|rfl) ?_;(with_reducible refine (verifier_key.calls k1 _ _ x4 t _ ?s1 ?s2 HK.out).mono ?_);(case s1=>refine Kd.C_alloc ?_ _;exact (Kd.R_reads' HO.out).2.2);(case s2=>exact (Kd.R_reads' HO.out).2.1);rintro e w17 ⟨rfl,hb⟩;refine⟨_,rfl,?_⟩;have HM:=aM ((own_new (P:=Tryz.prog) (t:=9) (e:=4) wr).below hb);replace HO:=aM (Kd.R_below (Kd.R_alloc HO.out _) hb);replace BK:=aM (blk_below (blk_alloc BK.out _) hb);have HMB:=aM HB.out.size;replace HB:=aM (below_step (below_alloc HB.out _) hb);clear hb)|(refine wp_put rfl _ _ _ 357 (.inr rfl) 9 4 hm357 ht9 he4 wr.heap.size [] t rfl HM.out rfl rfl HA2.out.1 (by simp) (by unfold maxLen;simp) ?_;intro w18 hm hg;obtain⟨es_,k_,hes⟩:=HM.out.blk;have HI:=aM ((IRow.of_R HO.out).other hg (ne_map (IRow.of_R HO.out) hes));replace BK:=aM (blk_grown BK.out hg (by rintro⟨⟩;have hz:=BK.out;rw[hes] at hz;cases hz));replace HB:=aM (pw_below_grown HB.out _ HB.out.size hg (fun k hk=>by injection hk with hk;rw[← hk];exact HMB.out));replace HM:=aM (by have hz:=HA2.out.2.2.2;rw[hz];exact hm:OwnSet Tryz.prog 9 4 w18 wr.heap.size m);clear hm hg hes HO));generalize wr.heap.size=bm at HM HMB ⊢;go_loopg [7] k1 (fun kq v7 w'=>∃ (m:Ks) (l:List (List Int)),Aside0 (verifier_of.l1 kq m l l0_1=some r)∧Aside0 (kq≤k1)∧Aside0 (LRow w' w.heap.size v7 l)∧Aside0 (OwnSet Tryz.prog 9 4 w' bm m)∧Aside0 (w'.heap[gb]?=some (.cells #[.int .i64 a0_0,(.slice A0_1 l0_1.length c0_1)] 81 (0,0)))∧Aside0 (Below w.heap.size w w'))
      case atStart=>exact⟨m,[x4],H',⟨Nat.le_refl _⟩,⟨LRow.single HI.out HB.out.size⟩,⟨HM.out.below (below_alloc (Below.refl _ _) _)⟩,⟨blk_alloc BK.out _⟩,⟨below_alloc HB.out _⟩⟩
      case round =>
       clear H' HI HM BK HB HA2 HK hl4 d9 c9 m;obtain⟨m,l,HA,HK2,HL,HM,BK,HB⟩:=hrel;obtain⟨A7,c7,rfl,hlc⟩:=HL.out.slice;have HLC:=aM hlc;clear hlc
       cases gk with
       | zero=>exact absurd HA.out (by simp[verifier_of.l1])
       | succ k2 =>
        have H:=HA.out;clear HA;simp only[verifier_of.l1] at H;by_cases c21:0 < l.length
        ·rw[if_pos c21] at H;obtain⟨ad,pc,eA,hcell,hip⟩:=HL.out.getA (l.length - 1) (by omega);subst eA;obtain⟨Ap,cp,rfl,hcp,_⟩:=hip.val;have HP:=aM hip;generalize hpp:l.getD (l.length - 1) []=p at H HP hcell;clear hip hcp hpp
         have hmx:l.length≤9223372036854775807:=by
          obtain⟨cells,ho⟩:=HL.out.own;(rcases ho.2 with ⟨_,h0⟩|⟨_,cap,_,_,_,_,h1,h2,_⟩)
          ·omega
          ·unfold maxLen at h2;omega
         (have hjv:wrap64 ((l.length:Int) - 1)=(l.length:Int) - 1:=by unfold wrap64;omega);obtain⟨j,hj⟩:∃ j:Int,(l.length:Int) - 1=j:=⟨_,rfl⟩;replace hjv:=hjv.trans hj;(have hjn:l.length - 1=j.toNat:=by omega);(have hj0:0≤j:=by omega);(have hj1:j < (l.length:Int):=by omega);(have hj2:j≤(l.length:Int):=by omega);obtain⟨i0,hi0,_,hsz,_⟩:=info_parts info99;have hcut:=cut_to (P:=Tryz.prog) 79 99 .i64 Tryz.underlying79 hi0 (some ad) l.length c7 j hj0 hj2 HLC.out;clear hi0 hsz;rw[hjn] at H hcell;have HL2:=aM (HL.out.take (m:=j.toNat) (by omega));(have hlen:(l.take j.toNat).length=j.toNat:=by rw[List.length_take];omega);have H':=aM H;have HLN:=aM hlen;clear H hj hjn HL hmx hlen;have hjw:IntKind.i64.wrap ((l.length:Int) - 1)=j:=(i64_w _).trans hjv;have d1:decide (0≤j)=true:=decide_eq_true hj0;have d2:decide (j < (l.length:Int))=true:=decide_eq_true hj1;have d3:decide (j≤(l.length:Int))=true:=decide_eq_true hj2;have d4:decide (0 < (l.length:Int))=true:=decide_eq_true (by omega);have d5:decide (0 < l.length)=true:=decide_eq_true c21;replace hj0:=eq_true hj0;replace hj1:=eq_true hj1;replace hj2:=eq_true hj2;have hb1:wr.cell? ⟨gb,1,none⟩=some (.slice A0_1 l0_1.length c0_1):=(blk_cell BK.out 1).trans rfl;clear c21;go_wp2;go_loopg [7,48] k2 (fun kq v7 v48 w'=>∃ (m:Ks) (l:List (List Int)) (i:Int),v48=.int .i64 i∧Aside0 (verifier_of.l2 kq m l p i l0_1=some r)∧Aside0 (kq≤k2)∧Aside0 (LRow w' w.heap.size v7 l)∧Aside0 (IRow w' w.heap.size (.slice Ap p.length cp) p)∧Aside0 (OwnSet Tryz.prog 9 4 w' bm m)∧Aside0 (w'.heap[gb]?=some (.cells #[.int .i64 a0_0,(.slice A0_1 l0_1.length c0_1)] 81 (0,0)))∧Aside0 (Below w.heap.size w w'))
         case atStart=>exact⟨m,_,0,rfl,H',⟨Nat.le_refl _⟩,HL2,HP,HM,BK,HB⟩
         case round =>
          clear H' HL2 HP HM BK HB hcell hcut HLN hjw hjv d1 d2 d3 d4 d5 hj0 hj1 hj2 hb1 HLC;obtain⟨m,l,i,rfl,HA,HK3,HL,HP,HM,BK,HB⟩:=hrel
          cases gk with
          | zero=>exact absurd HA.out (by simp[verifier_of.l2])
          | succ k3 =>
           have H:=HA.out;clear HA;simp only[verifier_of.l2] at H;by_cases c29:i < (l0_1.length:Int)
           ·rw[if_pos c29] at H;by_cases c30:0≤i
            ·rw[if_pos c30] at H;obtain⟨y,A1,H⟩:=Option.bind_eq_some_iff.mp H;obtain⟨s,A2,H⟩:=Option.bind_eq_some_iff.mp H;obtain⟨b,A3,H⟩:=Option.bind_eq_some_iff.mp H;have HT:=aM A1;have HS:=aM A2;have HLK:=aM (look_of A3);clear A1 A2 A3;obtain⟨ad2,Ag,cg,eA,hcg,hlg,hCg⟩:=at_perm (Kd.C_below HR.out HB.out) i.toNat (by omega);subst eA;have HCG:=aM hCg;have HLG:=aM hlg;generalize l0_1.getD i.toNat []=x at HT HCG HLG hcg;clear hCg hlg;have d1:decide (0≤i)=true:=decide_eq_true c30;have d2:decide (i < (l0_1.length:Int))=true:=decide_eq_true c29;replace c29:=eq_true c29;replace c30:=eq_true c30
             cases b with
             | true =>
              have H':=aM (show verifier_of.l2 k3 m l p (wrap64 (i + 1)) l0_1=some r from H);clear H;go_wp2_with (first|((with_reducible refine gate_callee (f:=381) rfl ?_);refine goesL_ (some 54) rfl rfl Tryz.func381 (by kernel_rfl) rfl #[.slice Ap p.length cp,.slice Ag x.length cg] rfl (by (try simp only[List.map_toArray,List.map_cons,List.map_nil]);first|done|rfl) ?_;(with_reducible refine (verifier_times.calls k3 _ _ p _ _ x y _ ?s1 ?s2 ?s3 ?s4 HT.out).mono ?_);(case s1=>exact HP.out.reads.2.2);(case s2=>exact HP.out.reads.2.1);(case s3=>exact HCG.out);(case s4=>exact HLG.out);rintro e w36 ⟨v1,rfl,ho0,hb⟩;refine⟨_,rfl,?_⟩;replace HL:=aM (HL.out.below hb);replace HP:=aM (HP.out.below hb);replace HM:=aM (HM.out.below hb);replace BK:=aM (blk_below BK.out hb);replace HCG:=aM (Kd.C_below HCG.out hb);have HY:=aM ((IRow.of_R ho0).lower HB.out.size);replace HB:=aM (below_step HB.out hb);clear hb ho0;obtain⟨Ay,cy,rfl,_⟩:=HY.out.val)|((with_reducible refine gate_callee (f:=380) rfl ?_);refine goesL_ (some 57) rfl rfl Tryz.func380 (by kernel_rfl) rfl #[.slice Ay y.length cy] rfl (by (try simp only[List.map_toArray,List.map_cons,List.map_nil]);first|done|rfl) ?_;(with_reducible refine (verifier_key.calls k3 _ _ y s _ ?s1 ?s2 HS.out).mono ?_);(case s1=>exact HY.out.reads.2.2);(case s2=>exact HY.out.reads.2.1);rintro e w37 ⟨rfl,hb⟩;refine⟨_,rfl,?_⟩;replace HL:=aM (HL.out.below hb);replace HP:=aM (HP.out.below hb);replace HM:=aM (HM.out.below hb);replace BK:=aM (blk_below BK.out hb);replace HCG:=aM (Kd.C_below HCG.out hb);replace HY:=aM (HY.out.below hb);replace HB:=aM (below_step HB.out hb);clear hb)|(refine wp_look rfl _ _ 357 rfl 9 4 hm357 ht9 he4 (hz4 _) bm m s rfl HM.out rfl HLK.out.1 ?_;rw[← HLK.out.2]));go_roundg k3
              case measure=>have:=HK1.out;have:=HK2.out;have:=HK3.out;omega
              case rel=>exact⟨m,l,_,rfl,H',⟨by have:=HK3.out;omega⟩,HL,HP,HM,BK,HB⟩
             | false =>
              replace H:(mput m s).bind (fun m'=>if 5040 < m'.length then some none else (if l.length < 5864062014805 then verifier_of.l2 k3 m' (l ++ [y]) p (wrap64 (i + 1)) l0_1 else none))=some r:=H;obtain⟨m2,A4,H⟩:=Option.bind_eq_some_iff.mp H;have HP2:=aM (put_of A4);clear A4;by_cases c42:5040 < m2.length
              ·rw[if_pos c42] at H;obtain rfl:=Option.some.inj H;have d3:decide (5040 < (m2.length:Int))=true:=decide_eq_true (by omega);have d4:decide (5040 < m2.length)=true:=decide_eq_true c42;go_wp2_with (first|((with_reducible refine gate_callee (f:=381) rfl ?_);refine goesL_ (some 54) rfl rfl Tryz.func381 (by kernel_rfl) rfl #[.slice Ap p.length cp,.slice Ag x.length cg] rfl (by (try simp only[List.map_toArray,List.map_cons,List.map_nil]);first|done|rfl) ?_;(with_reducible refine (verifier_times.calls k3 _ _ p _ _ x y _ ?s1 ?s2 ?s3 ?s4 HT.out).mono ?_);(case s1=>exact HP.out.reads.2.2);(case s2=>exact HP.out.reads.2.1);(case s3=>exact HCG.out);(case s4=>exact HLG.out);rintro e w36 ⟨v1,rfl,ho0,hb⟩;refine⟨_,rfl,?_⟩;replace HL:=aM (HL.out.below hb);replace HP:=aM (HP.out.below hb);replace HM:=aM (HM.out.below hb);replace BK:=aM (blk_below BK.out hb);replace HCG:=aM (Kd.C_below HCG.out hb);have HY:=aM ((IRow.of_R ho0).lower HB.out.size);replace HB:=aM (below_step HB.out hb);clear hb ho0;obtain⟨Ay,cy,rfl,_⟩:=HY.out.val)|((with_reducible refine gate_callee (f:=380) rfl ?_);refine goesL_ (some 57) rfl rfl Tryz.func380 (by kernel_rfl) rfl #[.slice Ay y.length cy] rfl (by (try simp only[List.map_toArray,List.map_cons,List.map_nil]);first|done|rfl) ?_;(with_reducible refine (verifier_key.calls k3 _ _ y s _ ?s1 ?s2 HS.out).mono ?_);(case s1=>exact HY.out.reads.2.2);(case s2=>exact HY.out.reads.2.1);rintro e w37 ⟨rfl,hb⟩;refine⟨_,rfl,?_⟩;replace HL:=aM (HL.out.below hb);replace HP:=aM (HP.out.below hb);replace HM:=aM (HM.out.below hb);replace BK:=aM (blk_below BK.out hb);replace HCG:=aM (Kd.C_below HCG.out hb);replace HY:=aM (HY.out.below hb);replace HB:=aM (below_step HB.out hb);clear hb)|(refine wp_look rfl _ _ 357 rfl 9 4 hm357 ht9 he4 (hz4 _) bm m s rfl HM.out rfl HLK.out.1 ?_;rw[← HLK.out.2])|((with_reducible refine gate_callee (f:=380) rfl ?_);refine goesL_ (some 61) rfl rfl Tryz.func380 (by kernel_rfl) rfl #[.slice Ay y.length cy] rfl (by (try simp only[List.map_toArray,List.map_cons,List.map_nil]);first|done|rfl) ?_;(with_reducible refine (verifier_key.calls k3 _ _ y s _ ?s1 ?s2 HS.out).mono ?_);(case s1=>exact HY.out.reads.2.2);(case s2=>exact HY.out.reads.2.1);rintro e w37 ⟨rfl,hb⟩;refine⟨_,rfl,?_⟩;replace HL:=aM (HL.out.below hb);replace HP:=aM (HP.out.below hb);replace HM:=aM (HM.out.below hb);replace BK:=aM (blk_below BK.out hb);replace HCG:=aM (Kd.C_below HCG.out hb);replace HY:=aM (HY.out.below hb);replace HB:=aM (below_step HB.out hb);clear hb)|(refine wp_put rfl _ _ _ 357 (.inl rfl) 9 4 hm357 ht9 he4 bm m s rfl HM.out rfl rfl HP2.out.1 HP2.out.2.1 HP2.out.2.2.1 ?_;intro w18 hm hg;obtain⟨es_,k_,hes⟩:=HM.out.blk;replace HL:=aM (HL.out.map hes hg);replace HP:=aM (HP.out.other hg (ne_map HP.out hes));replace HY:=aM (HY.out.other hg (ne_map HY.out hes));replace BK:=aM (blk_grown BK.out hg (by rintro⟨⟩;have hz:=BK.out;rw[hes] at hz;cases hz));replace HB:=aM (pw_below_grown HB.out _ HB.out.size hg (fun k hk=>by injection hk with hk;rw[← hk];exact HMB.out));replace HM:=aM (by have hz:=HP2.out.2.2.2;rw[hz];exact hm:OwnSet Tryz.prog 9 4 w18 bm m2);clear hm hg hes HCG;have hln:=own_len (m:=357) HM.out hm357 3));go_ret2;exact⟨_,rfl,rfl,HB.out⟩
              ·rw[if_neg c42] at H;have d3:decide (5040 < (m2.length:Int))=false:=decide_eq_false (by omega);have d4:decide (5040 < m2.length)=false:=decide_eq_false c42;by_cases c43:l.length < 5864062014805
               ·rw[if_pos c43] at H;have H':=aM H;have LM:=aM (show (l.length + 1) * 24≤140737488355328 by omega);clear H c43 c42;go_wp2_with (first|((with_reducible refine gate_callee (f:=381) rfl ?_);refine goesL_ (some 54) rfl rfl Tryz.func381 (by kernel_rfl) rfl #[.slice Ap p.length cp,.slice Ag x.length cg] rfl (by (try simp only[List.map_toArray,List.map_cons,List.map_nil]);first|done|rfl) ?_;(with_reducible refine (verifier_times.calls k3 _ _ p _ _ x y _ ?s1 ?s2 ?s3 ?s4 HT.out).mono ?_);(case s1=>exact HP.out.reads.2.2);(case s2=>exact HP.out.reads.2.1);(case s3=>exact HCG.out);(case s4=>exact HLG.out);rintro e w36 ⟨v1,rfl,ho0,hb⟩;refine⟨_,rfl,?_⟩;replace HL:=aM (HL.out.below hb);replace HP:=aM (HP.out.below hb);replace HM:=aM (HM.out.below hb);replace BK:=aM (blk_below BK.out hb);replace HCG:=aM (Kd.C_below HCG.out hb);have HY:=aM ((IRow.of_R ho0).lower HB.out.size);replace HB:=aM (below_step HB.out hb);clear hb ho0;obtain⟨Ay,cy,rfl,_⟩:=HY.out.val)|((with_reducible refine gate_callee (f:=380) rfl ?_);refine goesL_ (some 57) rfl rfl Tryz.func380 (by kernel_rfl) rfl #[.slice Ay y.length cy] rfl (by (try simp only[List.map_toArray,List.map_cons,List.map_nil]);first|done|rfl) ?_;(with_reducible refine (verifier_key.calls k3 _ _ y s _ ?s1 ?s2 HS.out).mono ?_);(case s1=>exact HY.out.reads.2.2);(case s2=>exact HY.out.reads.2.1);rintro e w37 ⟨rfl,hb⟩;refine⟨_,rfl,?_⟩;replace HL:=aM (HL.out.below hb);replace HP:=aM (HP.out.below hb);replace HM:=aM (HM.out.below hb);replace BK:=aM (blk_below BK.out hb);replace HCG:=aM (Kd.C_below HCG.out hb);replace HY:=aM (HY.out.below hb);replace HB:=aM (below_step HB.out hb);clear hb)|(refine wp_look rfl _ _ 357 rfl 9 4 hm357 ht9 he4 (hz4 _) bm m s rfl HM.out rfl HLK.out.1 ?_;rw[← HLK.out.2])|((with_reducible refine gate_callee (f:=380) rfl ?_);refine goesL_ (some 61) rfl rfl Tryz.func380 (by kernel_rfl) rfl #[.slice Ay y.length cy] rfl (by (try simp only[List.map_toArray,List.map_cons,List.map_nil]);first|done|rfl) ?_;(with_reducible refine (verifier_key.calls k3 _ _ y s _ ?s1 ?s2 HS.out).mono ?_);(case s1=>exact HY.out.reads.2.2);(case s2=>exact HY.out.reads.2.1);rintro e w37 ⟨rfl,hb⟩;refine⟨_,rfl,?_⟩;replace HL:=aM (HL.out.below hb);replace HP:=aM (HP.out.below hb);replace HM:=aM (HM.out.below hb);replace BK:=aM (blk_below BK.out hb);replace HCG:=aM (Kd.C_below HCG.out hb);replace HY:=aM (HY.out.below hb);replace HB:=aM (below_step HB.out hb);clear hb)|(refine wp_put rfl _ _ _ 357 (.inl rfl) 9 4 hm357 ht9 he4 bm m s rfl HM.out rfl rfl HP2.out.1 HP2.out.2.1 HP2.out.2.2.1 ?_;intro w18 hm hg;obtain⟨es_,k_,hes⟩:=HM.out.blk;replace HL:=aM (HL.out.map hes hg);replace HP:=aM (HP.out.other hg (ne_map HP.out hes));replace HY:=aM (HY.out.other hg (ne_map HY.out hes));replace BK:=aM (blk_grown BK.out hg (by rintro⟨⟩;have hz:=BK.out;rw[hes] at hz;cases hz));replace HB:=aM (pw_below_grown HB.out _ HB.out.size hg (fun k hk=>by injection hk with hk;rw[← hk];exact HMB.out));replace HM:=aM (by have hz:=HP2.out.2.2.2;rw[hz];exact hm:OwnSet Tryz.prog 9 4 w18 bm m2);clear hm hg hes HCG;have hln:=own_len (m:=357) HM.out hm357 3;obtain⟨cells,hol,hcn,hcl⟩:=HL.out.split;have HOL:=aM hol;have HCN:=aM hcn;have HCL:=aM hcl;clear hol hcn hcl)|(at_builtin;refine print_append_cells (w0:=w) w.heap.size rfl (.tmp 65) (.tmp 67) 79 99 (.slice none 0 0) 1 24 rfl Tryz.underlying79 info99 rfl (by decide) (by decide) u7 l.length cells [.slice Ay y.length cy] rfl rfl rfl (by simp[Value.oneCell']) HOL.out HB.out HB.out.size LM.out ?_;intro v1 w1 ho hb hg hat;have HL2:=aM (LRow.snoc (w1:=w1) (c:=.slice Ay y.length cy) (l:=y) (fun j l' hj=>let ⟨c,h1,h2⟩:=HCL.out j l' hj;⟨c,h1,h2.lists HOL.out hg⟩) HCN.out ho (HY.out.lists HOL.out hg));replace HP:=aM (HP.out.lists HOL.out hg);replace HM:=aM (HM.out.other HOL.out hg);replace BK:=aM (blk_grown BK.out hg (fun he=>(ne_cells HOL.out BK.out (by decide)).elim (fun h0=>by rw[h0] at he;simp at he) (fun h0=>h0 he.symm)));replace HB:=aM hb;clear HOL HCL HCN HY HL ho hb hg hat));go_roundg k3
                case measure=>have:=HK1.out;have:=HK2.out;have:=HK3.out;omega
                case rel=>exact⟨m2,_,_,rfl,H',⟨by have:=HK3.out;omega⟩,HL2,HP,HM,BK,HB⟩
               ·rw[if_neg c43] at H;cases H
            ·rw[if_neg c30] at H;cases H
           ·rw[if_neg c29] at H;have d2:decide (i < (l0_1.length:Int))=false:=decide_eq_false c29;have H':=aM H;clear H;go_wp2;go_roundg k3
            case measure=>have:=HK1.out;have:=HK2.out;have:=HK3.out;omega
            case rel=>exact⟨m,l,H',⟨by have:=HK1.out;have:=HK2.out;have:=HK3.out;omega⟩,HL,HM,BK,HB⟩
        ·rw[if_neg c21] at H;obtain rfl:=Option.some.inj H;have d4:decide (0 < (l.length:Int))=false:=decide_eq_false (by omega);have d5:decide (0 < l.length)=false:=decide_eq_false c21;go_wp2;go_ret2;exact⟨_,rfl,⟨bm,rfl,HMB.out,HM.out⟩,HB.out⟩
  ·rw[if_neg c3] at h;cases h
 ·rw[if_neg c2] at h;cases h
end Go.Proofs.YtjbeoidhbbjcmaaGreat.PG
namespace Go.Proofs.YtjbeoidhbbjcmaaGreat.PG
open Go.RowKit Go.Proofs.YtjbeoidhbbjcmaaGreatW.PrintWords Go.Proofs.YtjbeoidhbbjcmaaGreatW.PrintLast Go.Proofs.YtjbeoidhbbjcmaaGreatW.PrintMore
theorem encs_id (xs:List Value):encs (α:=Value) id xs=xs:=by unfold encs;simp
theorem cells_at {W:World} {base g n cap:Nat} {e:TypeId} {xs:List Value} (h:W.ownsRow base e 1 (.slice (some ⟨g,0,none⟩) n cap) n xs) (i:Nat) (h1:i < n) :
    W.cell? ⟨g,i,none⟩=some (xs.getD i (.bool false))∧W.frozen? ⟨g,i,none⟩=false:=by
 have:=own_at_of (enc:=id) (d:=Value.bool false) (xs:=xs) (by rw[encs_id];exact h) (i:Int) (by omega) (by omega);simpa [rdOf] using this
theorem cells_store {W:World} {base g n cap:Nat} {e:TypeId} {xs:List Value} (h:W.ownsRow base e 1 (.slice (some ⟨g,0,none⟩) n cap) n xs) (i:Nat) (u:Value) :
    (W.setCell ⟨g,i,none⟩ u).ownsRow base e 1 (.slice (some ⟨g,0,none⟩) n cap) n (xs.set i u)∧W.grownBy (W.setCell ⟨g,i,none⟩ u) (some g):=by
 have:=own_store_of (enc:=id) (xs:=xs) (by rw[encs_id];exact h) (i:Int) u;rw[encs_id] at this;simpa using this
/-- A list with a hole at i. -/
def holed (cs:List Value) (x:Value) (i:Nat):List Value:=cs.take i ++ x :: cs.drop i
theorem holed_step (cs:List Value) (x:Value) (i:Nat) (h:i < cs.length):(holed cs x (i + 1)).set (i + 1) ((holed cs x (i + 1)).getD i (.bool false))=holed cs (cs.getD i (.bool false)) i:=by
 (have e1:cs.take (i + 1)=cs.take i ++ [cs[i]]:=by rw[List.take_succ_eq_append_getElem h]);have e2:cs.drop i=cs[i] :: cs.drop (i + 1):=List.drop_eq_getElem_cons h;(have hl:(cs.take i).length=i:=by rw[List.length_take];omega);(have e3:holed cs x (i + 1)=cs.take i ++ cs[i] :: x :: cs.drop (i + 1):=by unfold holed;rw[e1,List.append_assoc];rfl)
 have e4:(cs.take i ++ cs[i] :: x :: cs.drop (i + 1)).getD i (.bool false)=cs[i]:=by
  rw[List.getD_eq_getElem?_getD,List.getElem?_append_right (by omega),hl];simp
 (have e5:cs.getD i (.bool false)=cs[i]:=by rw[List.getD_eq_getElem?_getD,List.getElem?_eq_getElem h];rfl);rw[e3,e4,e5,List.set_append_right _ _ (by omega),hl,show i + 1 - i=1 by omega];unfold holed;rw[e2];rfl
theorem holed_put (cs:List Value) (x u:Value) (i:Nat) (h:i≤cs.length):(holed cs x i).set i u=holed cs u i:=by
 (have hl:(cs.take i).length=i:=by rw[List.length_take];omega);unfold holed;rw[List.set_append_right _ _ (by omega),hl,Nat.sub_self];rfl
theorem holed_get (cs:List Value) (x:Value) (i m:Nat) (h:m < i) (hm:m < cs.length):(holed cs x i).getD m (.bool false)=cs.getD m (.bool false):=by
 unfold holed;rw[List.getD_eq_getElem?_getD,List.getD_eq_getElem?_getD,List.getElem?_append_left (by rw[List.length_take];omega),List.getElem?_take_of_lt h]
theorem grown_drewN {w w1:World} {n:Nat} {row:Option Nat} (h:(w.drewN n).grownBy w1 row):w.grownBy w1 row:=⟨h.os,h.tape,h.output,h.size,h.block⟩
theorem grown_then {w w1 w2:World} {row:Option Nat} {g:Nat} (h:w.grownBy w1 row) (h2:w1.grownBy w2 (some g)) (hg:row=some g∨w.heap.size≤g):w.grownBy w2 row :=
  ⟨h2.os.trans h.os,h2.tape.trans h.tape,h2.output.trans h.output,Nat.le_trans h.size h2.size,fun i hi hne=>(h2.block i (Nat.lt_of_lt_of_le hi h.size) (by
    rintro⟨⟩
    rcases hg with hg|hg
    · exact hne hg.symm
    · omega)).trans (h.block i hi hne)⟩
theorem sl_of {w:World} {base e n:Nat} {v:Value} {xs:List Value} (h:w.ownsRow base e 1 v (n + 1) xs):∃ g cap,v=.slice (some ⟨g,0,none⟩) (n + 1) cap∧n + 1≤cap:=by
 rcases h.2 with ⟨_,h0⟩|⟨g,cap,cur,hv,_,_,h1,_⟩
 ·omega
 ·exact⟨g,cap,hv,h1⟩
set_option maxHeartbeats 2000000 in
set_option maxRecDepth 100000 in
theorem put_calls (k:Nat) (base:Nat) (A0:Option Addr) (c0:Nat) (l0:List (List Int)) (cells:List Value) (A1:Option Addr) (c1:Nat) (l1:List Int) (j:Nat) (w:World) (hB:base≤w.heap.size)
    (ho:w.ownsRow base 99 1 (.slice A0 l0.length c0) l0.length cells) (hr0:Kd.C (Kd.slice 3 (Kd.int .i64)) w A0 l0.length l0) (hc0:l0.length≤c0) (hr1:Kd.C (Kd.int .i64) w A1 l1.length l1) (hc1:l1.length≤c1)
    (h:galoisref23_Place.f k l0 l1=some (j:Int)) (hj:j≤l0.length) (hsl:∀ i,i < l0.length→∃ A n c,cells.getD i (.bool false)=.slice A n c) (hl:l0.length < 5864062014805) :
    Calls Tryz.prog 172 #[.slice A0 l0.length c0,.slice A1 l1.length c1] w fun e w'=>∃ v,e=.returned v∧w'.ownsRow base 99 1 v (l0.length + 1) (holed cells (.slice A1 l1.length c1) j)∧w.grownBy w' (Value.slice A0 l0.length c0).ownBlock∧(v.ownBlock=(Value.slice A0 l0.length c0).ownBlock∨∃ b,v.ownBlock=some b∧w.heap.size≤b):=by
 have HO:=Aside0.mk ho;have HR0:=Aside0.mk hr0;have HR1:=Aside0.mk hr1;have HC0:=Aside0.mk hc0;have HC1:=Aside0.mk hc1;have HP:=Aside0.mk h;have HJ:=Aside0.mk hj;have HL:=Aside0.mk hl;have HSL:=Aside0.mk hsl;have HBS:=Aside0.mk hB;have HN:=Aside0.mk (show cells.length=l0.length by have:=ho.1;omega);(have hlb:(l0.length:Int)≤5864062014805:=by omega);clear ho hr0 hr1 hc0 hc1 h hj hl hB hsl;go_enter Tryz.func172,Tryz.ntmps172;go_wp2_with (first|((with_reducible refine gate_callee (f:=173) rfl ?_);refine goesL_ (some 9) rfl rfl Tryz.func173 (by kernel_rfl) rfl #[.slice A0 l0.length c0,.slice A1 l1.length c1] rfl (by (try simp only[List.map_toArray,List.map_cons,List.map_nil]);first|done|rfl) ?_;(with_reducible refine (galoisref23_Place.calls k _ _ l0 _ _ l1 _ _ ?s1 ?s2 ?s3 ?s4 HP.out).mono ?_);(case s1=>exact HR0.out);(case s2=>exact HC0.out);(case s3=>exact HR1.out);(case s4=>exact HC1.out);rintro e w' ⟨rfl,⟨nd,rfl⟩⟩;refine⟨_,rfl,?_⟩)|(at_builtin;refine print_append_cells (w0:=w.drewN nd) base rfl (.tmp 10) (.tmp 11) 79 99 (.slice none 0 0) 1 24 rfl Tryz.underlying79 info99 rfl (by decide) (by decide) (.slice A0 l0.length c0) l0.length cells [.slice none 0 0] rfl rfl rfl (by simp[Value.oneCell']) (show (w.drewN nd).ownsRow base 99 1 (.slice A0 l0.length c0) l0.length cells from HO.out) ?hB (show base≤(w.drewN nd).heap.size from HBS.out) (by have:=HL.out;omega) ?_;(case hB=>exact Below.refl _ _);intro v1 w1 ho hb hg hat;have HO1:=Aside0.mk ho;have HG:=Aside0.mk (grown_drewN hg);have HAT:=Aside0.mk (show v1.ownBlock=(Value.slice A0 l0.length c0).ownBlock∨∃ b,v1.ownBlock=some b∧w.heap.size≤b from hat);clear ho hb hg hat;obtain⟨g,cap,rfl,hcap⟩:=sl_of HO1.out));go_loopg [6] l0.length (fun kq v6 w'=>∃ (i:Nat) (x:Value),v6=.int .i64 (i:Int)∧Aside0 (i≤kq)∧Aside0 (j≤i)∧Aside0 (i≤l0.length)∧Aside0 (w'.ownsRow base 99 1 (.slice (some ⟨g,0,none⟩) (l0.length + 1) cap) (l0.length + 1) (holed cells x i))∧Aside0 (w1.grownBy w' (some g)))
 case atStart=>exact⟨l0.length,.slice none 0 0,rfl,⟨Nat.le_refl _⟩,HJ,⟨Nat.le_refl _⟩,⟨by unfold holed;rw[List.take_of_length_le (by rw[HN.out];exact Nat.le_refl _),List.drop_eq_nil_of_le (by rw[HN.out];exact Nat.le_refl _)];exact HO1.out⟩,⟨rfl,rfl,rfl,Nat.le_refl _,fun _ _ _=>rfl⟩⟩
 case round =>
  clear HO1 HO HR0 HR1 HP;obtain⟨i,x,rfl,HK,HJI,HI,HO,HW⟩:=hrel;by_cases hji:j < i
  ·obtain⟨m,rfl⟩:∃ m,i=m + 1:=⟨i - 1,by omega⟩
   cases gk with
   | zero=>exact absurd HK.out (by omega)
   | succ k1 =>
    obtain⟨hx1,_⟩:=cells_at HO.out m (by have:=HI.out;omega);obtain⟨hx2,hf2⟩:=cells_at HO.out (m + 1) (by have:=HI.out;omega);have hst:=cells_store HO.out (m + 1) ((holed cells x (m + 1)).getD m (.bool false));rw[holed_step cells x m (by have:=HI.out;have:=HN.out;omega)] at hst;obtain⟨Am,nm,cm,hcm⟩:=HSL.out m (by have:=HI.out;omega);rw[holed_get cells x (m + 1) m (by omega) (by have:=HI.out;have:=HN.out;omega),hcm] at hst hx1;have HS:=Aside0.mk hst;clear hst hcm;(have hmb:(m:Int)≤5864062014805:=by have:=HI.out;omega);(have hml:(m:Int) + 1 < (l0.length:Int) + 1:=by have:=HI.out;omega);(have hml2:(m:Int) < (l0.length:Int) + 1:=by have:=HI.out;omega);generalize (holed cells x (m + 1)).getD (m + 1) (.bool false)=c2 at hx2;go_wp2;go_roundg k1
    case measure=>omega
    case rel=>exact⟨m,_,by go_num,⟨by have:=HK.out;omega⟩,⟨by omega⟩,⟨by have:=HI.out;omega⟩,⟨HS.out.1⟩,⟨World.grownBy.trans HW.out HS.out.2⟩⟩
  ·(obtain rfl:i=j:=by have:=HJI.out;omega);obtain⟨hx2,hf2⟩:=cells_at HO.out i (by have:=HI.out;omega);have hst:=cells_store HO.out i (.slice A1 l1.length c1);rw[holed_put cells x _ i (by have:=HI.out;have:=HN.out;omega)] at hst;have HS:=Aside0.mk hst;clear hst;(have hmb:(i:Int)≤5864062014805:=by have:=HI.out;omega);(have hml2:(i:Int) < (l0.length:Int) + 1:=by have:=HI.out;omega);generalize (holed cells x i).getD i (.bool false)=c2 at hx2;go_wp2;go_ret;exact⟨_,rfl,HS.out.1,grown_then HG.out (World.grownBy.trans HW.out HS.out.2) (by rcases HAT.out with h0|⟨b,h0,h1⟩;(exact .inl h0.symm);(refine .inr ?_;simp[Value.ownBlock] at h0;omega)),HAT.out⟩
def galoisref23_Put.f (k:Nat) (l0:List (List Int)) (l1:List Int):Option (List (List Int)):=(galoisref23_Place.f k l0 l1).bind fun j=>if 0≤j∧j≤(l0.length:Int)∧l0.length < 5864062014805 then some (l0.take j.toNat ++ l1 :: l0.drop j.toNat) else none
theorem put_row {w w1:World} {base:Nat} {u v1:Value} {cells:List Value} {ls:List (List Int)} {c:Value} {l:List Int} {j:Nat} (hj:j≤ls.length) (ho:w.ownsRow base 99 1 u ls.length cells) (hl:cells.length=ls.length) (hc:∀ (j:Nat) (l:List Int),ls[j]?=some l→∃ c,cells[j]?=some c∧IRow w base c l) (hi:IRow w base c l)
    (ho1:w1.ownsRow base 99 1 v1 (ls.length + 1) (holed cells c j)) (hg:w.grownBy w1 u.ownBlock):LRow w1 base v1 (ls.take j ++ l :: ls.drop j):=by
 (have hlen:(ls.take j ++ l :: ls.drop j).length=ls.length + 1:=by simp;omega);refine⟨holed cells c j,by rw[hlen];exact ho1,fun i l' hi'=>?_⟩;(have ht:(ls.take j).length=j:=by rw[List.length_take];omega);(have ht':(cells.take j).length=j:=by rw[List.length_take];omega);unfold holed;by_cases h1:i < j
 ·rw[List.getElem?_append_left (by omega),List.getElem?_take_of_lt h1] at hi';obtain⟨c',h2,h3⟩:=hc i l' hi';exact⟨c',by rw[List.getElem?_append_left (by omega),List.getElem?_take_of_lt h1];exact h2,h3.lists ho hg⟩
 ·rw[List.getElem?_append_right (by omega),ht] at hi';rw[List.getElem?_append_right (by omega),ht'];by_cases h2:i=j
  ·subst h2;rw[Nat.sub_self] at hi' ⊢;simp at hi';subst hi';exact⟨c,rfl,hi.lists ho hg⟩
  ·obtain⟨m,hm⟩:∃ m,i - j=m + 1:=⟨i - j - 1,by omega⟩;rw[hm,List.getElem?_cons_succ,List.getElem?_drop] at hi';obtain⟨c',h3,h4⟩:=hc _ l' hi';exact⟨c',by rw[hm,List.getElem?_cons_succ,List.getElem?_drop];exact h3,h4.lists ho hg⟩
end Go.Proofs.YtjbeoidhbbjcmaaGreat.PG
namespace Go.Proofs.YtjbeoidhbbjcmaaGreat.PG
open Go.RowKit Go.Proofs.YtjbeoidhbbjcmaaGreatW.PrintWords Go.Proofs.YtjbeoidhbbjcmaaGreatW.PrintLast Go.Proofs.YtjbeoidhbbjcmaaGreatW.PrintMore
open Go.Proofs.YtjbeoidhbbjcmaaGreatW.PrintWords.Aside0 renaming mk → aM
open List renaming setIfInBounds_toArray → sA, set_cons_zero → sZ, set_cons_succ → sS
set_option linter.unusedVariables false
set_option linter.unusedSimpArgs false
mutual
def galoisref23_Close.l0:Nat→List (List Int)→List (List Int)→List (List Int)→Int→Option ((List (List Int)) × Bool)
  | 0,_,_,_,_=>none
  | k + 1,x1,x6,x7,x8=>if x8 < (x7.length:Int) then (galoisref23_Close.l1 k x1 x6 x7 x8 0) else (some (x6,true))
def galoisref23_Close.l1:Nat→List (List Int)→List (List Int)→List (List Int)→Int→Int→Option ((List (List Int)) × Bool)
  | 0,_,_,_,_,_=>none
  | k + 1,x1,x6,x7,x8,x9=>if x9 < (x1.length:Int) then (if 0≤x8 then (if x8 < (x7.length:Int) then (if 0≤x9 then ((galoisref22_Mul.f k (rd_L2 x7 x8) (rd_L2 x1 x9)).bind fun t115=>((galoisref23_Has.f k x6 t115).bind fun t118=>(if t118=true then (galoisref23_Close.l1 k x1 x6 x7 x8 (wrap64 (x9 + 1))) else (if (x6.length:Int) ≥ 240 then (some (([]:List (List Int)),false)) else ((galoisref23_Put.f k x6 t115).bind fun t119=>(if x7.length < 5864062014805 then (galoisref23_Close.l1 k x1 t119 (x7 ++ [t115]) x8 (wrap64 (x9 + 1))) else (none))))))) else (none)) else (none)) else (none)) else (galoisref23_Close.l0 k x1 x6 x7 (wrap64 (x8 + 1)))
end
def galoisref23_Close.f (k:Nat) (a0:Int) (l1:List (List Int)):Option ((List (List Int)) × Bool):=(galoisref22_Identity.f k a0).bind fun t101=>((galoisref22_Identity.f k a0).bind fun t107=>(galoisref23_Close.l0 k l1 (([t101]:List (List Int))) (([t107]:List (List Int))) 0))
def galoisref23_Close.T9:Bool × List (List Nat × List Nat):=(true,[([],[]),([],[]),([0,1],[0,1]),([2],[2]),([],[]),([],[]),([4,5],[4,5]),([6],[6]),([3,7],[3,7]),([8,8,0,1,2,3,4,5,6,7,8],[8])])
def galoisref23_Close.B9:List Nat:=[0,0,3,7,0,0,48,112,255,511]
theorem galoisref23_Close.tab9:rtab .any (opsOf Tryz.f116 9)=galoisref23_Close.T9:=by kernel_rfl
theorem galoisref23_Close.bits9:waitsOk galoisref23_Close.T9.2 galoisref23_Close.B9=true:=by kernel_rfl
def CS (w w':World) (u v:Value) (x y:List (List Int)):Prop:=LRow w' w.heap.size u x∧LRow w' w.heap.size v y∧(u.ownBlock=none∨u.ownBlock≠v.ownBlock)∧Below w.heap.size w w'
theorem CS.below {w w1 w2:World} {u v:Value} {x y:List (List Int)} (h:CS w w1 u v x y) (hb:Below w1.heap.size w1 w2):CS w w2 u v x y:=⟨h.1.below hb,h.2.1.below hb,h.2.2.1,below_step h.2.2.2 hb⟩
theorem CS.drew {w w1:World} {u v:Value} {x y:List (List Int)} (h:CS w w1 u v x y):CS w w1.drew u v x y:=h.below (below_drew1 (Below.refl _ _))
theorem CS.drewN {w w1:World} {u v:Value} {x y:List (List Int)} (h:CS w w1 u v x y) (n:Nat):CS w (w1.drewN n) u v x y:=h.below (pw_below_drewN (Below.refl _ _) n)
theorem ne_flip {u v:Value} (h:u.ownBlock=none∨u.ownBlock≠v.ownBlock):v.ownBlock=none∨v.ownBlock≠u.ownBlock:=by
 cases hv:v.ownBlock with
 | none=>exact .inl rfl
 | some b =>
  refine .inr ?_;(rcases h with h|h)
  ·rw[h];exact fun he=>by cases he
  ·rw[hv] at h;exact fun he=>h he.symm
theorem below_grown {w w1 w2:World} {row:Option Nat} (h:Below w.heap.size w w1) (hg:w1.grownBy w2 row) (hr:∀ k,row=some k→w.heap.size≤k):Below w.heap.size w w2 :=
  ⟨hg.os.trans h.os,hg.tape.trans h.tape,hg.output.trans h.output,Nat.le_trans h.size hg.size,fun i hi=>(hg.block i (Nat.lt_of_lt_of_le hi h.size) (by
    intro he
    have:=hr i he.symm
    omega)).trans (h.block i hi)⟩
theorem CS.put {w w1 w2:World} {u v v1 c:Value} {x y:List (List Int)} {l:List Int} {cells:List Value} {j:Nat} (h:CS w w1 u v x y) (ho:w1.ownsRow w.heap.size 99 1 u x.length cells) (hl:cells.length=x.length) (hc:∀ (j:Nat) (l:List Int),x[j]?=some l→∃ c,cells[j]?=some c∧IRow w1 w.heap.size c l) (hi:IRow w1 w.heap.size c l) (hj:j≤x.length)
    (ho1:w2.ownsRow w.heap.size 99 1 v1 (x.length + 1) (holed cells c j)) (hg:w1.grownBy w2 u.ownBlock) (hat:v1.ownBlock=u.ownBlock∨∃ b,v1.ownBlock=some b∧w1.heap.size≤b):CS w w2 v1 v (x.take j ++ l :: x.drop j) y∧IRow w2 w.heap.size c l:=by
 obtain⟨hu,hv,hne,hb⟩:=h;refine⟨⟨put_row hj ho hl hc hi ho1 hg,hv.lists ho (ne_flip hne) hg,?_,below_grown hb hg (fun k hk=>own_base ho k hk)⟩,hi.lists ho hg⟩;(rcases hat with hat|⟨b,hat,hge⟩)
 ·rw[hat];exact hne
 ·refine .inr ?_;rw[hat];intro he;have:=(hv.ownBase b he.symm).2;omega
theorem CS.append {w w1 w2:World} {u v v1 c:Value} {x y:List (List Int)} {l:List Int} {cells:List Value} (h:CS w w1 u v x y) (ho:w1.ownsRow w.heap.size 99 1 v y.length cells) (hl:cells.length=y.length) (hc:∀ (j:Nat) (l:List Int),y[j]?=some l→∃ c,cells[j]?=some c∧IRow w1 w.heap.size c l) (hi:IRow w1 w.heap.size c l)
    (ho1:w2.ownsRow w.heap.size 99 1 v1 (y.length + 1) (cells ++ [c])) (hb1:Below w.heap.size w w2) (hg:w1.grownBy w2 v.ownBlock) (hat:v1.ownBlock=v.ownBlock∨∃ b,v1.ownBlock=some b∧w1.heap.size≤b):CS w w2 u v1 x (y ++ [l]):=by
 obtain⟨hu,hv,hne,hb⟩:=h;refine⟨hu.lists ho hne hg,LRow.snoc (fun j l' hj=>let ⟨c',h1,h2⟩:=hc j l' hj;⟨c',h1,h2.lists ho hg⟩) hl ho1 (hi.lists ho hg),?_,hb1⟩;(rcases hat with hat|⟨b,hat,hge⟩)
 ·rw[hat];exact hne
 ·refine .inr ?_;rw[hat];intro he;have:=(hu.ownBase b he).2;omega
theorem put_some {k:Nat} {x r:List (List Int)} {l:List Int} (h:galoisref23_Put.f k x l=some r):∃ j:Nat,galoisref23_Place.f k x l=some (j:Int)∧j≤x.length∧x.length < 5864062014805∧r=x.take j ++ l :: x.drop j:=by
 obtain⟨j,h1,h2⟩:=Option.bind_eq_some_iff.mp h;split at h2
 ·rename_i hc;obtain⟨a,b,c⟩:=hc;obtain⟨m,rfl⟩:=Int.eq_ofNat_of_zero_le a;injection h2 with h2;exact⟨m,h1,by omega,c,h2.symm⟩
 ·cases h2
set_option maxHeartbeats 8000000 in
set_option maxRecDepth 100000 in
theorem galoisref23_Close.calls (k:Nat) (a0:Int) (A1:Option Addr) (c1:Nat) (l1:List (List Int)) (r1:List (List Int)) (r2:Bool) (w:World) (hr1:Kd.C (Kd.slice 3 (Kd.int .i64)) w A1 l1.length l1) (hc1:l1.length≤c1) (h:galoisref23_Close.f k a0 l1=some (r1,r2)) :
    Calls Tryz.prog 116 #[.int .i64 a0,.slice A1 l1.length c1] w fun e w'=>∃ v0_:Value,e=.returned (.tuple #[v0_,.bool r2])∧Kd.N (Kd.slice 3 (Kd.int .i64)) 99 w' w.heap.size (fun k_=>(w.heap.size≤k_)) v0_ r1∧Below w.heap.size w w':=by
 have HR1:=aM hr1;have HC1:=aM hc1;clear hr1 hc1;obtain⟨t1,h1,h⟩:=Option.bind_eq_some_iff.mp (show ((galoisref22_Identity.f k a0).bind fun t101=>((galoisref22_Identity.f k a0).bind fun t107=>(galoisref23_Close.l0 k l1 (([t101]:List (List Int))) (([t107]:List (List Int))) 0)))=some (r1,r2) from h);obtain⟨t2,h2,h⟩:=Option.bind_eq_some_iff.mp h;have HID:=aM h1;have HID2:=aM h2;have H':=aM h;clear h h1 h2;go_enter Tryz.func116,Tryz.ntmps116;go_wp2_with (first|((with_reducible refine gate_callee (f:=75) rfl ?_);refine goesL_ (some 12) rfl rfl Tryz.func75 (by kernel_rfl) rfl #[.int .i64 a0] rfl (by (try simp only[List.map_toArray,List.map_cons,List.map_nil]);first|done|rfl) ?_;(with_reducible refine (galoisref22_Identity.calls k a0 t1 _ HID.out).mono ?_);rintro e w5 ⟨v5,rfl,ho0,hb⟩;refine⟨_,rfl,?_⟩;have HI:=aM (IRow.of_R ho0);have HB:=aM hb;clear ho0 hb;obtain⟨A5,cc5,rfl,_,_⟩:=HI.out.val;have HL:=aM (LRow.single HI.out HB.out.size))|((with_reducible refine gate_callee (f:=75) rfl ?_);refine goesL_ (some 15) rfl rfl Tryz.func75 (by kernel_rfl) rfl #[.int .i64 a0] rfl (by (try simp only[List.map_toArray,List.map_cons,List.map_nil]);first|done|rfl) ?_;(with_reducible refine (galoisref22_Identity.calls k a0 t2 _ HID2.out).mono ?_);rintro e w9 ⟨v9,rfl,ho0,hb⟩;refine⟨_,rfl,?_⟩;go_must (have HB2:=aM (below_step (below_alloc HB.out _) hb));go_must (have HI2:=aM ((IRow.of_R ho0).lower (below_alloc HB.out _).size));go_must (have HL2:=aM (HL.out.below hb));go_must (have hsz:w5.heap.size < w9.heap.size:=Nat.lt_of_lt_of_le (by show _ < (w5.heap.push _).size;rw[Array.size_push];exact Nat.lt_succ_self _) hb.size);go_must (clear ho0 hb HL HI);go_must (obtain⟨A9,cc9,rfl,_,_⟩:=HI2.out.val)));have HS:=aM (show CS w (w9.alloc (.cells #[.slice A9 t2.length cc9] 99 (0,0))) (.slice (some ⟨w5.heap.size,0,none⟩) 1 1) (.slice (some ⟨w9.heap.size,0,none⟩) 1 1) [t1] [t2] from⟨HL2.out.below (below_alloc (Below.refl _ _) _),LRow.single HI2.out HB2.out.size,.inr (by simp[Value.ownBlock];omega),below_alloc HB2.out _⟩);clear HL2 HI2 hsz HB2 HB HID HID2;go_loopg [6,7,8] k (fun kq v6 v7 v8 w'=>∃ (x y:List (List Int)) (i:Int),v8=.int .i64 i∧Aside0 (galoisref23_Close.l0 kq l1 x y i=some (r1,r2))∧Aside0 (kq≤k)∧Aside0 (CS w w' v6 v7 x y))
 case atStart=>exact⟨_,_,0,rfl,H',⟨Nat.le_refl _⟩,HS⟩
 case round =>
  clear H' HS;obtain⟨x,y,i,rfl,HA,HK1,HS⟩:=hrel
  cases gk with
  | zero=>exact absurd HA.out (by simp[galoisref23_Close.l0])
  | succ k1 =>
   have H:=HA.out;clear HA;simp only[galoisref23_Close.l0] at H;obtain⟨Av,cv,rfl,hcv⟩:=HS.out.2.1.slice;by_cases c13:i < (y.length:Int)
   ·rw[if_pos c13] at H;have H':=aM H;clear H;go_wp2;go_loopg [6,7,9] k1 (fun kq v6 v7 v9 w'=>∃ (x y:List (List Int)) (q:Int),v9=.int .i64 q∧Aside0 (galoisref23_Close.l1 kq l1 x y i q=some (r1,r2))∧Aside0 (kq≤k1)∧Aside0 (CS w w' v6 v7 x y))
    case atStart=>exact⟨_,_,0,rfl,H',⟨Nat.le_refl _⟩,HS⟩
    case round =>
     clear H' HS hcv;clear c13;obtain⟨x,y,q,rfl,HA,HK2,HS⟩:=hrel
     cases gk with
     | zero=>exact absurd HA.out (by simp[galoisref23_Close.l1])
     | succ k2 =>
      have H:=HA.out;clear HA;simp only[galoisref23_Close.l1] at H;by_cases c15:q < (l1.length:Int)
      ·rw[if_pos c15] at H;(have c16:0≤i:=Decidable.byContradiction fun hh=>by rw[if_neg hh] at H;cases H);rw[if_pos c16] at H;(have c17:i < (y.length:Int):=Decidable.byContradiction fun hh=>by rw[if_neg hh] at H;cases H);rw[if_pos c17] at H;(have c18:0≤q:=Decidable.byContradiction fun hh=>by rw[if_neg hh] at H;cases H);rw[if_pos c18] at H;obtain⟨t,hm,H⟩:=Option.bind_eq_some_iff.mp H;have HM:=aM hm;obtain⟨tb,hh,H⟩:=Option.bind_eq_some_iff.mp H;have HH:=aM hh;have HF:=aM H;clear hm hh H;have C15:=aM c15;have C17:=aM c17;have C18:=aM c18;have C16:=aM c16;have d15:=decide_eq_true c15;have d16:=decide_eq_true c16;have d17:=decide_eq_true c17;have d18:=decide_eq_true c18;clear c15 c16 c17 c18;go_wp2;have HS1:=aM HS.out.drew;clear HS;have HS:=HS1;clear HS1;obtain⟨Av,cv,rfl,hcv⟩:=HS.out.2.1.slice;obtain⟨ad7,u7,e7,hx7',hi7⟩:=HS.out.2.1.getA i.toNat (by have:=C17.out;have:=C16.out;omega);cases e7;obtain⟨Ai,ci,rfl,hci,hri⟩:=hi7.val;have hx7:wr.drew.cell? (ad7.add i.toNat)=some (.slice Ai (rd_L2 y i).length ci):=hx7';have HRi:Aside0 (Kd.C (Kd.int .i64) wr.drew Ai (rd_L2 y i).length (rd_L2 y i)):=⟨hri⟩;have HCi:Aside0 ((rd_L2 y i).length≤ci):=⟨hci⟩;clear hx7' hri hci hi7;obtain⟨ad1,Aq,cq,e1,hx1,hcq,hrq⟩:=at_L2 HR1.out q C18.out C15.out;cases e1;replace hx1:=(HS.out.2.2.2.cell (World.block_lt_of_cell? w _ hx1)).trans hx1;have HRq:=aM (Kd.C_below hrq HS.out.2.2.2);have HCq:=aM hcq;clear hrq hcq;have p113:=eq_true C16.out;have q113:=eq_true C17.out;have p114:=eq_true C18.out;have q114:=eq_true C15.out;refine start_ (n:=10) (S:=fun w'=>w'.cell? (ad7.add i.toNat)=some (.slice Ai (rd_L2 y i).length ci)∧w'.cell? (ad1.add q.toNat)=some (.slice Aq (rd_L2 l1 q).length cq)) (ds:=[]) #[false,false,false,false,false,false,false,false,false,false] (by kernel_rfl) rfl rfl ⟨hx7,hx1⟩ (fun hHeld=>?_);refine with_tabW galoisref23_Close.tab9 galoisref23_Close.bits9 (fun HT_ HW_=>?_);generalize wr.drew=w2 at HS HRi HRq hx7 hx1 hHeld ⊢;refine pure_ (i:=0) (N:=some 29) (v:=?_) (a':=?_) #[true,false,false,false,false,false,false,false,false,false] rfl rfl (any_of HT_.out (by kernel_rfl)) (fun _ _ _ h=>h) (Or.inl ⟨by rfl,?_⟩) ?_ ?_;rotate_left
       ·intro w';go_simp;(with_reducible rfl)
       rotate_left
       ·simp only[Act.put,sA,sZ,sS,i64_w,i32_w];rfl
       refine pure_ (i:=1) (N:=some 30) (v:=?_) (a':=?_) #[true,true,false,false,false,false,false,false,false,false] rfl rfl (any_of HT_.out (by kernel_rfl)) (fun _ _ _ h=>h) (Or.inl ⟨by rfl,?_⟩) ?_ ?_;rotate_left
       ·intro w';go_simp;(with_reducible rfl)
       rotate_left
       ·simp only[Act.put,sA,sZ,sS,i64_w,i32_w];rfl
       refine pure_ (i:=2) (N:=some 31) (v:=?_) (a':=?_) #[true,true,true,false,false,false,false,false,false,false] rfl rfl (any_of HT_.out (by kernel_rfl)) (fun _ _ _ h=>h) (Or.inl ⟨by rfl,?_⟩) ?_ ?_;rotate_left
       ·intro w';go_simp;(with_reducible rfl)
       rotate_left
       ·simp only[Act.put,sA,sZ,sS,i64_w,i32_w];rfl
       refine pure_ (i:=4) (N:=some 33) (v:=?_) (a':=?_) #[true,true,true,false,true,false,false,false,false,false] rfl rfl (any_of HT_.out (by kernel_rfl)) (fun _ _ _ h=>h) (Or.inl ⟨by rfl,?_⟩) ?_ ?_;rotate_left
       ·intro w';go_simp;(with_reducible rfl)
       rotate_left
       ·simp only[Act.put,sA,sZ,sS,i64_w,i32_w];rfl
       refine pure_ (i:=5) (N:=some 34) (v:=?_) (a':=?_) #[true,true,true,false,true,true,false,false,false,false] rfl rfl (any_of HT_.out (by kernel_rfl)) (fun _ _ _ h=>h) (Or.inl ⟨by rfl,?_⟩) ?_ ?_;rotate_left
       ·intro w';go_simp;(with_reducible rfl)
       rotate_left
       ·simp only[Act.put,sA,sZ,sS,i64_w,i32_w];rfl
       refine pure_ (i:=6) (N:=some 35) (v:=?_) (a':=?_) #[true,true,true,false,true,true,true,false,false,false] rfl rfl (any_of HT_.out (by kernel_rfl)) (fun _ _ _ h=>h) (Or.inl ⟨by rfl,?_⟩) ?_ ?_;rotate_left
       ·intro w';go_simp;(with_reducible rfl)
       rotate_left
       ·simp only[Act.put,sA,sZ,sS,i64_w,i32_w];rfl
       refine take_ (i:=3) (N:=some 32) (v:=?_) (a':=?_) #[true,true,true,true,true,true,true,false,false,false] rfl rfl (take_ofW HT_.out HW_.out (by kernel_rfl)) (fun _ _ _ h=>h) (Or.inl ⟨by rfl,?_⟩) hHeld ?_ ?_;rotate_left
       ·rintro w' ⟨s0,s1⟩;go_simp;(with_reducible rfl)
       rotate_left
       ·simp only[Act.put,sA,sZ,sS,i64_w,i32_w];rfl
       refine take_ (i:=7) (N:=some 36) (v:=?_) (a':=?_) #[true,true,true,true,true,true,true,true,false,false] rfl rfl (take_ofW HT_.out HW_.out (by kernel_rfl)) (fun _ _ _ h=>h) (Or.inl ⟨by rfl,?_⟩) hHeld ?_ ?_;rotate_left
       ·rintro w' ⟨s0,s1⟩;go_simp;(with_reducible rfl)
       rotate_left
       ·simp only[Act.put,sA,sZ,sS,i64_w,i32_w];rfl
       refine one_ (i:=8) (N:=some 37) #[true,true,true,true,true,true,true,true,true,false] rfl rfl (one_of HT_.out (by kernel_rfl)) (by decide) (fun K hK=>?_);refine goes_ Tryz.func171 (by kernel_rfl) rfl #[.slice Ai (rd_L2 y i).length ci,.slice Aq (rd_L2 l1 q).length cq] (by rfl) rfl rfl (by (try simp only[List.map_toArray,List.map_cons,List.map_nil]);first|done|rfl) ?_;(with_reducible refine (galoisref22_Mul.calls k2 _ _ (rd_L2 y i) _ _ (rd_L2 l1 q) t _ ?side1 ?side2 ?side3 ?side4 HM.out).mono ?_);(case side1=>exact HRi.out);(case side2=>exact HCi.out);(case side3=>exact HRq.out);(case side4=>exact HCq.out);rintro e w3 ⟨v3,rfl,ho0,hb⟩;have hs0:=(hb.cell (World.block_lt_of_cell? _ _ (hHeld.1))).trans (hHeld.1);have hs1:=(hb.cell (World.block_lt_of_cell? _ _ (hHeld.2))).trans (hHeld.2);refine⟨_,rfl,?_⟩;have HI:=aM ((IRow.of_R ho0).lower HS.out.2.2.2.size);have HS1:=aM (HS.out.below hb);clear HS ho0 hb;have HS:=HS1;clear HS1;refine hK.out _ _ ⟨hs0,hs1⟩ (fun hHeld=>?_);clear hK K;refine norm_ (a':=?_) ?_ ?_;rotate_left
       ·show Act.put _ (some 37) _=_;simp only[Act.put,sA,sZ,sS,i64_w,i32_w];rfl
       refine pure_ (i:=9) (N:=some 10) (v:=?_) (a':=?_) #[true,true,true,true,true,true,true,true,true,true] rfl rfl (any_of HT_.out (by kernel_rfl)) (fun _ _ _ h=>h) (Or.inl ⟨by rfl,?_⟩) ?_ ?_;rotate_left
       ·intro w';go_simp;(with_reducible rfl)
       rotate_left
       ·simp only[Act.put,sA,sZ,sS,i64_w,i32_w];rfl
       refine done_ (done_of HT_.out (by kernel_rfl)) ?_;clear hHeld hx7 hx1 HRi HRq HCi HCq p113 q113 p114 q114 hcv;clear d15 d16 d17 d18;obtain⟨Au,cu,rfl,hcu⟩:=HS.out.1.slice;obtain⟨Ap,cp,rfl,hcp,_⟩:=HI.out.val;by_cases ctb:tb=true
       ·subst ctb;have H':Aside0 (galoisref23_Close.l1 k2 l1 x y i (wrap64 (q + 1))=some (r1,r2)):=⟨by have:=HF.out;rw[if_pos rfl] at this;exact this⟩;go_wp2_with (first|((with_reducible refine gate_callee (f:=118) rfl ?_);refine goesL_ (some 40) rfl rfl Tryz.func118 (by kernel_rfl) rfl #[.slice Au x.length cu,.slice Ap t.length cp] rfl (by (try simp only[List.map_toArray,List.map_cons,List.map_nil]);first|done|rfl) ?_;(with_reducible refine (galoisref23_Has.calls k2 _ _ x _ _ t true _ ?side1 ?side2 ?side3 ?side4 HH.out).mono ?_);(case side1=>exact HS.out.1.readsC.2.2);(case side2=>exact hcu);(case side3=>exact HI.out.reads.2.2);(case side4=>exact hcp);rintro e w' ⟨rfl,⟨nd,rfl⟩⟩;refine⟨_,rfl,?_⟩;have HS1:=aM (HS.out.drewN nd);have HI1:=aM (HI.out.below (pw_below_drewN (Below.refl _ _) nd));clear HS HI;have HS:=HS1;have HI:=HI1;clear HS1 HI1;generalize w3.drewN nd=w4 at HS HI ⊢));go_roundg k2
        case measure=>have:=HK1.out;have:=HK2.out;omega
        case rel=>exact⟨x,y,wrap64 (q + 1),rfl,H',⟨by have:=HK1.out;have:=HK2.out;omega⟩,HS⟩
       ·replace ctb:=Bool.eq_false_iff.mpr ctb;subst ctb;have H:=HF.out;rw[if_neg (by decide)] at H;by_cases c27:(x.length:Int) ≥ 240
        ·rw[if_pos c27] at H;have d27:decide (240≤(x.length:Int))=true:=decide_eq_true c27;simp only[Option.some.injEq,Prod.mk.injEq] at H;obtain⟨rfl,rfl⟩:=H;go_wp2_with (first|((with_reducible refine gate_callee (f:=118) rfl ?_);refine goesL_ (some 40) rfl rfl Tryz.func118 (by kernel_rfl) rfl #[.slice Au x.length cu,.slice Ap t.length cp] rfl (by (try simp only[List.map_toArray,List.map_cons,List.map_nil]);first|done|rfl) ?_;(with_reducible refine (galoisref23_Has.calls k2 _ _ x _ _ t false _ ?side1 ?side2 ?side3 ?side4 HH.out).mono ?_);(case side1=>exact HS.out.1.readsC.2.2);(case side2=>exact hcu);(case side3=>exact HI.out.reads.2.2);(case side4=>exact hcp);rintro e w' ⟨rfl,⟨nd,rfl⟩⟩;refine⟨_,rfl,?_⟩;have HS1:=aM (HS.out.drewN nd);have HI1:=aM (HI.out.below (pw_below_drewN (Below.refl _ _) nd));clear HS HI;have HS:=HS1;have HI:=HI1;clear HS1 HI1;generalize w3.drewN nd=w4 at HS HI ⊢));go_ret2;exact⟨_,rfl,Kd.N_nil _ _ _ _ _,HS.out.2.2.2⟩
        ·rw[if_neg c27] at H;have d27:decide (240≤(x.length:Int))=false:=decide_eq_false c27;obtain⟨x',hp,H⟩:=Option.bind_eq_some_iff.mp H;obtain⟨j,hpl,hj,hx,hxe⟩:=put_some hp;have HPL:=aM hpl;have HJ:=aM hj;have HX:=aM hx;have HE:=aM hxe;(have hy:y.length < 5864062014805:=Decidable.byContradiction fun hh=>by rw[if_neg hh] at H;cases H);rw[if_pos hy] at H;have HY:=aM hy;have H':=aM H;clear H hpl hj hx hxe hp hy;go_wp2_with (first|((with_reducible refine gate_callee (f:=118) rfl ?_);refine goesL_ (some 40) rfl rfl Tryz.func118 (by kernel_rfl) rfl #[.slice Au x.length cu,.slice Ap t.length cp] rfl (by (try simp only[List.map_toArray,List.map_cons,List.map_nil]);first|done|rfl) ?_;(with_reducible refine (galoisref23_Has.calls k2 _ _ x _ _ t false _ ?side1 ?side2 ?side3 ?side4 HH.out).mono ?_);(case side1=>exact HS.out.1.readsC.2.2);(case side2=>exact hcu);(case side3=>exact HI.out.reads.2.2);(case side4=>exact hcp);rintro e w' ⟨rfl,⟨nd,rfl⟩⟩;refine⟨_,rfl,?_⟩;have HS1:=aM (HS.out.drewN nd);have HI1:=aM (HI.out.below (pw_below_drewN (Below.refl _ _) nd));clear HS HI;have HS:=HS1;have HI:=HI1;clear HS1 HI1;generalize w3.drewN nd=w4 at HS HI ⊢)|((with_reducible refine gate_callee (f:=172) rfl ?_);refine goesL_ (some 47) rfl rfl Tryz.func172 (by kernel_rfl) rfl #[.slice Au x.length cu,.slice Ap t.length cp] rfl (by (try simp only[List.map_toArray,List.map_cons,List.map_nil]);first|done|rfl) ?_;go_must (obtain⟨cells,hco,hcl,hcc⟩:=HS.out.1.split);go_must (with_reducible refine (put_calls k2 w.heap.size _ _ x cells _ _ t j _ ?side0 hco ?side1 ?side2 ?side3 ?side4 HPL.out HJ.out ?side5 HX.out).mono ?_);(case side0=>exact HS.out.2.2.2.size);(case side1=>exact HS.out.1.readsC.2.2);(case side2=>exact hcu);(case side3=>exact HI.out.reads.2.2);(case side4=>exact hcp);(case side5=>go_must (intro jj hjj;obtain⟨cj,hj1,hj2⟩:=hcc jj _ (List.getElem?_eq_getElem hjj);obtain⟨aa,bb,hh,_,_⟩:=hj2.val;exact⟨_,_,_,by rw[List.getD_eq_getElem?_getD,hj1];exact hh⟩));rintro e w5 ⟨v5,rfl,ho5,hg5,hat5⟩;refine⟨_,rfl,?_⟩;go_must (have HB5:=aM (HS.out.put hco hcl hcc HI.out HJ.out ho5 hg5 hat5));clear HS HI ho5 hg5 hat5 hco hcl hcc;go_must (rw[← HE.out] at HB5);have HS:=aM HB5.out.1;have HI:=aM HB5.out.2;clear HB5)|(at_builtin;go_must (obtain⟨cells,hco,hcl,hcc⟩:=HS.out.2.1.split);go_must (refine print_append_cells (w0:=w) w.heap.size rfl (.tmp 48) (.tmp 50) 79 99 (.slice none 0 0) 1 24 rfl Tryz.underlying79 info99 rfl (by decide) (by decide) (.slice (some ad7) y.length cv) y.length cells [.slice Ap t.length cp] rfl rfl rfl (by simp[Value.oneCell']) hco ?hB ?hsz (by have:=HY.out;omega) ?_);(case hB=>exact HS.out.2.2.2);(case hsz=>exact HS.out.2.2.2.size);intro v6 w6 ho hb hg hat;go_must (have HS1:=aM (HS.out.append hco hcl hcc HI.out ho hb hg hat));clear HS HI hco hcl hcc ho hb hg hat;have HS:=HS1;clear HS1));go_roundg k2
         case measure=>have:=HK1.out;have:=HK2.out;omega
         case rel=>exact⟨x',y ++ [t],wrap64 (q + 1),rfl,H',⟨by have:=HK1.out;have:=HK2.out;omega⟩,HS⟩
      ·rw[if_neg c15] at H;have H':=aM H;clear H;go_wp2;go_roundg k2
       case measure=>have:=HK1.out;have:=HK2.out;omega
       case rel=>exact⟨x,y,wrap64 (i + 1),rfl,H',⟨by have:=HK1.out;have:=HK2.out;omega⟩,HS⟩
   ·rw[if_neg c13] at H;simp only[Option.some.injEq,Prod.mk.injEq] at H;obtain⟨rfl,rfl⟩:=H;go_wp2;go_ret2;exact⟨_,rfl,Kd.R_N HS.out.1.R,HS.out.2.2.2⟩
end Go.Proofs.YtjbeoidhbbjcmaaGreat.PG
