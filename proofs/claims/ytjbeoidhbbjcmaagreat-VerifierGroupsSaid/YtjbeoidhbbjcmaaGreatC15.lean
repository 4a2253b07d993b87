/- A small machine that runs closed calls, with the proof that the program does what it does. -/
import Derived.Test.YtjbeoidhbbjcmaaGreatC14
import Derived.Deep.LoopGhost
import Derived.Test.YtjbeoidhbbjcmaaGreatC03
import Derived.Test.YtjbeoidhbbjcmaaGreatProg
namespace Go.AI
open Go Go.Proofs.YtjbeoidhbbjcmaaGreat
open Go.RowKit (Below)
variable {P : Program} {M : Mp} {w0 w : World} {h : Hp} {T : List Value} {a : Act} {o : Oper}
/-- Arguments. -/
def AR (M:Mp) (args:List Value) (args':Array Value):Prop:=args.length=args'.size∧∀ (i:Nat) (v v':Value),args[i]?=some v→args'[i]?=some v'→VR M v v'
/-- What a call comes to. -/
def CallOk (P:Program) (call:CallT):Prop :=
  ∀ (g:FuncId) (args:List Value) (h:Hp) (q:Value × Hp),call g args h=some q→∀ (M:Mp) (w0 w:World) (args':Array Value),HR P M w0 w h→AR M args args' →
    (((callFunc g args').run P w=.ok (.enter g args') w∧Calls P g args' w fun e w'=>∃ M' v',e=.returned v'∧HR P M' w0 w' q.2∧Step M w h M' w' q.2∧VR M' q.1 v') ∨
     (∃ v',(callFunc g args').run P w=.ok (.value v') w∧q.2=h∧VR M q.1 v'))
theorem args_rel (hT:TR M T a) {xs:Array Operand} (ho:∀ x∈xs.toList,okOpd x=true):AR M (xs.toList.map (evT T)) (xs.map a.eval):=by
  refine⟨by simp,fun i v v' h1 h2=>?_⟩
  rw[List.getElem?_map] at h1
  rw[Array.getElem?_map] at h2
  obtain⟨x,hx,rfl⟩:=Option.map_eq_some_iff.1 h1
  rw[← Array.getElem?_toList,hx] at h2
  cases h2
  exact ev_rel hT (ho x (List.mem_of_getElem? hx))
variable {ops : Array Oper} {Q : Exit → Act → World → Prop} {K : Act → World → Prop} {call : CallT}
theorem want_rel (hT:TR M T a) {o:Oper} {b:Bool} (hw:wantT ops T o=some b):Region.wanted o (yielded ops a.tmps)=b:=by
  unfold wantT at hw
  unfold Region.wanted
  cases hg:o.guard with
  | none=>rw[hg] at hw;cases hw;rfl
  | some jb =>
    obtain⟨j,c⟩:=jb
    rw[hg] at hw
    simp only at hw ⊢
    unfold yielded
    cases hd:(ops[j]?).bind (·.dst) with
    | none=>rw[hd] at hw;cases hw;cases c <;> rfl
    | some t =>
      rw[hd] at hw
      simp only at hw
      have hv:=hT.val t
      have hval:∀ u,getL T t=u→(∀ vs:Array Value,u=.tuple vs→vs.size=0)→a.tmps[t]?=some (a.tmps.getD t undef)∨(a.tmps[t]?=none∧a.tmps.getD t undef=undef):=by
        intro _ _ _
        by_cases hlt:t < a.tmps.size
        · left
          rw[Array.getElem?_eq_getElem hlt]
          simp[Array.getD,hlt]
        · right
          refine⟨Array.getElem?_eq_none (Nat.le_of_not_lt hlt),?_⟩
          simp[Array.getD,hlt]
      split at hw
      · rename_i b' he
        cases hw
        rw[he] at hv
        have hb:=vr_bool hv
        rcases hval _ he (fun vs hvs=>by cases hvs) with h1|⟨_,h2⟩
        · simp only[Option.bind_some,h1,hb]
          cases b' <;> cases c <;> rfl
        · rw[hb] at h2;cases h2
      · rename_i vs he
        split at hw
        · rename_i hz
          cases hw
          rw[he] at hv
          have hvs:vs=#[]:=Array.size_eq_zero_iff.1 hz
          subst hvs
          have hu:a.tmps.getD t undef=.tuple #[]:=VR.flat_eq rfl hv
          rcases hval _ he (fun vs hvs=>by cases hvs;rfl) with h1|⟨h1,_⟩
          · simp only[Option.bind_some,h1,hu]
            cases c <;> rfl
          · simp only[Option.bind_some,h1]
            cases c <;> rfl
        · cases hw
      · rename_i hb ht
        cases hw
        have hnb:∀ b',a.tmps.getD t undef≠.bool b':=by
          intro b' hb'
          rw[hb'] at hv
          generalize getL T t=u at hv hb ht
          cases hv with
          | junk=>exact ht _ rfl
          | same _=>exact hb b' rfl
        rcases hval _ rfl (fun vs hvs=>absurd hvs (ht vs)) with h1|⟨h1,_⟩
        · simp only[Option.bind_some,h1]
          split
          · rename_i b' he'
            exact absurd (Option.some.inj he') (hnb b')
          · cases c <;> rfl
        · simp only[Option.bind_some,h1]
          cases c <;> rfl
theorem put_rel (hT:TR M T a) {v v':Value} (hv:VR M v v') (d:Option Tmp):TR M (match d with|none=>T|some d=>T.set d v) (a.put d v'):=by
  cases d with
  | none=>exact hT
  | some d =>
    refine⟨by simp[Act.put,hT.len],fun i=>?_,hT.df⟩
    simp only[Act.put]
    rw[getL_eq,List.getD_eq_getElem?_getD,List.getElem?_set]
    have hi:=hT.val i
    rw[getL_eq,List.getD_eq_getElem?_getD] at hi
    by_cases hdi:d=i
    · subst hdi
      rw[if_pos rfl]
      by_cases hlt:d < T.length
      · rw[if_pos hlt]
        have hlt':d < a.tmps.size:=by rw[← hT.len];exact hlt
        simpa [Array.getD,hlt'] using hv
      · rw[if_neg hlt]
        have hlt':¬ d < a.tmps.size:=by rw[← hT.len];exact hlt
        simp only[Array.getD,Array.size_setIfInBounds,hlt',dif_neg,not_false_eq_true]
        exact .same rfl
    · rw[if_neg hdi]
      have he:(a.tmps.setIfInBounds d v').getD i undef=a.tmps.getD i undef:=by
        rw[Array.getD_eq_getD_getElem?,Array.getD_eq_getD_getElem?,Array.getElem?_setIfInBounds,if_neg hdi]
      rw[he]
      exact hi
theorem TR.mono {M':Mp} (hT:TR M T a) (hE:Ext M M'):TR M' T a:=⟨hT.len,fun i=>(hT.val i).mono hE,hT.df⟩
/-- An operation that turns the memory, or calls. -/
theorem ieff_ok (hK:MapsOk P) (hC:CallOk P call) (hR:HR P M w0 w h) (hT:TR M T a) {q:Value × Hp} (hq:ieff P call T h o=some q)
    (hnext:∀ M' v' w',HR P M' w0 w' q.2→Step M w h M' w' q.2→VR M' q.1 v'→K (a.put o.dst v') w'):o.wp P a w K Q:=by
  have turn:Turns P M w0 w h a o q→o.wp P a w K Q:=by
    rintro⟨M',v',w',h1,h2,h3,h4⟩
    unfold Oper.wp
    rcases h4 with h4|⟨h4,rfl⟩ <;> rw[h4]
    · exact hnext M' v' w' h1 h2 h3
    · exact hnext M' undef w' h1 h2 h3
  have goes:∀ (g:FuncId) (args:List Value) (args':Array Value),call g args h=some q→AR M args args'→(execOp a.eval o).run P w=(callFunc g args').run P w→o.wp P a w K Q:=by
    intro g args args' hc har hrun
    unfold Oper.wp
    rw[hrun]
    rcases hC g args h q hc M w0 w args' hR har with ⟨h1,h2⟩|⟨v',h1,h2,h3⟩
    · rw[h1,Oper.upon_enter]
      exact h2.mono fun e w' ⟨M',v',he,k1,k2,k3⟩=>by subst he;exact hnext M' v' w' k1 k2 k3
    · rw[h1,Oper.upon_value]
      exact hnext M v' w (by rw[h2];exact hR) (by rw[h2];exact Step.refl _ _ _) h3
  unfold ieff at hq
  split at hq
  · rename_i hop;exact turn (eAlloc_ok hR hop hq)
  · rename_i hop;exact turn (eBox_ok hR hT hop hq)
  · rename_i hop;exact turn (eStore_ok hR hT hop hq)
  · rename_i hop;exact turn (eMake_ok hR hT hop hq)
  · rename_i hop;exact turn (eBuildSlice_ok hR hT hop hq)
  · rename_i hop;exact turn (eMakeMap_ok hR hop hq)
  · rename_i hop;exact turn (ePut_ok hK hR hT (.inl hop) hq)
  · rename_i hop;exact turn (ePut_ok hK hR hT (.inr hop) hq)
  · rename_i c hop
    unfold eCall at hq
    split at hq
    · rename_i hce
      split at hq
      · rename_i s x t t' hxs hts
        obtain⟨ca,xs,ts⟩:=c
        obtain rfl:xs=#[s,x]:=Array.toList_inj.1 hxs
        obtain rfl:ts=#[t,t']:=Array.toList_inj.1 hts
        cases hce
        exact turn (eAppend_ok hR hT hop hq)
      · cases hq
    · rename_i f hce
      unfold eCallV at hq
      split at hq
      · rename_i hok
        simp only[Bool.and_eq_true,List.all_eq_true] at hok
        have hv:=ev_rel hT hok.1
        split at hq
        · rename_i g fs cs he
          split at hq
          · rename_i hz
            simp only[Bool.and_eq_true,decide_eq_true_eq] at hz
            obtain rfl:fs=#[]:=Array.size_eq_zero_iff.1 hz.1
            obtain rfl:cs=#[]:=Array.size_eq_zero_iff.1 hz.2
            rw[he] at hv
            have hv:a.eval f=.func (.func g) #[] #[]:=VR.flat_eq rfl hv
            refine goes g _ (c.args.map a.eval) hq (args_rel hT hok.2) ?_
            unfold execOp
            obtain⟨ca,xs,ts⟩:=c
            cases hce
            simp[hop,resolve,hv,Deferred.ofValue,invoke]
          · cases hq
        · cases hq
      · cases hq
    · rename_i rr name hce
      unfold eInvoke at hq
      split at hq
      · rename_i hok
        simp only[Bool.and_eq_true,List.all_eq_true] at hok
        have hv:=ev_rel hT hok.1
        split at hq
        · rename_i t v he
          rw[he] at hv
          obtain⟨v',hv,hvv⟩:=vr_iface hv
          split at hq
          · rename_i m d hm hd
            split at hq
            · rename_i hz
              simp only[Bool.and_eq_true,decide_eq_true_eq,Bool.not_eq_true'] at hz
              obtain⟨hp,hnp⟩:=hz
              have hp:m.path.toList=[]:=by simpa using Array.size_eq_zero_iff.1 hp
              split at hq
              · rename_i g hf
                obtain⟨i,hi,him⟩:=Option.bind_eq_some_iff.1 hm
                refine goes g _ (#[v'] ++ c.args.map a.eval) hq ?_ ?_
                · obtain⟨k1,k2⟩:=args_rel (xs:=c.args) hT hok.2
                  refine⟨by simp at k1 ⊢;omega,fun j u u' q1 q2=>?_⟩
                  cases j with
                  | zero =>
                    rw[Array.getElem?_append_left (by simp)] at q2
                    cases q1;cases q2;exact hvv
                  | succ j =>
                    rw[List.getElem?_cons_succ] at q1
                    rw[Array.getElem?_append_right (by simp)] at q2
                    exact k2 j u u' q1 (by simpa using q2)
                · have hmeth:∀ n w1,(method (n + 1) t v' name).run P w1=.ok (g,v') w1:=by
                    intro n w1
                    have hti:(typeInfo t).run P w1=.ok i w1:=by simp[typeInfo,hi]
                    unfold method
                    rw[Sem.run_bind,hti]
                    simp only[Result.andThen_ok,him]
                    rw[hp]
                    simp only[follow,Sem.run_bind,Sem.run_pure,Result.andThen_ok,hf]
                    have hrec:∀ wn,(receiverAt t (.val v') false wn).run P w1=.ok v' w1:=by
                      intro wn
                      unfold receiverAt
                      rw[Sem.run_bind,run_underlying hd w1]
                      simp only[Result.andThen_ok]
                      cases d <;> first|rfl|(cases hnp)
                    rw[hrec]
                    rfl
                  obtain⟨ca,xs,ts⟩:=c
                  cases hce
                  unfold execOp
                  simp only[hop,resolve,hv,invoke,callMethod,Sem.run_bind,Sem.run_pure,Result.andThen_ok,run_program]
                  have h0:∀ ys:Array Value,(#[Value.iface t v'] ++ ys)[0]?=some (.iface t v'):=fun ys=>by rw[Array.getElem?_append_left (by simp)];rfl
                  have h1:∀ ys:Array Value,(#[Value.iface t v'] ++ ys).extract 1=ys:=fun ys=>by apply Array.ext';simp
                  rw[h0]
                  simp only[Sem.run_bind,run_program,Result.andThen_ok]
                  rw[show P.types.size + Made.depth=(P.types.size + 99) + 1 from rfl,hmeth]
                  simp only[Result.andThen_ok,h1]
              · cases hq
            · cases hq
          · cases hq
        · cases hq
      · cases hq
    · cases hq
  · cases hq
theorem put_eq {v:Value} (d:Option Tmp) {β:Type} (k:List Value→β):putT T d v k=k (match d with|none=>T|some d=>T.set d v):=putT_eq T d v k
/-- One operation of a region that does not draw. -/
theorem istep_ok (hK:MapsOk P) (hC:CallOk P call) (hR:HR P M w0 w h) (hT:TR M T a) {T':List Value} {h':Hp} (hs:istep P call ops T h o=some (T',h'))
    (hnext:∀ M' v' w',HR P M' w0 w' h'→Step M w h M' w' h'→TR M' T' (a.put o.dst v')→K (a.put o.dst v') w') :
    if Region.wanted o (yielded ops a.tmps)=true then o.wp P a w K Q∨(o.asks P a w∧LetsOut Q) else K (a.put o.dst undef) w:=by
  unfold istep at hs
  split at hs
  · rename_i hw
    rw[if_pos (want_rel hT hw)]
    left
    split at hs
    · rename_i v rb hr
      rw[put_eq] at hs
      cases hs
      obtain⟨v',hv,hrun⟩:=iread_ok hK hR hT hr
      unfold Oper.wp
      rw[hrun w (fun _ _ _ _=>rfl),Oper.upon_value]
      exact hnext M _ w hR (Step.refl _ _ _) (put_rel hT hv o.dst)
    · split at hs
      · rename_i v h1 he
        rw[put_eq] at hs
        cases hs
        exact ieff_ok hK hC hR hT he fun M' v' w' k1 k2 k3=>hnext M' _ w' k1 k2 (put_rel (hT.mono k2.ext) k3 o.dst)
      · cases hs
  · rename_i hw
    rw[if_neg (by rw[want_rel hT hw];simp)]
    rw[put_eq] at hs
    cases hs
    exact hnext M _ w hR (Step.refl _ _ _) (put_rel hT (.same rfl) o.dst)
  · cases hs
theorem iops_ok (hK:MapsOk P) (hC:CallOk P call):∀ (l:List Oper) (M:Mp) (w:World) (h:Hp) (T:List Value) (a:Act) (T':List Value) (h':Hp),HR P M w0 w h→TR M T a→iops P call ops l T h=some (T',h') →
    (∀ M' a' w',HR P M' w0 w' h'→Step M w h M' w' h'→TR M' T' a'→Q .normal a' w')→wpList P ops Q l a w
  | [],M,w,h,T,a,T',h',hR,hT,hs,hn=>by
    cases hs
    exact hn M a w hR (Step.refl _ _ _) hT
  | o :: rest,M,w,h,T,a,T',h',hR,hT,hs,hn=>by
    unfold iops at hs
    split at hs
    · rename_i T1 h1 he
      exact istep_ok hK hC hR hT he fun M1 v1 w1 k1 k2 k3=>iops_ok hK hC rest M1 w1 h1 T1 _ T' h' k1 k3 hs fun M' a' w' q1 q2 q3=>hn M' a' w' q1 (k2.trans q2) q3
    · cases hs
theorem findTake_some {W:List Nat} {n0:Nat} {listed:Array Bool}:∀ {rs:List Nat} {i:Nat} {o:Oper} {v:Value},findTake P W n0 ops listed T h rs=some (i,o,v)→i∈rs∧Region.free .any ops listed i=true∧ops[i]?=some o∧itake P W n0 ops T h o=some v
  | [],_,_,_,hf=>by cases hf
  | j :: rest,i,o,v,hf=>by
    unfold findTake at hf
    split at hf
    · rename_i r hr
      cases hf
      split at hr
      · rename_i hfree
        split at hr
        · rename_i o' ho
          obtain⟨v',h1,h2⟩:=Option.map_eq_some_iff.1 hr
          cases h2
          exact⟨List.mem_cons_self,hfree,ho,h1⟩
        · cases hr
      · cases hr
    · obtain⟨h1,h2⟩:=findTake_some hf
      exact⟨List.mem_cons_of_mem _ h1,h2⟩
/-- The blocks that a region leaves alone. -/
def Held (M:Mp) (W:List Nat) (n0:Nat) (h:Hp) (w w':World):Prop:=∀ b m,M b=some m→b < n0→h.blk b≠some .dead→b∉W→w'.heap[m.g]?=w.heap[m.g]?
theorem live_some {b:Nat} (hl:h.live b=true):∃ x,h.blk b=some x∧x≠.dead∧(∀ M0 ws w0,HR P M0 w0 ws h→∃ m,M0 b=some m):=by
  unfold Hp.live at hl
  split at hl
  · rename_i e cs hb
    exact⟨_,hb,by simp,fun M0 ws w0 hR=>by obtain⟨m,_,h1,_⟩:=hR.row b e cs hb;exact⟨m,h1⟩⟩
  · rename_i ks hb
    exact⟨_,hb,by simp,fun M0 ws w0 hR=>by obtain⟨m,h1,_⟩:=hR.map b ks hb;exact⟨m,h1⟩⟩
  · cases hl
theorem blk_live {h0:Hp} {b:Nat} (hb:h.blk b=h0.blk b):h.live b=h0.live b:=by unfold Hp.live;rw[hb]
theorem held_of {M':Mp} {w':World} {h':Hp} (hS:Step M w h M' w' h') {W:List Nat} (hwr:h'.wr.all (fun b=>W.contains b || h.n≤b)=true):Held M W h.n h w w':=by
  intro b m hm hlt hd hbW
  refine hS.frame b m hm hlt hd fun h3=>?_
  have:=List.all_eq_true.1 hwr b h3
  simp only[Bool.or_eq_true,List.contains_eq_mem,decide_eq_true_eq] at this
  rcases this with q|q
  · exact hbW q
  · omega
/-- What is taken first yields its value whatever comes between. -/
theorem take_yields (hK:MapsOk P) {W:List Nat} {M0:Mp} {ws:World} {h0:Hp} (hR0:HR P M0 w0 ws h0) (hR:HR P M w0 w h) (hT:TR M T a) (hS:Step M0 ws h0 M w h)
    (hwr:h.wr.all (fun b=>W.contains b || h0.n≤b)=true) {o:Oper} {v:Value} (htk:itake P W h0.n ops T h o=some v) :
    ∃ v',VR M v v'∧YieldsIf P ops (Held M0 W h0.n h0 ws) o v' a:=by
  have hnw:∀ b,b < h0.n→b∉W→b∉h.wr:=by
    intro b h1 h2 h3
    have:=List.all_eq_true.1 hwr b h3
    simp only[Bool.or_eq_true,List.contains_eq_mem,decide_eq_true_eq] at this
    rcases this with q|q
    · exact h2 q
    · omega
  have hheld:Held M0 W h0.n h0 ws w:=fun b m hm hlt hd hbW=>hS.frame b m hm hlt hd (hnw b hlt hbW)
  unfold itake at htk
  split at htk
  · rename_i hw
    have hw':=want_rel hT hw
    split at htk
    · rename_i v1 hr
      cases htk
      obtain⟨v',hv,hrun⟩:=iread_ok hK hR hT hr
      exact⟨v',hv,.inl ⟨hw',fun w' _=>hrun w' (fun b m hb _=>by cases hb)⟩⟩
    · rename_i v1 b hr
      split at htk
      · rename_i hc
        simp only[Bool.and_eq_true,decide_eq_true_eq,Bool.not_eq_true',List.contains_eq_mem,decide_eq_false_iff_not] at hc
        obtain⟨⟨c1,c2⟩,c3⟩:=hc
        cases htk
        obtain⟨v',hv,hrun⟩:=iread_ok hK hR hT hr
        have hbe:=hS.blk b c1 (hnw b c1 c2)
        rw[blk_live hbe] at c3
        obtain⟨x,hx,hxd,hM⟩:=live_some (P:=P) c3
        obtain⟨m0,hm0⟩:=hM M0 ws w0 hR0
        have hd0:h0.blk b≠some .dead:=by rw[hx];intro he;injection he with he;exact hxd he
        refine⟨v',hv,.inl ⟨hw',fun w' hS'=>hrun w' (fun b' m hb hm=>?_)⟩⟩
        cases hb
        have:=hS.ext b m0 hm0
        rw[hm] at this;cases this
        rw[hS' b _ hm0 c1 hd0 c2,hheld b _ hm0 c1 hd0 c2]
      · cases htk
    · cases htk
  · rename_i hw
    cases htk
    exact⟨undef,.same rfl,.inr ⟨want_rel hT hw,rfl⟩⟩
  · cases htk
def wkH (k:WK) (h:Hp):Hp :=
  match k with
  | .alloc e cs _=>⟨.row e cs :: h.heap,h.n + 1,h.wr⟩
  | .read _ _=>h
def wkV (k:WK) (h:Hp):Value :=
  match k with
  | .alloc _ _ l=>vA l h.n
  | .read v _=>v
theorem wkH_wr (k:WK) (h:Hp):(wkH k h).wr=h.wr:=by cases k <;> rfl
/-- What holds while an operation waits; D is what holds once it has come up. -/
structure Waits (P:Program) (w0:World) (ops:Array Oper) (wt:Wt) (Ms:Mp) (w1:World) (h1:Hp) (ac:Act) (D:Mp→World→Hp→Act→Prop):Prop where
  op:ops[wt.j]?=some wt.oj
  guard:wt.oj.guard=none
  dst:wt.oj.dst=some wt.dj
  early:∀ (M:Mp) (w:World) (h:Hp) (a:Act),HR P M w0 w h→Step Ms w1 h1 M w h→wkOk wt.k h=true→(∀ x∈readsT wt.oj,a.eval x=ac.eval x) →
    ∃ v' w',(execOp a.eval wt.oj).run P w=.ok (.value v') w'∧Below w.heap.size w w'∧D M w' h (a.put (some wt.dj) v')
  keep:∀ (M:Mp) (w:World) (h:Hp) (a:Act) (M':Mp) (w':World) (h':Hp) (a':Act),D M w h a→Step M w h M' w' h'→a'.tmps.getD wt.dj undef=a.tmps.getD wt.dj undef→a'.tmps.size=a.tmps.size→D M' w' h' a'
  link:∀ (M:Mp) (w:World) (h:Hp) (T:List Value) (a:Act),HR P M w0 w h→Step Ms w1 h1 M w h→TR M T a→D M w h a →
    ∃ M2,HR P M2 w0 w (wkH wt.k h)∧Step Ms w1 h1 M2 w (wkH wt.k h)∧TR M2 (T.set wt.dj (wkV wt.k h)) a
theorem apartW_put {oj o:Oper} {dj:Tmp} (ha:apartW oj o dj=true) (v:Value):(∀ x∈readsT oj,(a.put o.dst v).eval x=a.eval x)∧(a.put o.dst v).tmps.getD dj undef=a.tmps.getD dj undef∧(a.put o.dst v).tmps.size=a.tmps.size:=by
  unfold apartW at ha
  cases hd:o.dst with
  | none=>exact⟨fun _ _=>rfl,rfl,rfl⟩
  | some d =>
    rw[hd] at ha
    simp only[Bool.and_eq_true,Bool.not_eq_true',List.all_eq_true] at ha
    obtain⟨h1,h2⟩:=ha
    have hget:∀ t,d≠t→(a.tmps.setIfInBounds d v).getD t undef=a.tmps.getD t undef:=fun t ht=>by
      rw[Array.getD_eq_getD_getElem?,Array.getD_eq_getD_getElem?,Array.getElem?_setIfInBounds,if_neg ht]
    refine⟨fun x hx=>?_,hget dj (fun he=>by rw[he] at h1;simp at h1),by simp[Act.put]⟩
    have:=h2 x hx
    cases x with
    | tmp t=>exact hget t (fun he=>by rw[he] at this;simp at this)
    | _=>rfl
theorem TR.junk (hT:TR M T a) (d:Tmp):TR M (T.set d junk) a:=by
  refine⟨by simp[hT.len],fun i=>?_,hT.df⟩
  rw[getL_eq,List.getD_eq_getElem?_getD,List.getElem?_set]
  have hi:=hT.val i
  rw[getL_eq,List.getD_eq_getElem?_getD] at hi
  by_cases hdi:d=i
  · subst hdi
    rw[if_pos rfl]
    by_cases hlt:d < T.length
    · rw[if_pos hlt];exact .junk
    · rw[if_neg hlt]
      have:T[d]?=none:=List.getElem?_eq_none (Nat.le_of_not_lt hlt)
      rw[this] at hi
      exact hi
  · rw[if_neg hdi];exact hi
theorem link_tmps {wt:Wt} (hT:TR M T a) {M':Mp} (hE:Ext M M') {v:Value} (hv:wt.dj < a.tmps.size→VR M' v (a.tmps.getD wt.dj undef)):TR M' (T.set wt.dj v) a:=by
  refine⟨by simp[hT.len],fun i=>?_,hT.df⟩
  rw[getL_eq,List.getD_eq_getElem?_getD,List.getElem?_set]
  have hi:=(hT.val i).mono hE
  rw[getL_eq,List.getD_eq_getElem?_getD] at hi
  by_cases hdi:wt.dj=i
  · subst hdi
    rw[if_pos rfl]
    by_cases hlt:wt.dj < T.length
    · rw[if_pos hlt]
      exact hv (by rw[← hT.len];exact hlt)
    · rw[if_neg hlt]
      have:T[wt.dj]?=none:=List.getElem?_eq_none (Nat.le_of_not_lt hlt)
      rw[this] at hi
      exact hi
  · rw[if_neg hdi];exact hi
theorem waits_alloc {wt:Wt} (hop:ops[wt.j]?=some wt.oj) (hgu:wt.oj.guard=none) (hds:wt.oj.dst=some wt.dj) (hws:w0.heap.size≤w.heap.size) (hT:TR M T a) {e:TypeId} {cs:List Value} {l:Option Nat} (hk:wt.k=.alloc e cs l)
    (hp:prep P T h wt.oj=some (e,cs,l)):∃ D,Waits P w0 ops wt M w h a D:=by
  obtain⟨sz,cs',g1,g2,g3,g4,g5,g6⟩:=prep_ok hT hp
  refine⟨fun M2 w2 h2 a2=>∃ g,g < w2.heap.size∧w.heap.size≤g∧Strange M2 h2 g∧w2.heap[g]?=some (.cells cs' e (0,0))∧(wt.dj < a2.tmps.size→a2.tmps.getD wt.dj undef=vC l g),hop,hgu,hds,?_,?_,?_⟩
  · intro M2 w2 h2 a2 hR hS _ hrd
    refine⟨_,_,g6 a2 hrd w2,alloc_below w2 _,w2.heap.size,(Array.getElem?_eq_some_iff.1 (heap_alloc_new w2 (.cells cs' e))).1,hS.size,?_,heap_alloc_new w2 _,?_⟩
    · intro b m hm hd he
      have:=hR.live_lt hm hd
      omega
    · intro hlt
      have hlt':wt.dj < a2.tmps.size:=by simpa [Act.put] using hlt
      simp[Act.put,Array.getD,hlt']
  · rintro M2 w2 h2 a2 M3 w3 h3 a3 ⟨g,q1,q2,q3,q4,q5⟩ hS ht hs
    obtain⟨k1,k2⟩:=hS.str g q1 q3
    exact⟨g,Nat.lt_of_lt_of_le q1 hS.size,q2,k2,k1.trans q4,fun hlt=>by rw[ht];exact q5 (by rw[← hs];exact hlt)⟩
  · rintro M2 w2 h2 T2 a2 hR hS hT2 ⟨g,q1,q2,q3,q4,q5⟩
    have hrows:∀ (i:Nat) (v:Value),cs[i]?=some v→∃ v',cs'[i]?=some v'∧VR M2 v v'∧v'.oneCell'=true:=by
      intro i v hi
      have hlt:i < cs'.size:=by rw[← g3];exact (List.getElem?_eq_some_iff.1 hi).1
      have h2:cs'[i]?=some cs'[i]:=Array.getElem?_eq_getElem hlt
      have h3:=(g4 i v _ hi h2).mono hS.ext
      exact⟨_,h2,h3,one_rel h3 (g2 v (List.mem_of_getElem? hi))⟩
    refine⟨ins M2 h2.n ⟨g,sz,cs'.size⟩,?_,?_,?_⟩
    · rw[hk];exact hR.link (Nat.le_trans hws q2) q3 q4 g1 hrows
    · rw[hk];exact hS.link hR q2
    · refine link_tmps hT2 (ext_ins hR.none_at) fun hlt=>?_
      rw[q5 hlt,hk]
      exact vA_rel (m:=⟨g,sz,cs'.size⟩) (by unfold ins;rw[if_pos rfl]) g5
theorem waits_read (hK:MapsOk P) {wt:Wt} (hop:ops[wt.j]?=some wt.oj) (hgu:wt.oj.guard=none) (hds:wt.oj.dst=some wt.dj) (hR:HR P M w0 w h) (hT:TR M T a) {t:TypeId} {x:Operand} {v:Value} {b:Nat} (hk:wt.k=.read v b) (hl:wt.oj.op=.load t x)
    (hr:iread P T h wt.oj=some (v,some b)) (hlive:h.live b=true):∃ D,Waits P w0 ops wt M w h a D:=by
  obtain⟨v',hv,hrun⟩:=iread_ok hK hR hT hr
  obtain⟨y,hy,hyd,hM⟩:=live_some (P:=P) hlive
  obtain⟨m,hm⟩:=hM M w w0 hR
  have hd:h.blk b≠some .dead:=by rw[hy];intro he;injection he with he;exact hyd he
  refine⟨fun _ _ _ a2=>wt.dj < a2.tmps.size→a2.tmps.getD wt.dj undef=v',hop,hgu,hds,?_,?_,?_⟩
  · intro M2 w2 h2 a2 hR2 hS hok hrd
    rw[hk] at hok
    have hok:b∉h2.wr:=by simpa [wkOk] using hok
    have hex:(execOp a2.eval wt.oj).run P w2=(execOp a.eval wt.oj).run P w2:=by
      unfold execOp
      simp only[hl]
      rw[hrd x (by unfold readsT;rw[hl];exact List.mem_singleton_self x)]
    refine⟨v',w2,hex.trans (hrun w2 fun b' m' hb hm'=>?_),Below.refl _ _,fun hlt=>?_⟩
    · cases hb
      rw[hm] at hm';cases hm'
      exact hS.frame b m hm (hR.dom b m hm) hd hok
    · have hlt':wt.dj < a2.tmps.size:=by simpa [Act.put] using hlt
      simp[Act.put,Array.getD,hlt']
  · intro M2 w2 h2 a2 M3 w3 h3 a3 hD _ ht hs hlt
    rw[ht];exact hD (by rw[← hs];exact hlt)
  · intro M2 w2 h2 T2 a2 hR2 hS hT2 hD
    refine⟨M2,by rw[hk];exact hR2,by rw[hk];exact hS,link_tmps hT2 (Ext.refl _) fun hlt=>?_⟩
    rw[hD hlt,hk]
    exact hv.mono hS.ext
section draw
variable (P ops Q call w0) (W : List Nat) (M0 : Mp) (ws : World) (h0 : Hp)
def WrOk (h:Hp):Prop:=h.wr.all (fun b=>W.contains b || h0.n≤b)=true
def PN (k:Nat):Prop:=∀ (listed:Array Bool) (M:Mp) (w:World) (h:Hp) (T:List Value) (a:Act) (T':List Value) (h':Hp),HR P M w0 w h→TR M T a→Step M0 ws h0 M w h→WrOk W h0 h →
  idraw P call W h0.n ops (k + 1) none listed T h=some (T',h') →
  (∀ M' a' w',HR P M' w0 w' h'→Step M w h M' w' h'→TR M' T' a'→Q .normal a' w')→wpAnyH P .any ops Q (Held M0 W h0.n h0 ws) k listed a w
def PA (k:Nat):Prop:=∀ (wt:Wt) (Ms:Mp) (w1:World) (h1:Hp) (ac:Act) (D:Mp→World→Hp→Act→Prop) (T':List Value) (h':Hp),Waits P w0 ops wt Ms w1 h1 ac D→Step M0 ws h0 Ms w1 h1 →
  (∀ M' a' w',HR P M' w0 w' h'→Step Ms w1 h1 M' w' h'→TR M' T' a'→Q .normal a' w') →
  ∀ (listed:Array Bool) (M:Mp) (w:World) (h:Hp) (T:List Value) (a:Act),HR P M w0 w h→TR M T a→Step Ms w1 h1 M w h→WrOk W h0 h→wkOk wt.k h=true→(∀ x∈readsT wt.oj,a.eval x=ac.eval x)→T.set wt.dj junk=T →
  idraw P call W h0.n ops (k + 1) (some wt) listed T h=some (T',h')→wpAnyH P .any ops Q (Held M0 W h0.n h0 ws) k listed a w
def PB (k:Nat):Prop:=∀ (wt:Wt) (Ms:Mp) (w1:World) (h1:Hp) (ac:Act) (D:Mp→World→Hp→Act→Prop) (T':List Value) (h':Hp),Waits P w0 ops wt Ms w1 h1 ac D→Step M0 ws h0 Ms w1 h1 →
  (∀ M' a' w',HR P M' w0 w' h'→Step Ms w1 h1 M' w' h'→TR M' T' a'→Q .normal a' w') →
  ∀ (listed:Array Bool) (M:Mp) (w:World) (h:Hp) (T:List Value) (a:Act),HR P M w0 w h→TR M T a→Step Ms w1 h1 M w h→WrOk W h0 h→D M w h a →
  idraw P call W h0.n ops (k + 2) (some wt) listed T h=some (T',h')→wpAnyH P .any ops Q (Held M0 W h0.n h0 ws) k (listed.setIfInBounds wt.j true) a w
end draw
section draws
variable {W : List Nat} {M0 : Mp} {ws : World} {h0 : Hp}
theorem pn_zero:PN P w0 ops Q call W M0 ws h0 0:=by
  intro listed M w h T a T' h' hR hT hS hwr hs hn
  change idrawF P call W h0.n ops (idraw P call W h0.n ops 0) none listed T h=_ at hs
  unfold idrawF at hs
  simp only at hs
  split at hs
  · rename_i hrd
    cases hs
    exact wpAnyH_done hrd (hn M a w hR (Step.refl _ _ _) hT) 0
  · exfalso
    split at hs
    · rw[put_eq] at hs;cases hs
    · split at hs
      · split at hs
        · split at hs
          · split at hs <;> cases hs
          · cases hs
        · cases hs
      · split at hs
        · rw[setL_eq] at hs
          unfold waitStep at hs
          split at hs
          · split at hs <;> first|(unfold Hp.new at hs;simp only[forceN_eq,put_eq] at hs;cases hs)|(rw[put_eq] at hs;cases hs)
          · split at hs
            · split at hs
              · split at hs
                · rw[put_eq] at hs;cases hs
                · cases hs
              · split at hs
                · split at hs
                  · split at hs
                    · split at hs
                      · split at hs <;> cases hs
                      · cases hs
                    · cases hs
                  · cases hs
                · cases hs
            · cases hs
        · cases hs
theorem wait_none {wt:Wt} {listed:Array Bool} {T:List Value} {h:Hp} {r:List Value × Hp} (hs:idraw P call W h0.n ops 1 (some wt) listed T h=some r):False:=by
  change waitStep P call W h0.n ops (fun _ _ _ _=>none) wt listed T h=_ at hs
  unfold waitStep at hs
  split at hs
  · split at hs <;> first|(unfold Hp.new at hs;simp only[forceN_eq,put_eq] at hs;cases hs)|(rw[put_eq] at hs;cases hs)
  · split at hs
    · split at hs
      · split at hs
        · rw[put_eq] at hs;cases hs
        · cases hs
      · split at hs
        · split at hs
          · split at hs
            · split at hs
              · split at hs <;> cases hs
              · cases hs
            · cases hs
          · cases hs
        · cases hs
    · cases hs
theorem pa_zero:PA P w0 ops Q call W M0 ws h0 0:=by
  intro wt Ms w1 h1 ac D T' h' hW hS0 hn listed M w h T a hR hT hS hwr hok hrd _ hs
  exact absurd hs (fun hs=>wait_none hs)
theorem link_go {k:Nat} {wt:Wt} {listed:Array Bool} {r:List Value × Hp} (hs:(match wt.k with
    | .alloc e cs l=>h.new (.row e cs) fun h'=>putT T (some wt.dj) (vA l h.n) fun T'=>idraw P call W h0.n ops k none (listed.setIfInBounds wt.j true) T' h'
    | .read v _=>putT T (some wt.dj) v fun T'=>idraw P call W h0.n ops k none (listed.setIfInBounds wt.j true) T' h)=some r) :
    idraw P call W h0.n ops k none (listed.setIfInBounds wt.j true) (T.set wt.dj (wkV wt.k h)) (wkH wt.k h)=some r:=by
  cases hk:wt.k with
  | alloc e cs l =>
    rw[hk] at hs
    unfold Hp.new at hs
    simp only[forceN_eq,put_eq] at hs
    exact hs
  | read v b =>
    rw[hk] at hs
    simp only[put_eq] at hs
    exact hs
/-- The waiting operation comes up. -/
theorem wait_runs {wt:Wt} {Ms:Mp} {w1:World} {h1:Hp} {ac:Act} {D:Mp→World→Hp→Act→Prop} (hW:Waits P w0 ops wt Ms w1 h1 ac D) (hR:HR P M w0 w h) (hS:Step Ms w1 h1 M w h) (hok:wkOk wt.k h=true) (hrd:∀ x∈readsT wt.oj,a.eval x=ac.eval x)
    (hk:∀ v' w',Below w.heap.size w w'→D M w' h (a.put (some wt.dj) v')→K (a.put (some wt.dj) v') w'):wpOp P ops Q wt.j K a w:=by
  unfold wpOp
  simp only[hW.op]
  have hwt:Region.wanted wt.oj (yielded ops a.tmps)=true:=by unfold Region.wanted;rw[hW.guard]
  rw[if_pos hwt]
  left
  obtain⟨v',w',e1,e2,e3⟩:=hW.early M w h a hR hS hok hrd
  unfold Oper.wp
  rw[e1,Oper.upon_value,hW.dst]
  exact hk v' w' e2 e3
theorem set_comm' {l:Array Bool} {i j:Nat} (hne:i≠j):(l.setIfInBounds j true).setIfInBounds i true=(l.setIfInBounds i true).setIfInBounds j true :=
  Array.setIfInBounds_comm true true (Ne.symm hne)
/-- One more operation comes up while the allocation waits. -/
theorem pb_go (hK:MapsOk P) (hC:CallOk P call) (hsel:Region.noSelect ops=true) (hR0:HR P M0 w0 ws h0) (hQ:∀ c a w,¬ Q (.panic c) a w) {k:Nat} (hN:PN P w0 ops Q call W M0 ws h0 k)
    (hB:∀ k',k=k' + 1→PB P w0 ops Q call W M0 ws h0 k'):PB P w0 ops Q call W M0 ws h0 k:=by
  intro wt Ms w1 h1 ac D T' h' hW hS0 hn listed M w h T a hR hT hS hwr hD hs
  have hheld:Held M0 W h0.n h0 ws w:=held_of (hS0.trans hS) hwr
  change waitStep P call W h0.n ops (idraw P call W h0.n ops (k + 1)) wt listed T h=_ at hs
  unfold waitStep at hs
  split at hs
  · rename_i hrd
    replace hs:=link_go hs
    obtain⟨M2,hR2,hS2,hT2⟩:=hW.link M w h T a hR hS hT hD
    exact hN _ _ w _ _ a T' h' hR2 hT2 (hS0.trans hS2) (by unfold WrOk;rw[wkH_wr];exact hwr) hs fun M' a' w' k1 k2 k3=>hn M' a' w' k1 (hS2.trans k2) k3
  · split at hs
    · rename_i hrdj
      split at hs
      · rename_i i o v hf
        obtain⟨hmem,hfree,hio,htk⟩:=findTake_some hf
        split at hs
        · rename_i hc
          simp only[Bool.and_eq_true] at hc
          rw[put_eq] at hs
          cases k with
          | zero=>exact absurd hs (fun hs=>wait_none hs)
          | succ k =>
            obtain⟨v',hv,hy⟩:=take_yields hK hR0 hR hT (hS0.trans hS) hwr htk (ops:=ops)
            have hij:i≠wt.j:=by
              have:=(List.mem_filter.1 hmem).2
              intro he;rw[he] at this;simp at this
            obtain⟨p1,p2,p3⟩:=apartW_put (a:=a) hc.2 v'
            refine wpAnyH_take hio hsel hc.1 (by rw[hrdj];simpa using List.mem_filter.1 hmem) (fun c a' w' hq=>absurd hq (hQ c _ _)) hy hheld ?_
            rw[set_comm' hij]
            exact hB k rfl wt Ms w1 h1 ac D T' h' hW hS0 hn _ M w h _ _ hR (put_rel hT hv o.dst) hS hwr (hW.keep M w h a M w h _ hD (Step.refl _ _ _) p2 p3) hs
        · cases hs
      · split at hs
        · rename_i i hrdi
          split at hs
          · rename_i o hio
            split at hs
            · rename_i hap
              split at hs
              · rename_i T1 h2 he
                split at hs
                · rename_i hw1
                  simp only[Bool.and_eq_true] at hw1
                  cases k with
                  | zero=>exact absurd hs (fun hs=>wait_none hs)
                  | succ k =>
                    have hij:i≠wt.j:=by
                      have:i∈(Region.ready .any ops listed).filter (fun i=>!Nat.beq i wt.j):=by rw[hrdi];exact List.mem_singleton_self i
                      have:=(List.mem_filter.1 this).2
                      intro he;rw[he] at this;simp at this
                    refine wpAnyH_all (hrdj.trans hrdi) (by simp) fun j hj=>?_
                    obtain rfl:j=i:=List.mem_singleton.1 hj
                    unfold wpOp
                    simp only[hio]
                    refine istep_ok hK hC hR hT he fun M1 v1 w2 k1 k2 k3=>?_
                    obtain⟨p1,p2,p3⟩:=apartW_put (a:=a) hap v1
                    refine⟨held_of (hS0.trans (hS.trans k2)) hw1.1,?_⟩
                    rw[set_comm' hij]
                    exact hB k rfl wt Ms w1 h1 ac D T' h' hW hS0 hn _ M1 w2 h2 T1 _ k1 k3 (hS.trans k2) hw1.1 (hW.keep M w h a M1 w2 h2 _ hD k2 p2 p3) hs
                · cases hs
              · cases hs
            · cases hs
          · cases hs
        · cases hs
    · cases hs
theorem istep_T {T':List Value} {h':Hp} (hs:istep P call ops T h o=some (T',h')):∃ v,T'=match o.dst with|none=>T|some d=>T.set d v:=by
  unfold istep at hs
  split at hs
  · split at hs
    · rename_i v rb hr
      rw[put_eq] at hs
      cases hs;exact⟨v,rfl⟩
    · split at hs
      · rename_i v h1 he
        rw[put_eq] at hs
        cases hs;exact⟨v,rfl⟩
      · cases hs
  · rw[put_eq] at hs
    cases hs;exact⟨undef,rfl⟩
  · cases hs
theorem junk_put {oj o:Oper} {dj:Tmp} (ha:apartW oj o dj=true) (hJ:T.set dj junk=T) (v:Value):(match o.dst with|none=>T|some d=>T.set d v).set dj junk=match o.dst with|none=>T|some d=>T.set d v:=by
  unfold apartW at ha
  cases hd:o.dst with
  | none=>exact hJ
  | some d =>
    rw[hd] at ha
    simp only[Bool.and_eq_true,Bool.not_eq_true'] at ha
    have hne:d≠dj:=fun he=>by have:=ha.1;rw[he] at this;simp at this
    show (T.set d v).set dj junk=T.set d v
    rw[List.set_comm _ _ hne,hJ]
/-- The waiting operation is carried out, with others still to come. -/
theorem wait_now {k:Nat} (hB:PB P w0 ops Q call W M0 ws h0 k) {wt:Wt} {Ms:Mp} {w1:World} {h1:Hp} {ac:Act} {D:Mp→World→Hp→Act→Prop} {T':List Value} {h':Hp} (hW:Waits P w0 ops wt Ms w1 h1 ac D) (hS0:Step M0 ws h0 Ms w1 h1)
    (hn:∀ M' a' w',HR P M' w0 w' h'→Step Ms w1 h1 M' w' h'→TR M' T' a'→Q .normal a' w') (hS:Step Ms w1 h1 M w h) (hR:HR P M w0 w h) (hT:TR M T a) (hwr:WrOk W h0 h) (hok:wkOk wt.k h=true)
    (hrd:∀ x∈readsT wt.oj,a.eval x=ac.eval x) (hJ:T.set wt.dj junk=T) {listed:Array Bool} (hs:idraw P call W h0.n ops (k + 2) (some wt) listed T h=some (T',h')) :
    wpOp P ops Q wt.j (fun a' w'=>Held M0 W h0.n h0 ws w'∧wpAnyH P .any ops Q (Held M0 W h0.n h0 ws) k (listed.setIfInBounds wt.j true) a' w') a w:=by
  refine wait_runs hW hR hS hok hrd fun v' w' hBl hD=>?_
  obtain⟨k1,k2⟩:=hR.lift hBl
  refine⟨held_of (hS0.trans (hS.trans k2)) hwr,?_⟩
  have hT2:TR M T (a.put (some wt.dj) v'):=by
    have h3:TR M (T.set wt.dj junk) (a.put (some wt.dj) v'):=put_rel hT (v:=junk) (v':=v') .junk (some wt.dj)
    rwa [hJ] at h3
  exact hB wt Ms w1 h1 ac D T' h' hW hS0 hn listed M _ h T _ k1 hT2 (hS.trans k2) hwr hD hs
theorem pa_go (hK:MapsOk P) (hC:CallOk P call) (hsel:Region.noSelect ops=true) (hR0:HR P M0 w0 ws h0) (hQ:∀ c a w,¬ Q (.panic c) a w) {k:Nat} (hN:PN P w0 ops Q call W M0 ws h0 k)
    (hA:PA P w0 ops Q call W M0 ws h0 k) (hB:PB P w0 ops Q call W M0 ws h0 k):PA P w0 ops Q call W M0 ws h0 (k + 1):=by
  intro wt Ms w1 h1 ac D T' h' hW hS0 hn listed M w h T a hR hT hS hwr hok hrd hJ hs
  have hs0:=hs
  have hheld:Held M0 W h0.n h0 ws w:=held_of (hS0.trans hS) hwr
  change waitStep P call W h0.n ops (idraw P call W h0.n ops (k + 1)) wt listed T h=_ at hs
  unfold waitStep at hs
  split at hs
  · rename_i hrdy
    replace hs:=link_go hs
    refine wpAnyH_all hrdy (by simp) fun j hj=>?_
    obtain rfl:j=wt.j:=List.mem_singleton.1 hj
    refine wait_runs hW hR hS hok hrd fun v' w' hBl hD=>?_
    obtain⟨k1,k2⟩:=hR.lift hBl
    refine⟨held_of (hS0.trans (hS.trans k2)) hwr,?_⟩
    have hT2:TR M T (a.put (some wt.dj) v'):=by
      have h3:TR M (T.set wt.dj junk) (a.put (some wt.dj) v'):=put_rel hT (v:=junk) (v':=v') .junk (some wt.dj)
      rwa [hJ] at h3
    obtain⟨M2,hR2,hS2,hT3⟩:=hW.link M w' h T _ k1 (hS.trans k2) hT2 hD
    exact hN _ _ _ _ _ _ T' h' hR2 hT3 (hS0.trans hS2) (by unfold WrOk;rw[wkH_wr];exact hwr) hs fun M' a' w2 q1 q2 q3=>hn M' a' w2 q1 (hS2.trans q2) q3
  · split at hs
    · rename_i hrdj
      split at hs
      · rename_i i o v hf
        obtain⟨hmem,hfree,hio,htk⟩:=findTake_some hf
        split at hs
        · rename_i hc
          simp only[Bool.and_eq_true] at hc
          rw[put_eq] at hs
          obtain⟨v',hv,hy⟩:=take_yields hK hR0 hR hT (hS0.trans hS) hwr htk (ops:=ops)
          obtain⟨p1,p2,p3⟩:=apartW_put (a:=a) hc.2 v'
          refine wpAnyH_take hio hsel hfree (by simpa using (List.mem_filter.1 hmem).1) (fun c a' w' hq=>absurd hq (hQ c _ _)) hy hheld ?_
          exact hA wt Ms w1 h1 ac D T' h' hW hS0 hn _ M w h _ _ hR (put_rel hT hv o.dst) hS hwr hok (fun x hx=>(p1 x hx).trans (hrd x hx)) (junk_put hc.2 hJ v) hs
        · cases hs
      · split at hs
        · rename_i i hrdi
          split at hs
          · rename_i o hio
            split at hs
            · rename_i hap
              split at hs
              · rename_i T1 h2 he
                split at hs
                · rename_i hw1
                  simp only[Bool.and_eq_true] at hw1
                  have hne:Region.ready .any ops listed≠[]:=fun h0=>by rw[h0] at hrdi;cases hrdi
                  refine wpAnyH_all rfl hne fun j hj=>?_
                  by_cases hjj:j=wt.j
                  · subst hjj
                    exact wait_now hB hW hS0 hn hS hR hT hwr hok hrd hJ hs0
                  · have hjm:j∈(Region.ready .any ops listed).filter (fun i=>!Nat.beq i wt.j):=List.mem_filter.2 ⟨hj,by
                      cases hb:Nat.beq j wt.j with
                      | false=>rfl
                      | true=>exact absurd (Nat.eq_of_beq_eq_true hb) hjj⟩
                    rw[hrdi] at hjm
                    obtain rfl:j=i:=List.mem_singleton.1 hjm
                    unfold wpOp
                    simp only[hio]
                    refine istep_ok hK hC hR hT he fun M1 v1 w2 k1 k2 k3=>?_
                    obtain⟨p1,p2,p3⟩:=apartW_put (a:=a) hap v1
                    obtain⟨u,hu⟩:=istep_T he
                    refine⟨held_of (hS0.trans (hS.trans k2)) hw1.1,?_⟩
                    exact hA wt Ms w1 h1 ac D T' h' hW hS0 hn _ M1 w2 h2 T1 _ k1 k3 (hS.trans k2) hw1.1 hw1.2 (fun x hx=>(p1 x hx).trans (hrd x hx)) (by rw[hu];exact junk_put hap hJ u) hs
                · cases hs
              · cases hs
            · cases hs
          · cases hs
        · cases hs
    · cases hs
theorem findWait_some (hK:MapsOk P) {wt:Wt} {listed:Array Bool} (hR:HR P M w0 w h) (hT:TR M T a) (hws:w0.heap.size≤w.heap.size):∀ {rs:List Nat},findWait P ops listed T h rs=some wt→(∃ D,Waits P w0 ops wt M w h a D)∧wkOk wt.k h=true
  | [],hf=>by cases hf
  | j :: rest,hf=>by
    unfold findWait at hf
    split at hf
    · rename_i w1 hw
      cases hf
      exact findWait_some hK hR hT hws hw
    · split at hf
      · split at hf
        · rename_i oj hoj
          split at hf
          · rename_i dj hg hd
            split at hf
            · rename_i e cs l hp
              cases hf
              exact⟨waits_alloc (wt:=⟨j,oj,dj,.alloc e cs l⟩) hoj hg hd hws hT rfl hp,rfl⟩
            · split at hf
              · rename_i t x hl
                split at hf
                · rename_i v b hr
                  split at hf
                  · rename_i hc
                    cases hf
                    simp only[Bool.and_eq_true] at hc
                    exact⟨waits_read hK (wt:=⟨j,oj,dj,.read v b⟩) hoj hg hd hR hT rfl hl hr hc.1,hc.2⟩
                  · cases hf
                · cases hf
              · cases hf
          · cases hf
        · cases hf
      · cases hf
theorem pn_go (hK:MapsOk P) (hC:CallOk P call) (hsel:Region.noSelect ops=true) (hR0:HR P M0 w0 ws h0) (hQ:∀ c a w,¬ Q (.panic c) a w) {k:Nat} (hN:PN P w0 ops Q call W M0 ws h0 k)
    (hA:PA P w0 ops Q call W M0 ws h0 (k + 1)):PN P w0 ops Q call W M0 ws h0 (k + 1):=by
  intro listed M w h T a T' h' hR hT hS hwr hs hn
  have hheld:Held M0 W h0.n h0 ws w:=held_of hS hwr
  change idrawF P call W h0.n ops (idraw P call W h0.n ops (k + 1)) none listed T h=_ at hs
  unfold idrawF at hs
  simp only at hs
  split at hs
  · rename_i hrd
    cases hs
    exact wpAnyH_done hrd (hn M a w hR (Step.refl _ _ _) hT) _
  · rename_i rs hne
    split at hs
    · rename_i i o v hf
      rw[put_eq] at hs
      obtain⟨hmem,hfree,hio,htk⟩:=findTake_some hf
      obtain⟨v',hv,hy⟩:=take_yields hK hR0 hR hT hS hwr htk (ops:=ops)
      exact wpAnyH_take hio hsel hfree (by simpa using hmem) (fun c a' w' hq=>absurd hq (hQ c _ _)) hy hheld
        (hN _ M w h _ _ T' h' hR (put_rel hT hv o.dst) hS hwr hs hn)
    · split at hs
      · rename_i i hrd
        split at hs
        · rename_i o hio
          split at hs
          · rename_i T1 h1 he
            split at hs
            · rename_i hw1
              refine wpAnyH_all rfl (by rw[hrd];simp) fun j hj=>?_
              rw[hrd] at hj
              obtain rfl:j=i:=List.mem_singleton.1 hj
              unfold wpOp
              simp only[hio]
              refine istep_ok hK hC hR hT he fun M1 v1 w1 k1 k2 k3=>?_
              exact⟨held_of (hS.trans k2) hw1,hN _ M1 w1 h1 T1 _ T' h' k1 k3 (hS.trans k2) hw1 hs fun M' a' w' q1 q2 q3=>hn M' a' w' q1 (k2.trans q2) q3⟩
            · cases hs
          · cases hs
        · cases hs
      · split at hs
        · rename_i wt hwt
          rw[setL_eq] at hs
          obtain⟨⟨D,hW⟩,hok⟩:=findWait_some (a:=a) hK hR hT hR.below.size hwt
          exact hA wt M w h a D T' h' hW hS hn listed M w h _ a hR (hT.junk wt.dj) (Step.refl _ _ _) hwr hok (fun _ _=>rfl) (by rw[List.set_set]) hs
        · cases hs
theorem draw_all (hK:MapsOk P) (hC:CallOk P call) (hsel:Region.noSelect ops=true) (hR0:HR P M0 w0 ws h0) (hQ:∀ c a w,¬ Q (.panic c) a w):∀ k,PN P w0 ops Q call W M0 ws h0 k∧PA P w0 ops Q call W M0 ws h0 k∧PB P w0 ops Q call W M0 ws h0 k
  | 0=>⟨pn_zero,pa_zero,pb_go hK hC hsel hR0 hQ pn_zero fun _ h=>by cases h⟩
  | k + 1=>by
    obtain⟨h1,h2,h3⟩:=draw_all hK hC hsel hR0 hQ k
    have hA:=pa_go hK hC hsel hR0 hQ h1 h2 h3
    have hN:=pn_go hK hC hsel hR0 hQ h1 hA
    exact⟨hN,hA,pb_go hK hC hsel hR0 hQ hN fun k' h=>by cases h;exact h3⟩
end draws
theorem idraw_ok (hK:MapsOk P) (hC:CallOk P call) (hsel:Region.noSelect ops=true) {W:List Nat} {M0:Mp} {ws:World} {h0:Hp} (hR0:HR P M0 w0 ws h0) (hQ:∀ c a w,¬ Q (.panic c) a w) (k:Nat) (listed:Array Bool) (M:Mp) (w:World) (h:Hp) (T:List Value) (a:Act) (T':List Value) (h':Hp) (hR:HR P M w0 w h) (hT:TR M T a) (hS:Step M0 ws h0 M w h) (hwr:h.wr.all (fun b=>W.contains b || h0.n≤b)=true)
    (hs:idraw P call W h0.n ops (k + 1) none listed T h=some (T',h'))
    (hn:∀ M' a' w',HR P M' w0 w' h'→Step M w h M' w' h'→TR M' T' a'→Q .normal a' w'):wpAnyH P .any ops Q (Held M0 W h0.n h0 ws) k listed a w :=
  (draw_all hK hC hsel hR0 hQ k).1 listed M w h T a T' h' hR hT hS hwr hs hn
end Go.AI
namespace Go.AI
open Go Go.Proofs.YtjbeoidhbbjcmaaGreat
open Go.RowKit (Below)
variable {P : Program} {M : Mp} {w0 w : World} {h : Hp} {T : List Value} {a : Act} {o : Oper} {tab ext : FuncId → List Value → Option Value}
structure Env (P:Program) (tab ext:FuncId→List Value→Option Value):Prop where
  maps:MapsOk P
  orders:P.follows .mixedOrders=true
  names : ∀ (g : FuncId) (fn : Func), P.funcs[g]? = some fn → (fn.name == "runtime.NumGoroutine") = false
  tab_ok:∀ f args v,tab f args=some v→(∀ x∈args,flat x=true)∧flat v=true∧(∃ fn,P.funcs[f]?=some fn∧fn.body.isNone=false)∧∀ w,Calls P f args.toArray w fun e w'=>e=.returned v∧Below w.heap.size w w'
  ext_ok:∀ f args v,ext f args=some v→(∀ x∈args,flat x=true)∧flat v=true∧∀ w,(callFunc f args.toArray).run P w=.ok (.value v) w
def Ends:X→Exit→Prop
  | .normal,e=>e=.normal
  | .exit id,e=>e=.exit id
  | .ret,e=>e=.ret
def Post (P:Program) (M:Mp) (w0 w:World) (h:Hp) (r:X × List Value × Hp):Exit→Act→World→Prop :=
  fun e a' w'=>Ends r.1 e∧∃ M',HR P M' w0 w' r.2.2∧Step M w h M' w' r.2.2∧TR M' r.2.1 a'
theorem flat_args {args:List Value} {args':Array Value} (hA:AR M args args') (hf:∀ x∈args,flat x=true):args'=args.toArray:=by
  apply Array.ext_getElem?
  intro i
  by_cases hi:i < args.length
  · have h1:args[i]?=some args[i]:=List.getElem?_eq_getElem hi
    have h2 : args'[i]? = some (args'[i]'(by rw [← hA.1]; exact hi)) := Array.getElem?_eq_getElem (by rw [← hA.1]; exact hi)
    have:=VR.flat_eq (hf _ (List.getElem_mem hi)) (hA.2 i _ _ h1 h2)
    rw[h2,this]
    simp[hi]
  · rw[Array.getElem?_eq_none (by rw[← hA.1];omega),Array.getElem?_eq_none (by simp;omega)]
theorem enter_run (hE:Env P tab ext) {g:FuncId} {fn:Func} (hf:P.funcs[g]?=some fn) (hb:fn.body.isNone=false) (args:Array Value) (w:World):(callFunc g args).run P w=.ok (.enter g args) w:=by
  unfold callFunc
  simp only[Sem.run_bind,run_program,Result.andThen_ok,hf]
  rw[if_neg (by rw[hE.names g fn hf];simp),if_neg (by rw[hb];simp)]
  rfl
def resSem (a:Act):ResultVar→Sem Value
  | .tmp t=>pure (a.tmps.getD t undef)
  | .cell b t=>do loadVar t (← asAddr (a.tmps.getD b undef))
theorem resOne_ok (hR:HR P M w0 w h) (hT:TR M T a) {v:Value}:∀ {rv:ResultVar},resOne P T h rv=some v→∃ v',VR M v v'∧(resSem a rv).run P w=.ok v' w
  | .tmp t,hr=>by
    cases hr
    exact⟨_,hT.val t,rfl⟩
  | .cell t ty,hr=>by
    change resCell P h ty (getL T t)=some v at hr
    unfold resCell at hr
    have hv:=hT.val t
    split at hr
    · rename_i b off he
      rw[he] at hv
      obtain⟨m,hm,hv⟩:=vr_ptr hv
      have hgo:∀ v':Value,(Instr.loadAt ty (.pointer (some ⟨m.g,off,none⟩))).run P w=.ok v' w→(resSem a (.cell t ty)).run P w=.ok v' w:=by
        intro v' h1
        show (do loadVar ty (← asAddr (a.tmps.getD t undef)):Sem Value).run P w=.ok v' w
        rw[hv]
        simpa [Instr.loadAt,Instr.sureAddr,asAddr] using h1
      have hload:rLoad P [.pointer (some ⟨b,off,none⟩)] h ty (.tmp 0)=some (v,some b):=by
        show (match isAggT P ty,sizeT P ty with
          | some true,some n=>match cellsAt h b off n with|some l=>forceL l fun l=>some (Value.agg l.toArray,some b)|none=>none
          | some false,_=>match cellsAt h b off 1 with|some [v]=>some (v,some b)|_=>none
          | _,_=>none)=some (v,some b)
        split at hr
        · rename_i n h1 h2
          rw[h1,h2]
          split at hr
          · rename_i l hl
            rw[forceL_eq] at hr
            cases hr
            simp only[hl,forceL_eq]
          · cases hr
        · rename_i h1
          rw[h1]
          split at hr
          · rename_i u hu
            cases hr
            simp only[hu]
          · cases hr
        · cases hr
      have hT1:TR M [.pointer (some ⟨b,off,none⟩)] ⟨#[.pointer (some ⟨m.g,off,none⟩)],[]⟩:=by
        refine⟨rfl,fun i=>?_,rfl⟩
        cases i with
        | zero=>exact .ptr hm
        | succ i=>exact .same rfl
      obtain ⟨v', hvv, hrun⟩ := load_ok (o := ⟨none, .load ty (.tmp 0), 0, "", #[], none⟩) hR hT1 rfl hload
      refine⟨v',hvv,hgo v' ?_⟩
      have h1:=hrun w (fun _ _ _ _=>rfl)
      have h2:∀ s:Sem Value,(do pure (Next.value (← s)):Sem Next).run P w=.ok (.value v') w→s.run P w=.ok v' w:=by
        intro s hs
        rw[Sem.run_bind] at hs
        cases hq:s.run P w with
        | ok x w1=>rw[hq] at hs;simp only[Result.andThen_ok,Sem.run_pure] at hs;cases hs;rfl
        | halt x w1=>rw[hq] at hs;cases hs
      exact h2 _ h1
    · cases hr
theorem resL_ok (hR:HR P M w0 w h) (hT:TR M T a):∀ {rs:List ResultVar} {vs:List Value},resL P T h rs=some vs→∃ vs',vs.length=vs'.length∧(∀ (i:Nat) (v v':Value),vs[i]?=some v→vs'[i]?=some v'→VR M v v') ∧
    (rs.mapM (resSem a)).run P w=.ok vs' w
  | [],vs,hr=>by cases hr;exact⟨[],rfl,fun i v v' h1=>by simp at h1,rfl⟩
  | r :: rs,vs,hr=>by
    unfold resL at hr
    split at hr
    · rename_i v vs1 h1 h2
      cases hr
      obtain⟨v',k1,k2⟩:=resOne_ok hR hT h1
      obtain⟨vs',k3,k4,k5⟩:=resL_ok hR hT h2
      refine⟨v' :: vs',by simp[k3],fun i x x' q1 q2=>?_,?_⟩
      · cases i with
        | zero=>cases q1;cases q2;exact k1
        | succ i=>exact k4 i x x' q1 q2
      · rw[List.mapM_cons,Sem.run_bind,k2]
        simp only[Result.andThen_ok,Sem.run_bind,k5,Sem.run_pure]
    · cases hr
theorem resAll_ok (hR:HR P M w0 w h) (hT:TR M T a) {fn:Func} {v:Value} (hr:resAll P fn T h=some v):∃ v',VR M v v'∧(results fn a.tmps).run P w=.ok v' w:=by
  have hres:∀ vs',(fn.results.toList.mapM (resSem a)).run P w=.ok vs' w→(results fn a.tmps).run P w=.ok (if h:vs'.toArray.size=1 then vs'.toArray[0] else .tuple vs'.toArray) w:=by
    intro vs' hv
    have he:results fn a.tmps=(do let vs ← fn.results.mapM (resSem a);pure (if h:vs.size=1 then vs[0] else .tuple vs)):=by
      unfold results
      refine congrArg (fun f=>(do let vs ← fn.results.mapM f;pure (if h:vs.size=1 then vs[0] else .tuple vs):Sem Value)) ?_
      funext r
      cases r <;> rfl
    rw[he,Sem.run_bind,Array.mapM_eq_mapM_toList,Sem.run_map,hv]
    rfl
  unfold resAll at hr
  split at hr
  · rename_i u hu
    cases hr
    obtain⟨vs',k1,k2,k3⟩:=resL_ok hR hT hu
    obtain⟨v',rfl⟩:∃ v',vs'=[v']:=List.length_eq_one_iff.1 (by simpa using k1.symm)
    exact⟨v',k2 0 _ _ rfl rfl,by rw[hres _ k3];rfl⟩
  · rename_i vs hne hu
    cases hr
    obtain⟨vs',k1,k2,k3⟩:=resL_ok hR hT hu
    have h1:¬ vs'.toArray.size=1:=by
      intro he
      have:vs.length=1:=by rw[k1];simpa using he
      obtain⟨u,rfl⟩:=List.length_eq_one_iff.1 this
      exact hne u rfl
    exact⟨.tuple vs'.toArray,.tuple (by simpa using k1) (fun i x x' q1 q2=>k2 i x x' (by simpa using q1) (by simpa using q2)),by rw[hres _ k3,dif_neg h1]⟩
  · cases hr
theorem callF_ok (hE:Env P tab ext) {go:Code→List Value→Hp→CR}
    (hgo:∀ c T h r,go c T h=some r→∀ (M:Mp) (w0 w:World) (a:Act),HR P M w0 w h→TR M T a→c.wp P (Post P M w0 w h r) a w):CallOk P (callF P tab ext go):=by
  intro g args h q hq M w0 w args' hR hA
  unfold callF at hq
  split at hq
  · rename_i v hv
    cases hq
    obtain⟨h1,h2,⟨fn,h3,h4⟩,h5⟩:=hE.tab_ok g args v hv
    obtain rfl:=flat_args hA h1
    refine .inl ⟨enter_run hE h3 h4 _ w,(h5 w).mono fun e w' ⟨he,hB⟩=>?_⟩
    obtain⟨k1,k2⟩:=hR.lift hB
    exact⟨M,v,he,k1,k2,.same h2⟩
  · split at hq
    · cases hq
    · rename_i fn hfn
      split at hq
      · split at hq
        · rename_i v hv
          cases hq
          obtain⟨h1,h2,h3⟩:=hE.ext_ok g args v hv
          obtain rfl:=flat_args hA h1
          exact .inr ⟨v,h3 w,rfl,.same h2⟩
        · cases hq
      · rename_i c hc
        rw[forceL_eq] at hq
        refine .inl ⟨enter_run hE hfn (by rw[hc];rfl) _ w,calls_of_wp hfn hc ?_⟩
        have hT0:TR M (args ++ List.replicate (fn.ntmps - args.length) undef) { tmps:=args' ++ Array.replicate (fn.ntmps - args'.size) undef,defers:=[] }:=by
          refine⟨by simp[hA.1],fun i=>?_,rfl⟩
          rw[getL_eq,List.getD_eq_getElem?_getD,Array.getD_eq_getD_getElem?]
          by_cases hi:i < args.length
          · rw[List.getElem?_append_left hi,Array.getElem?_append_left (by rw[← hA.1];exact hi)]
            have h1:args[i]?=some args[i]:=List.getElem?_eq_getElem hi
            have h2 : args'[i]? = some (args'[i]'(by rw [← hA.1]; exact hi)) := Array.getElem?_eq_getElem (by rw [← hA.1]; exact hi)
            have:=hA.2 i _ _ h1 h2
            rw[h1,h2]
            exact this
          · rw[List.getElem?_append_right (by omega),Array.getElem?_append_right (by rw[← hA.1];omega),List.getElem?_replicate,Array.getElem?_replicate,hA.1]
            split <;> exact .same rfl
        unfold cResult at hq
        split at hq
        · cases hq
        · rename_i x T1 h1 hx hcode
          split at hq
          · rename_i v hv
            cases hq
            refine wp_mono (hgo c _ h _ hcode M w0 w _ hR hT0) ?_
            rintro e a' w' ⟨he,M',k1,k2,k3⟩
            obtain⟨v',r1,r2⟩:=resAll_ok k1 k3 hv
            have hfin:a'.defers=[]∧∃ v,(results fn a'.tmps).run P w'=.ok v w'∧∃ M' v',Ending.returned v=.returned v'∧HR P M' w0 w' h1∧Step M w h M' w' h1∧VR M' _ v' :=
              ⟨k3.df,v',r2,M',v',rfl,k1,k2,r1⟩
            cases x with
            | normal=>cases he;exact hfin
            | ret=>cases he;exact hfin
            | exit id=>exact absurd rfl (hx id)
          · cases hq
        · cases hq
theorem post_panic {r:X × List Value × Hp} (c:List PanicEntry) (a:Act) (w':World):¬ Post P M w0 w h r (.panic c) a w':=by
  rintro⟨he,_⟩
  cases hx:r.1 <;> rw[hx] at he <;> cases he
theorem cOps_some {q:Option (List Value × Hp)} {r:X × List Value × Hp} (hq:cOps q=some r):∃ T' h',q=some (T',h')∧r=(.normal,T',h'):=by
  cases q with
  | none=>cases hq
  | some p=>obtain⟨T',h'⟩:=p;cases hq;exact⟨T',h',rfl,rfl⟩
theorem code_ok (hE:Env P tab ext):∀ (k:Nat) (c:Code) (T:List Value) (h:Hp) (r:X × List Value × Hp),code P tab ext k c T h=some r →
    ∀ (M:Mp) (w0 w:World) (a:Act),HR P M w0 w h→TR M T a→c.wp P (Post P M w0 w h r) a w:=by
  intro k
  induction k using Nat.strongRecOn with
  | _ k ih =>
  cases k with
  | zero=>intro c T h r hc;cases hc
  | succ k =>
    have hC:CallOk P (callF P tab ext (code P tab ext k)):=callF_ok hE (fun c T h r hc M w0 w a hR hT=>ih k (Nat.lt_succ_self k) c T h r hc M w0 w a hR hT)
    intro c T h r hc M w0 w a hR hT
    change codeF P (callF P tab ext (code P tab ext k)) (code P tab ext k) c T h=some r at hc
    unfold codeF at hc
    split at hc
    · cases hc
      exact wp_skip ⟨rfl,M,hR,Step.refl _ _ _,hT⟩
    · rename_i id ops
      obtain⟨T',h',hq,rfl⟩:=cOps_some hc
      refine wp_region ?_
      have hl:=wpOps_eq_wpList (P:=P) (ops:=ops) (Q:=Post P M w0 w h (.normal,T',h')) ops.toList 0 (fun j=>by simp)
      rw[← List.range_eq_range',Array.length_toList] at hl
      rw[hl]
      exact iops_ok hE.maps hC ops.toList M w h T a T' h' hR hT hq fun M' a' w' q1 q2 q3=>⟨rfl,M',q1,q2,q3⟩
    · rename_i id ops
      unfold cDraw at hc
      split at hc
      · rename_i T' h' hsel hq
        cases hc
        have hB:Below w.heap.size w { w with drawn:=w.drawn + 1 }:=⟨rfl,rfl,rfl,Nat.le_refl _,fun _ _=>rfl⟩
        obtain⟨hR1,hS1⟩:=hR.lift hB
        have hR2:HR P M w0 { w with drawn:=w.drawn + 1 } ⟨h.heap,h.n,[]⟩:=⟨hR1.below,hR1.len,hR1.dom,hR1.row,hR1.map,hR1.inj⟩
        refine wp_region_held (S:=Held M (guessW P ops ops.toList T h) h.n ⟨h.heap,h.n,[]⟩ { w with drawn:=w.drawn + 1 }) hE.orders ?_
        refine idraw_ok hE.maps hC hsel (h0:=⟨h.heap,h.n,[]⟩) hR2 (fun c a w=>post_panic c a w) ops.size _ M _ ⟨h.heap,h.n,[]⟩ T a T' h' hR2 hT (Step.refl _ _ _) rfl hq fun M' a' w' q1 q2 q3=>?_
        refine⟨rfl,M',⟨q1.below,q1.len,q1.dom,q1.row,q1.map,q1.inj⟩,⟨q2.ext,q2.n,fun b hb=>List.mem_append_right _ hb,fun b hb hn=>?_,fun b m hm hlt hd hn=>?_,q2.size,fun g hg hs=>q2.str g hg hs⟩,q3⟩
        · exact q2.blk b hb (fun hx=>hn (List.mem_append_left _ hx))
        · exact q2.frame b m hm hlt hd (fun hx=>hn (List.mem_append_left _ hx))
      · cases hc
    · rename_i x y
      cases hx:code P tab ext k x T h with
      | none=>rw[hx] at hc;cases hc
      | some q =>
        obtain⟨e,T1,h1⟩:=q
        rw[hx] at hc
        refine wp_seq (wp_mono (ih k (Nat.lt_succ_self k) x T h _ hx M w0 w a hR hT) ?_)
        rintro e' a1 w1 ⟨he,M1,k1,k2,k3⟩
        cases e with
        | normal =>
          cases he
          refine wp_mono (ih k (Nat.lt_succ_self k) y T1 h1 r hc M1 w0 w1 a1 k1 k3) ?_
          rintro e'' a2 w2 ⟨he,M2,j1,j2,j3⟩
          exact⟨he,M2,j1,k2.trans j2,j3⟩
        | exit id=>cases hc;cases he;exact⟨rfl,M1,k1,k2,k3⟩
        | ret=>cases hc;cases he;exact⟨rfl,M1,k1,k2,k3⟩
    · rename_i o x y
      unfold cCond at hc
      split at hc
      · rename_i ho
        have hv:=ev_rel hT ho
        split at hc
        · rename_i he
          rw[he] at hv
          exact wp_cond_true (vr_bool hv) (ih k (Nat.lt_succ_self k) x T h r hc M w0 w a hR hT)
        · rename_i he
          rw[he] at hv
          exact wp_cond_false (vr_bool hv) (ih k (Nat.lt_succ_self k) y T h r hc M w0 w a hR hT)
        · cases hc
      · cases hc
    · rename_i id x
      cases hx:code P tab ext k x T h with
      | none=>rw[hx] at hc;cases hc
      | some q =>
        obtain⟨e,T1,h1⟩:=q
        rw[hx] at hc
        refine wp_block (wp_mono (ih k (Nat.lt_succ_self k) x T h _ hx M w0 w a hR hT) ?_)
        rintro e' a1 w1 ⟨he,M1,k1,k2,k3⟩
        cases e with
        | normal=>cases hc;cases he;exact⟨rfl,M1,k1,k2,k3⟩
        | exit j =>
          cases he
          unfold cBlock at hc
          simp only at hc
          show if j=id then _ else _
          split at hc
          · rename_i hj;rw[if_pos hj];cases hc;exact⟨rfl,M1,k1,k2,k3⟩
          · rename_i hj;rw[if_neg hj];cases hc;exact⟨rfl,M1,k1,k2,k3⟩
        | ret=>cases hc;cases he;exact⟨rfl,M1,k1,k2,k3⟩
    · rename_i x
      have hc':code P tab ext (k + 1) (.loop x) T h=some r:=hc
      refine wp_loop_ghost (fun n a' w'=>∃ M' T' h',HR P M' w0 w' h'∧Step M w h M' w' h'∧TR M' T' a'∧n≤k + 1∧code P tab ext n (.loop x) T' h'=some r) (k + 1) ⟨M,T,h,hR,Step.refl _ _ _,hT,Nat.le_refl _,hc'⟩ ?_
      rintro n a1 w1 ⟨M1,T1,h1,k1,k2,k3,hn,hc1⟩
      cases n with
      | zero=>cases hc1
      | succ n =>
        change cSeq (code P tab ext n) (.loop x) (code P tab ext n x T1 h1)=some r at hc1
        cases hx:code P tab ext n x T1 h1 with
        | none=>rw[hx] at hc1;cases hc1
        | some q =>
          obtain⟨e,T2,h2⟩:=q
          rw[hx] at hc1
          refine wp_mono (ih n (by omega) x T1 h1 _ hx M1 w0 w1 a1 k1 k3) ?_
          rintro e' a2 w2 ⟨he,M2,j1,j2,j3⟩
          cases e with
          | normal =>
            cases he
            exact⟨n,Nat.lt_succ_self n,M2,T2,h2,j1,k2.trans j2,j3,by omega,hc1⟩
          | exit id=>cases hc1;cases he;exact⟨rfl,M2,j1,k2.trans j2,j3⟩
          | ret=>cases hc1;cases he;exact⟨rfl,M2,j1,k2.trans j2,j3⟩
    · cases hc
      exact wp_exit ⟨rfl,M,hR,Step.refl _ _ _,hT⟩
    · cases hc
      exact wp_ret ⟨rfl,M,hR,Step.refl _ _ _,hT⟩
    · cases hc
/-- **What the small machine answers on arguments without addresses, the program's call comes to, in whatever world.** -/
theorem icall_ok (hE:Env P tab ext) {k:Nat} {f:FuncId} {fn:Func} {args:List Value} {q:Value × Hp} (hf:P.funcs[f]?=some fn) (hb:fn.body.isNone=false) (ha:∀ x∈args,flat x=true) (hq:icall P tab ext k f args ⟨[],0,[]⟩=some q) (hv:flat q.1=true) (w:World) :
    Calls P f args.toArray w fun e w'=>e=.returned q.1∧Below w.heap.size w w':=by
  have hR:HR P (fun _=>none) w w ⟨[],0,[]⟩:=by
    refine⟨Below.refl _ _,rfl,fun b m hm=>(by cases hm),fun b e cs hb=>?_,fun b ks hb=>?_,fun b b' m m' hm=>(by cases hm)⟩
    · unfold Hp.blk at hb;simp at hb
    · unfold Hp.blk at hb;simp at hb
  have hA:AR (fun _=>none) args args.toArray:=⟨by simp,fun i v v' h1 h2=>by
    have:v=v':=by
      rw[List.getElem?_toArray] at h2
      rw[h1] at h2;exact Option.some.inj h2
    subst this
    exact .same (ha v (List.mem_of_getElem? h1))⟩
  rcases callF_ok hE (fun c T h r hc M w0 w a hR hT=>code_ok hE k c T h r hc M w0 w a hR hT) f args _ q hq _ w w args.toArray hR hA with ⟨_,h1⟩|⟨v',h1,_,_⟩
  · refine h1.mono fun e w' ⟨M',v',he,k1,k2,k3⟩=>?_
    rw[VR.flat_eq hv k3] at he
    exact⟨he,k1.below⟩
  · rw[enter_run hE hf hb] at h1
    cases h1
end Go.AI
namespace Go.AI
open Go Go.Proofs Go.Proofs.YtjbeoidhbbjcmaaGreat
open Go.RowKit (Below)
structure Ent where
  f:Nat
  args:List Value
  v:Value
def bs (l:List Nat):ByteArray:=⟨(l.map UInt8.ofNat).toArray⟩
def beq0 (v v':Value):Bool :=
  match v with
  | .int k n=>match v' with|.int k' n'=>decide (k=k') && decide (n=n')|_=>false
  | .bool b=>match v' with|.bool b'=>b==b'|_=>false
  | .string s=>match v' with|.string s'=>decide (s.data.toList=s'.data.toList)|_=>false
  | .nilIface=>match v' with|.nilIface=>true|_=>false
  | .slice none 0 0=>match v' with|.slice none 0 0=>true|_=>false
  | _=>false
def beqL (f:Value→Value→Bool):List Value→List Value→Bool
  | [],[]=>true
  | v :: r,v' :: r'=>f v v' && beqL f r r'
  | _,_=>false
def beqA (v v':Value):Bool :=
  match v with
  | .agg cs=>match v' with|.agg cs'=>beqL beq0 cs.toList cs'.toList|_=>false
  | v=>beq0 v v'
def beqR (v v':Value):Bool :=
  match v with
  | .tuple cs=>match v' with|.tuple cs'=>beqL beqA cs.toList cs'.toList|_=>false
  | v=>beqA v v'
theorem beq0_eq {v v':Value} (h:beq0 v v'=true):v=v':=by
  unfold beq0 at h
  split at h
  · split at h
    · simp only[Bool.and_eq_true,decide_eq_true_eq] at h;rw[h.1,h.2]
    · cases h
  · split at h
    · rw[eq_of_beq h]
    · cases h
  · split at h
    · rename_i s _ s'
      have h:=of_decide_eq_true h
      have:s=s':=by
        cases s;cases s'
        congr 1
        exact Array.toList_inj.1 h
      rw[this]
    · cases h
  · split at h
    · rfl
    · cases h
  · split at h
    · rfl
    · cases h
  · cases h
theorem beqL_eq {f:Value→Value→Bool} (hf:∀ v v',f v v'=true→v=v'):∀ {l l':List Value},beqL f l l'=true→l=l'
  | [],[],_=>rfl
  | [],_ :: _,h=>by cases h
  | _ :: _,[],h=>by cases h
  | v :: r,v' :: r',h=>by
    simp only[beqL,Bool.and_eq_true] at h
    rw[hf _ _ h.1,beqL_eq hf h.2]
theorem beqA_eq {v v':Value} (h:beqA v v'=true):v=v':=by
  unfold beqA at h
  split at h
  · split at h
    · rw[Array.toList_inj.1 (beqL_eq (fun _ _=>beq0_eq) h)]
    · cases h
  · exact beq0_eq h
theorem beqR_eq {v v':Value} (h:beqR v v'=true):v=v':=by
  unfold beqR at h
  split at h
  · split at h
    · rw[Array.toList_inj.1 (beqL_eq (fun _ _=>beqA_eq) h)]
    · cases h
  · exact beqA_eq h
def look:List Ent→FuncId→List Value→Option Value
  | [],_,_=>none
  | e :: r,f,args=>match Nat.beq e.f f with
    | true=>match beqL beqA e.args args with
      | true=>some e.v
      | false=>look r f args
    | false=>look r f args
def ext (f:FuncId) (args:List Value):Option Value :=
  match args with
  | [.int .u64 x,.int .u64 y,.int .u64 c]=>match Nat.beq f 307 with
    | true=>(add64 x y c).map fun p=>.tuple #[.int .u64 p.1,.int .u64 p.2]
    | false=>match Nat.beq f 308 with
      | true=>(sub64 x y c).map fun p=>.tuple #[.int .u64 p.1,.int .u64 p.2]
      | false=>none
  | _=>none
set_option maxRecDepth 100000 in
theorem ext_ok {f:FuncId} {args:List Value} {v:Value} (h:ext f args=some v):(∀ x∈args,flat x=true)∧flat v=true∧∀ w,(callFunc f args.toArray).run Tryz.prog w=.ok (.value v) w:=by
  unfold ext at h
  split at h
  · rename_i x y c
    have hfl:∀ u∈[Value.int .u64 x,.int .u64 y,.int .u64 c],flat u=true:=by
      intro u hu
      simp only[List.mem_cons,List.not_mem_nil,or_false] at hu
      rcases hu with rfl|rfl|rfl <;> rfl
    split at h
    · rename_i hf
      obtain⟨p,hp,rfl⟩:=Option.map_eq_some_iff.1 h
      obtain rfl:=Nat.eq_of_beq_eq_true hf
      refine⟨hfl,rfl,fun w=>?_⟩
      obtain⟨v,h1,h2,_⟩:=xadd64 Tryz.func307 (by kernel_rfl) (by kernel_rfl) (by kernel_rfl) (by kernel_rfl) x y c p.1 p.2 w hp
      cases h2
      exact h1
    · split at h
      · rename_i hf
        obtain⟨p,hp,rfl⟩:=Option.map_eq_some_iff.1 h
        obtain rfl:=Nat.eq_of_beq_eq_true hf
        refine⟨hfl,rfl,fun w=>?_⟩
        obtain⟨v,h1,h2,_⟩:=xsub64 Tryz.func308 (by kernel_rfl) (by kernel_rfl) (by kernel_rfl) (by kernel_rfl) x y c p.1 p.2 w hp
        cases h2
        exact h1
      · cases h
  · cases h
noncomputable def hasBody (f:FuncId):Bool :=
  match Tryz.prog.funcs[f]? with
  | some fn=>!fn.body.isNone
  | none=>false
/-- One entry, run with those behind it. -/
noncomputable def entOk (r:List Ent) (e:Ent):Bool :=
  match e.args.all flat && flat e.v && hasBody e.f with
  | true=>match icall Tryz.prog (look r) ext 3000 e.f e.args ⟨[],0,[]⟩ with
    | some (v,_)=>beqR e.v v
    | none=>false
  | false=>false
noncomputable def checkN:Nat→List Ent→Bool
  | 0,_=>true
  | _ + 1,[]=>false
  | n + 1,e :: r=>match entOk r e with
    | true=>checkN n r
    | false=>false
def Good (t:List Ent):Prop :=
  ∀ f args v,look t f args=some v→(∀ x∈args,flat x=true)∧flat v=true∧(∃ fn,Tryz.prog.funcs[f]?=some fn∧fn.body.isNone=false)∧∀ w,Calls Tryz.prog f args.toArray w fun e w'=>e=.returned v∧Below w.heap.size w w'
theorem maps_ok:MapsOk Tryz.prog where
  z4:=fun w=>by kernel_rfl
  t9:=by kernel_rfl
  e4:=by kernel_rfl
theorem names_ok (g : FuncId) (fn : Func) (h : Tryz.prog.funcs[g]? = some fn) : (fn.name == "runtime.NumGoroutine") = false := by
  have h1 : (Tryz.prog.funcs.toList.all fun fn => !(fn.name == "runtime.NumGoroutine")) = true := by kernel_rfl
  have h2:=List.all_eq_true.1 h1 fn (by simpa using Array.mem_of_getElem? h)
  simpa using h2
theorem env_of {t:List Ent} (ht:Good t):Env Tryz.prog (look t) ext where
  maps:=maps_ok
  orders:=by kernel_rfl
  names:=names_ok
  tab_ok:=ht
  ext_ok:=fun _ _ _ h=>ext_ok h
theorem good_nil:Good []:=fun f args v h=>by cases h
theorem good_cons {e:Ent} {r:List Ent} (hr:Good r) (he:entOk r e=true):Good (e :: r):=by
  intro f args v hl
  unfold look at hl
  split at hl
  · rename_i hf
    obtain rfl:=Nat.eq_of_beq_eq_true hf
    split at hl
    · rename_i ha
      have ha:=beqL_eq (fun _ _=>beqA_eq) ha
      subst ha
      cases hl
      unfold entOk at he
      split at he
      · rename_i hc
        simp only[Bool.and_eq_true,List.all_eq_true] at hc
        obtain⟨⟨h1,h2⟩,h3⟩:=hc
        have hb:∃ fn,Tryz.prog.funcs[e.f]?=some fn∧fn.body.isNone=false:=by
          unfold hasBody at h3
          split at h3
          · rename_i fn hfn;exact⟨fn,hfn,by simpa using h3⟩
          · cases h3
        obtain⟨fn,hf1,hf2⟩:=hb
        split at he
        · rename_i v' h' hq
          have:=beqR_eq he
          subst this
          exact⟨h1,h2,⟨fn,hf1,hf2⟩,fun w=>icall_ok (env_of hr) hf1 hf2 h1 hq h2 w⟩
        · cases he
      · cases he
    · exact hr _ _ _ hl
  · exact hr _ _ _ hl
theorem good_check:∀ (n:Nat) (l:List Ent),checkN n l=true→Good (l.drop n)→Good l
  | 0,_,_,hg=>hg
  | _ + 1,[],hc,_=>by cases hc
  | n + 1,e :: r,hc,hg=>by
    unfold checkN at hc
    split at hc
    · rename_i he
      exact good_cons (good_check n r hc hg) he
    · cases hc
end Go.AI
