/- VerifierGroups holds of every list of groups and every number, without a condition. -/
import Derived.Test.YtjbeoidhbbjcmaaGreatC13
import Derived.Test.YtjbeoidhbbjcmaaGreatC29
import Derived.Test.YtjbeoidhbbjcmaaGreatRows
import Derived.Test.YtjbeoidhbbjcmaaGreatC04
import Derived.WalkKit
import Derived.ProofKit
import Derived.OpenShut
import Derived.ShutString
import Derived.ChangeOld
import Derived.ChangeSame
import Derived.Below
import Derived.SizedLaws
namespace Go.Proofs.YtjbeoidhbbjcmaaGreat.Grp
open Go.RowKit Go.Proofs.YtjbeoidhbbjcmaaGreatW.PrintWords Go.Proofs.YtjbeoidhbbjcmaaGreatW.PrintLast Go.Proofs.YtjbeoidhbbjcmaaGreatW.PrintMore Go.Proofs.YtjbeoidhbbjcmaaGreat.PG
theorem top_l {l:List S81} (h20:l.length≤20) (x:Int):∀ (m i:Nat),i + m=l.length→(∀ j,j < i→Good (l.getD j z81))→Ev (fun k=>galoislaw60_VerifierGroups.l0 k l x (i:Int)) true
  | 0,i,him,hbef=>by
    have hgood:∀ g∈l,Good g:=fun g hg=>by
      obtain⟨j,hj,rfl⟩:=List.mem_iff_getElem.1 hg
      have:=hbef j (by omega)
      rwa [List.getD_eq_getElem?_getD,List.getElem?_eq_getElem hj,Option.getD_some] at this
    obtain⟨v,hv1,hv2⟩:=order_law hgood x
    obtain⟨u,hu1,hu2⟩:=series_law hgood
    have hend:∀ k,galoislaw60_VerifierGroups.l0 (k + 1) l x (i:Int)=((verifier_Verify.f k 4 ([]:List (S28)) false (⟨#[]⟩:ByteArray) (⟨#[]⟩:ByteArray) ([]:List (S41)) ([]:List (S95)) 0 ([]:List Int) 0 ([]:List (S67)) ([]:List (S101)) ([]:List (List (S28))) ([]:List (S306)) l x ([]:List (S147)) ([]:List (S101)) 0 ([]:List (S87))).bind fun t107=>((verifier_Verify.f k 5 ([]:List (S28)) false (⟨#[]⟩:ByteArray) (⟨#[]⟩:ByteArray) ([]:List (S41)) ([]:List (S95)) 0 ([]:List Int) 0 ([]:List (S67)) ([]:List (S101)) ([]:List (List (S28))) ([]:List (S306)) l 0 ([]:List (S147)) ([]:List (S101)) 0 ([]:List (S87))).bind fun t108=>((galoisref60_Order.f k l x).bind fun t109=>(if t107=t109 then ((galoisref60_Series.f k l).bind fun t110=>(some (t108==t110))) else (some false))))):=by
      intro k
      simp only[galoislaw60_VerifierGroups.l0]
      rw[if_neg (by omega)]
    have hlast:Ev (fun k=>(galoisref60_Series.f k l).bind fun t110=>some (u==t110)) true:=Ev.bind hu1 (Ev.congr (fun k=>by rw[beq_self_eq_true]) (Ev.now _))
    exact Ev.step hend (Ev.bind hv2 (Ev.bind hu2 (Ev.bind hv1 (Ev.congr (fun k=>by rw[if_pos rfl]) hlast))))
  | m + 1,i,him,hbef=>by
    have hi:i < l.length:=by omega
    obtain⟨c,hc,hce⟩:=checks_ev (l.getD i z81).f0 (l.getD i z81).f1
    have hstep:∀ k,galoislaw60_VerifierGroups.l0 (k + 1) l x (i:Int)=((galoisref23_Check.f k (l.getD i z81).f0 (l.getD i z81).f1).bind fun t104=>(if t104=0 then ((galoisref23_Small.f k (l.getD i z81).f0 (l.getD i z81).f1).bind fun t106=>(if t106=true then (galoislaw60_VerifierGroups.l0 k l x ((i + 1:Nat):Int)) else (some true))) else (galoislaw60_VerifierGroups.l0 k l x ((i + 1:Nat):Int)))):=by
      intro k
      simp only[galoislaw60_VerifierGroups.l0]
      rw[if_pos (by omega),if_pos (by omega),rdT,wrap_succ (by omega)]
    have hnext:Good (l.getD i z81)→Ev (fun k=>galoislaw60_VerifierGroups.l0 k l x ((i + 1:Nat):Int)) true:=fun hg=>top_l h20 x m (i + 1) (by omega) fun j hj=>by
      by_cases hji:j=i
      · subst hji;exact hg
      · exact hbef j (by omega)
    by_cases hv:Valid (l.getD i z81).f0 (l.getD i z81).f1
    · obtain⟨b,hb,hbg⟩:=small_ev hv
      cases b with
      | false=>exact Ev.step hstep (Ev.bind hce (Ev.congr (fun k=>by rw[if_pos (hc.2 hv)]) (Ev.bind hb (Ev.congr (fun k=>by rw[if_neg Bool.false_ne_true]) (Ev.now _)))))
      | true=>exact Ev.step hstep (Ev.bind hce (Ev.congr (fun k=>by rw[if_pos (hc.2 hv)]) (Ev.bind hb (Ev.congr (fun k=>by rw[if_pos rfl]) (hnext (hbg rfl))))))
    · exact Ev.step hstep (Ev.bind hce (Ev.congr (fun k=>by rw[if_neg (fun h=>hv (hc.1 h))]) (hnext fun h=>absurd h hv)))
/-- The whole. -/
theorem groups_law (l:List S81) (x:Int):∃ k,galoislaw60_VerifierGroups.f k l x=some true:=by
  refine Ev.rounds (g:=fun k=>galoislaw60_VerifierGroups.f k l x) ?_
  have haw:∀ k,galoislaw60_awake.f k=some true:=fun _=>rfl
  by_cases h:(l.length:Int) > 20
  · refine Ev.congr (f:=fun k=>galoislaw60_VerifierGroups.j0 k l x true) (fun k=>?_) (Ev.step (fun k=>by simp only[galoislaw60_VerifierGroups.j0];rw[if_pos True.intro,haw,Option.bind_some]) (Ev.now _))
    unfold galoislaw60_VerifierGroups.f
    rw[haw,Option.bind_some,if_pos rfl,decide_eq_true h]
  · refine Ev.congr (f:=fun k=>galoislaw60_VerifierGroups.j0 k l x false) (fun k=>?_) (Ev.step (fun k=>by simp only[galoislaw60_VerifierGroups.j0];rw[if_neg (by decide)];rfl) (top_l (by omega) x l.length 0 (by omega) fun j hj=>by omega))
    unfold galoislaw60_VerifierGroups.f
    rw[haw,Option.bind_some,if_pos rfl,decide_eq_false h]
end Go.Proofs.YtjbeoidhbbjcmaaGreat.Grp
namespace Go.Proofs.YtjbeoidhbbjcmaaGreat.verifierGroups
open Go.ChangeShapes Go.WideShapes Go.ChangeAt Go.RowKit Go.Proofs.YtjbeoidhbbjcmaaGreatW.PrintWords Go.Proofs.YtjbeoidhbbjcmaaGreatW.PrintLast Go.Proofs.YtjbeoidhbbjcmaaGreat.PG
theorem own:ownKnob Tryz.prog.godebug=none:=by kernel_rfl
theorem laidOut:laidOutB Tryz.prog=true:=by kernel_rfl
section
variable {H : Type} {enc : TypeId × Value → H} {w : World}
theorem rd_perms:Rd enc Tryz.prog w (Kd.slice 99 (Kd.slice 3 (Kd.int .i64))) 79:=rd_slice Tryz.underlying79 (by kernel_rfl) (rd_slice Tryz.underlying99 (by kernel_rfl) (rd_int Tryz.underlying3))
theorem cells81:Tryz.prog.cellsOf 81=2:=by kernel_rfl
theorem cells3:Tryz.prog.cellsOf 3=1:=by kernel_rfl
theorem cells79:Tryz.prog.cellsOf 79=1:=by kernel_rfl
set_option maxRecDepth 100000 in
theorem rd_group:Rd enc Tryz.prog w k81 81:=by
  intro f cs x h
  obtain⟨y0,y1,n,_,hl,h0,h1⟩:=trod_struct2 Tryz.underlying81 h
  obtain⟨a,ha⟩:=rd_int Tryz.underlying3 _ _ _ h0
  obtain⟨l,hg⟩:=rd_perms _ _ _ h1
  rw[cells81] at hl
  rw[cells3] at ha
  rw[cells79] at hg
  match cs,hl with
  | [c0,c1],_=>exact⟨⟨a,l⟩,[c0],[c1],rfl,ha,hg⟩
end
set_option maxHeartbeats 8000000 in
set_option maxRecDepth 100000 in
theorem lifted (os:Os) (started:os.Started) (H:Type) (enc:TypeId × Value→H) :
    ReturnsInHanded {} Tryz.checked os 7 .any (Rows.verifierGroupsSpec.pre6 enc Tryz.prog Tryz.f7 Rows.verifierGroupsRow.domain false) (Rows.verifierGroupsSpec.post enc Tryz.prog Tryz.f7 false true false false):=by
  refine returnsInHanded_of_change_sized (C:=Tryz.checked) own started (by kernel_rfl) Tryz.func7
    (ChangeSpec.witness6 (enc:=enc) (C:=Tryz.checked) false ⟨#[],#[.slice none 0 0,.int .i64 0],[]⟩ 8 (by kernel_rfl) (by kernel_rfl) (by kernel_rfl) (by kernel_rfl)) ?_
  intro W base args ds gs before hval0 hW hcnd hsz0 _
  have hval:∀ (j:Nat) t v,Tryz.f7.params[j]?=some t→args[j]?=some v→Value.okWide Tryz.prog W .any base t v:=hval0
  have hW':=hW
  obtain⟨p,q,hA0,hV,rfl,hfz,hnd⟩:=hW
  have hA:DataW.TrodAll enc Tryz.prog W 0 (fun _=>true) true Tryz.f7.params.toList args.toList ds p:=hA0
  rw[Tryz.params7] at hA hval
  obtain⟨v0,vs0,d0,ds0,p0,q0,hargs,rfl,rfl,h0,r0⟩:=trodAll_cons hA
  obtain⟨v1,vs1,d1,ds1,p1,q1,rfl,rfl,rfl,h1,r1⟩:=trodAll_cons r0
  obtain⟨rfl,rfl,rfl⟩:=trodAll_nil r1
  obtain rfl:args=#[v0,v1]:=by cases args;simp_all
  obtain⟨rfl,rfl⟩:=trodVars_none hV
  obtain⟨a0,len0,cap0,rfl⟩:=okWide_slice Tryz.underlying55 (hval 0 55 v0 rfl rfl)
  have k0:=h0
  have lt0:∀ x∈p0,x.block < W.heap.size:=by obtain⟨m,hm⟩:=k0;exact DataW.trod_lt m _ _ _ hm
  obtain⟨l,rfl,hl,hC⟩:∃ l:List S81,len0=l.length∧l.length≤cap0∧Kd.C k81 W a0 l.length l:=by
    obtain⟨fuel,hf⟩:=h0
    obtain⟨A,n,c,xs,hcs,hxl,hle,hCC⟩:=rd_row Tryz.underlying55 (by kernel_rfl) rd_group hf
    simp[Value.cells] at hcs
    obtain⟨rfl,rfl,rfl⟩:=hcs
    subst hxl
    exact⟨xs,rfl,hle,hCC⟩
  obtain⟨a1,rfl,rfl,rfl,w1⟩:=open_int Tryz.underlying3 (hval 1 3 v1 rfl rfl) h1
  clear hA0 hval0 hsz0
  obtain⟨k,hk⟩:=Grp.groups_law l a1
  refine (galoislaw60_VerifierGroups.calls k a0 cap0 l a1 true W hC hl hk).mono fun e W' ⟨he,bel⟩=>?_
  subst he
  exact⟨_,rfl,_,_,_,[],_,[],hW',trodAll_mk1 (shut_bool Tryz.underlying4 _),(trodAll_cons_mk (Below.trod laidOut (by kernel_rfl) (of_decide_eq_true (by kernel_rfl)) k0 bel lt0) (trodAll_cons_mk (shut_int Tryz.underlying3 w1) trodAll_mk0)),rfl,bel.frame _,fun h=>by cases h⟩
set_option maxHeartbeats 8000000 in
theorem named:Tryz.pinned.checked.prog.funcNamed Rows.verifierGroupsRow.func=some 7:=by kernel_rfl
set_option maxHeartbeats 8000000 in
theorem closed:joinedFacts Tryz.pinned.checked.prog 7 Tryz.f7 Rows.verifierGroupsSpec Rows.verifierGroupsRow=true:=by
  simp only[joinedFacts,Bool.and_eq_true]
  repeat' (refine And.intro ?_ ?_)
  all_goals (as_aux_lemma=>kernel_rfl)
theorem inst:Tryz.f7.isInstance Tryz.pinned.checked.prog Rows.verifierGroupsRow.origin Rows.verifierGroupsRow.targs:=of_decide_eq_true (by kernel_rfl)
theorem wrap:Tryz.f7.isWrapper Tryz.pinned.checked.prog Rows.verifierGroupsRow.wrapper Rows.verifierGroupsRow.mainSum:=by
  unfold Func.isWrapper
  first|(rw[if_pos (by decide +kernel)];kernel_rfl)|(rw[if_neg (by decide +kernel)];exact⟨rfl,rfl⟩)
theorem over:Rows.verifierGroupsRow.holds Tryz.pinned (OpenSpec.ofChange Rows.verifierGroupsSpec) :=
  OpenClaim.holds_of_wide 7 Tryz.f7 rfl rfl rfl rfl rfl rfl rfl ⟨rfl,rfl,rfl,rfl,rfl⟩ rfl rfl rfl rfl rfl named Tryz.func7 closed inst wrap
    (fun os started H enc _=>lifted os started H enc)
theorem proved:Rows.VerifierGroupsSaid:=over
end Go.Proofs.YtjbeoidhbbjcmaaGreat.verifierGroups
namespace Go.Proofs.YtjbeoidhbbjcmaaGreat
/-- The row, under a short name, for the claim. -/
theorem verifierGroups_holds:Rows.VerifierGroupsSaid:=verifierGroups.proved
#print axioms verifierGroups_holds
end Go.Proofs.YtjbeoidhbbjcmaaGreat
