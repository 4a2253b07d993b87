/- The law in plain terms: permutations, groups and what the functions come to. -/
import Derived.Test.YtjbeoidhbbjcmaaGreatC08
import Derived.Test.YtjbeoidhbbjcmaaGreatC07
import Derived.Test.YtjbeoidhbbjcmaaGreatC10
namespace Go.Proofs.YtjbeoidhbbjcmaaGreat.Grp
open Go.RowKit Go.Proofs.YtjbeoidhbbjcmaaGreatW.PrintWords Go.Proofs.YtjbeoidhbbjcmaaGreatW.PrintLast Go.Proofs.YtjbeoidhbbjcmaaGreatW.PrintMore Go.Proofs.YtjbeoidhbbjcmaaGreat.PG
theorem rdT (xs:List S81) (i:Nat):rd_T81 xs (i:Int)=xs.getD i z81:=rfl
theorem rdT0 (xs:List S81):rd_T81 xs 0=xs.getD 0 z81:=rfl
theorem rdL3 (xs:List (List (List Int))) (i:Nat):rd_L3 xs (i:Int)=xs.getD i []:=rfl
theorem wrap_pred {k:Nat} (h:k < 4611686018427387904):wrap64 (((k + 1:Nat):Int) - 1)=(k:Int):=by
  unfold wrap64;omega
/-- Both lists of a group's elements. -/
structure Kn (g:S81) (E D:List (List Int)):Prop where
  kn:Known g.f0.toNat g.f1 E D
  els:Ev (fun k=>galoisref23_Elements.f k g.f0 g.f1) (E,true)
  of:Ev (fun k=>verifier_of.f k g.f0 g.f1) (some (D.map letters))
def Good (g:S81):Prop:=Valid g.f0 g.f1→∃ E D,Kn g E D
theorem elements_ev {a:Int} {gens:List (List Int)} (hv:Valid a gens):∃ r,Ev (fun k=>galoisref23_Elements.f k a gens) r∧(r.2=true→∃ E D,Kn ⟨a,gens⟩ E D):=by
  have hi:=hv.hi
  obtain⟨n,rfl⟩:=Int.eq_ofNat_of_zero_le hv.lo
  obtain⟨r,he,hk⟩:=close_known (n:=n) (by omega) hv.isP hv.len
  have hel:Ev (fun k=>galoisref23_Elements.f k (n:Int) gens) (r.1,r.2):=Ev.bind he (Ev.now _)
  refine⟨(r.1,r.2),hel,fun h2=>?_⟩
  obtain⟨D,hD,ho⟩:=hk h2
  have h2':r.2=true:=h2
  rw[h2'] at hel
  exact⟨r.1,D,hD,hel,ho⟩
theorem few_l {a:Int} {gens:List (List Int)} (hv:Valid a gens):∀ (m i:Nat),i + m=gens.length→Ev (fun k=>galoisref23_Few.l0 k (i:Int) a gens) true
  | 0,i,him=>Ev.step (fun k=>by simp only[galoisref23_Few.l0];rw[if_neg (by omega)]) (Ev.now _)
  | m + 1,i,him=>by
    have hi:i < gens.length:=by omega
    have hlen:=(hv.isP _ (getD_mem (d:=([]:List Int)) hi)).len
    have hlo:=hv.lo;have hhi:=hv.hi;have hl:=hv.len
    refine Ev.step (fun k=>?_) (few_l hv m (i + 1) (by omega))
    simp only[galoisref23_Few.l0]
    rw[if_pos (by omega),if_pos (by omega),rd9,if_neg (by omega),wrap_succ (by omega)]
theorem small_ev {a:Int} {gens:List (List Int)} (hv:Valid a gens):∃ b:Bool,Ev (fun k=>galoisref23_Small.f k a gens) b∧(b=true→Good ⟨a,gens⟩):=by
  obtain⟨r,he,hk⟩:=elements_ev hv
  obtain⟨c,hc,hce⟩:=checks_ev a gens
  have hl:=hv.len
  refine⟨r.2,?_,fun h _=>hk h⟩
  have hf:Ev (fun k=>galoisref23_Few.f k a gens) true:=Ev.congr (fun k=>by unfold galoisref23_Few.f;rw[if_neg (by omega)];rfl) (few_l hv gens.length 0 (by omega))
  exact Ev.bind hf (Ev.congr (fun k=>by rw[if_pos rfl]) (Ev.bind hce (Ev.congr (fun k=>by rw[if_pos (hc.2 hv)]) (Ev.bind he (Ev.now _)))))
theorem verdict_eq (b:Bool):galoisref60_verdict.f true b=some (if b=true then 0 else 14):=by
  unfold galoisref60_verdict.f
  cases b <;> rfl
theorem ofP_ev {g:S81} {E D:List (List Int)} (hk:Kn g E D):Ev (fun k=>ofP.f k g.f0 g.f1) (D.map letters,true):=by
  obtain⟨K,hK⟩:=hk.of
  refine⟨K,fun k hkk=>?_⟩
  have h1:verifier_of.f k g.f0 g.f1=some (some (D.map letters)):=hK k hkk
  show (verifier_of.f k g.f0 g.f1).map _=_
  rw[h1]
  rfl
theorem ofT_ev {g:S81} {E D:List (List Int)} (hk:Kn g E D):Ev (fun k=>ofT.f k g.f0 g.f1) (D.map letters,true):=by
  obtain⟨K,hK⟩:=hk.of
  refine⟨K,fun k hkk=>?_⟩
  have h1:verifier_of.f k g.f0 g.f1=some (some (D.map letters)):=hK k hkk
  show ((verifier_of.f k g.f0 g.f1).bind id).map _=_
  rw[h1]
  rfl
theorem int_beq (a b:Nat) (h:a=b) (x:Int):((a:Int)==x)=((b:Int)==x):=by rw[h]
theorem order_law {l:List S81} (hgood:∀ g∈l,Good g) (x:Int):∃ v:Int,Ev (fun k=>galoisref60_Order.f k l x) v ∧
    Ev (fun k=>verifier_Verify.f k 4 ([]:List S28) false (⟨#[]⟩:ByteArray) (⟨#[]⟩:ByteArray) ([]:List S41) ([]:List S95) 0 ([]:List Int) 0 ([]:List S67) ([]:List S101) ([]:List (List S28)) ([]:List S306) l x ([]:List S147) ([]:List S101) 0 ([]:List S87)) v:=by
  have hbad:Ev (fun k=>galoisref60_Order.j0 k l x true) 1:=Ev.step (fun k=>by simp only[galoisref60_Order.j0];rw[if_pos True.intro]) (Ev.now _)
  have hV:∀ {b:Bool} {v:Int},Ev (fun k=>verifier_order_formed.f k 4 ([]:List S28) false (⟨#[]⟩:ByteArray) (⟨#[]⟩:ByteArray) ([]:List S41) ([]:List S95) 0 ([]:List Int) 0 ([]:List S67) ([]:List S101) ([]:List (List S28)) ([]:List S306) l x ([]:List S147) ([]:List S101) 0 ([]:List S87)) b →
      (b=true→∃ h:Bool,v=(if h=true then 0 else 14)∧Ev (fun k=>verifier_order_holds.f k 4 ([]:List S28) false (⟨#[]⟩:ByteArray) (⟨#[]⟩:ByteArray) ([]:List S41) ([]:List S95) 0 ([]:List Int) 0 ([]:List S67) ([]:List S101) ([]:List (List S28)) ([]:List S306) l x ([]:List S147) ([]:List S101) 0 ([]:List S87)) h)→(b=false→v=1) →
      Ev (fun k=>verifier_Verify.f k 4 ([]:List S28) false (⟨#[]⟩:ByteArray) (⟨#[]⟩:ByteArray) ([]:List S41) ([]:List S95) 0 ([]:List Int) 0 ([]:List S67) ([]:List S101) ([]:List (List S28)) ([]:List S306) l x ([]:List S147) ([]:List S101) 0 ([]:List S87)) v:=by
    intro b v h1 h2 h3
    refine Ev.congr (fun k=>by unfold verifier_Verify.f;rw[if_pos rfl]) (Ev.bind h1 ?_)
    cases b with
    | false=>rw[h3 rfl];exact Ev.congr (fun k=>by rw[if_neg (by decide)]) (Ev.now _)
    | true =>
      obtain⟨h,rfl,hh⟩:=h2 rfl
      exact Ev.congr (fun k=>by rw[if_pos rfl]) (Ev.bind hh (Ev.now _))
  by_cases hlen:l.length=1
  · have hm:l.getD 0 z81∈l:=getD_mem (by omega)
    obtain⟨b,hb,hbe⟩:=valid_ev (l.getD 0 z81).f0 (l.getD 0 z81).f1
    obtain⟨c,hc,hce⟩:=checks_ev (l.getD 0 z81).f0 (l.getD 0 z81).f1
    have hO:∀ k,galoisref60_Order.f k l x=(galoisref23_Check.f k (l.getD 0 z81).f0 (l.getD 0 z81).f1).bind fun t102=>(if t102=0 then (if x < 1 then (galoisref60_Order.j0 k l x true) else (galoisref60_Order.j0 k l x (decide (x > 5040)))) else (galoisref60_Order.j0 k l x true)):=by
      intro k
      unfold galoisref60_Order.f
      rw[if_pos (by omega),if_pos (by omega),rdT0]
    have hF:∀ k,verifier_order_formed.f k 4 ([]:List S28) false (⟨#[]⟩:ByteArray) (⟨#[]⟩:ByteArray) ([]:List S41) ([]:List S95) 0 ([]:List Int) 0 ([]:List S67) ([]:List S101) ([]:List (List S28)) ([]:List S306) l x ([]:List S147) ([]:List S101) 0 ([]:List S87)=((verifier_validGroup.f k (l.getD 0 z81).f0 (l.getD 0 z81).f1).bind fun t103=>(if t103=true then (if x ≥ 1 then (some (decide (x≤5040))) else (some false)) else (some false))):=by
      intro k
      unfold verifier_order_formed.f
      rw[if_pos (by omega),if_pos (by omega),rdT0]
    by_cases hv:Valid (l.getD 0 z81).f0 (l.getD 0 z81).f1
    · by_cases hx:1≤x∧x≤5040
      · obtain⟨E,D,hk⟩:=hgood _ hm hv
        have hj:Ev (fun k=>galoisref60_Order.j0 k l x false) (if ((E.length:Int)==x)=true then 0 else 14):=by
          refine Ev.step (f:=fun k=>(galoisref23_Elements.f k (l.getD 0 z81).f0 (l.getD 0 z81).f1).bind fun bt104=>(if bt104.2=true then ((galoisref60_verdict.f true ((bt104.1.length:Int)==x)).bind fun t108=>(some t108)) else ((galoisref60_verdict.f true false).bind fun t109=>(some t109)))) (fun k=>?_) (Ev.bind hk.els (Ev.congr (fun k=>?_) (Ev.now _)))
          · simp only[galoisref60_Order.j0]
            rw[if_neg (by decide),if_pos (by omega),rdT0]
          · rw[if_pos rfl,verdict_eq];rfl
        refine⟨_,Ev.congr hO (Ev.bind hce (Ev.congr (fun k=>by rw[if_pos (hc.2 hv),if_neg (by omega),decide_eq_false (by omega)]) hj)),hV (b:=true) (Ev.congr hF (Ev.bind hbe (Ev.congr (fun k=>by rw[if_pos (hb.2 hv),if_pos (by omega),decide_eq_true (by omega)]) (Ev.now _)))) (fun _=>⟨_,rfl,?_⟩) (fun h=>by cases h)⟩
        have hof:=ofP_ev hk
        refine Ev.congr (fun k=>by unfold verifier_order_holds.f;rw[if_pos (by omega),rdT0]) (Ev.bind hof (Ev.congr (fun k=>?_) (Ev.now _)))
        rw[if_pos rfl]
        simp only[mlen.f,Option.bind_some,List.length_map,hk.kn.len]
      · refine⟨1,Ev.congr hO (Ev.bind hce (Ev.congr (fun k=>?_) hbad)),hV (b:=false) (Ev.congr hF (Ev.bind hbe (Ev.congr (fun k=>?_) (Ev.now _)))) (fun h=>by cases h) (fun _=>rfl)⟩
        · rw[if_pos (hc.2 hv)]
          by_cases hx1:x < 1
          · rw[if_pos hx1]
          · rw[if_neg hx1,decide_eq_true (by omega)]
        · rw[if_pos (hb.2 hv)]
          by_cases hx1:x ≥ 1
          · rw[if_pos hx1,decide_eq_false (by omega)]
          · rw[if_neg hx1]
    · refine⟨1,Ev.congr hO (Ev.bind hce (Ev.congr (fun k=>by rw[if_neg (fun h=>hv (hc.1 h))]) hbad)),hV (b:=false) (Ev.congr hF (Ev.bind hbe (Ev.congr (fun k=>by rw[if_neg (fun h=>hv (hb.1 h))]) (Ev.now _)))) (fun h=>by cases h) (fun _=>rfl)⟩
  · refine⟨1,Ev.congr (fun k=>by unfold galoisref60_Order.f;rw[if_neg (by omega)]) hbad,hV (b:=false) (Ev.congr (fun k=>by unfold verifier_order_formed.f;rw[if_neg (by omega)]) (Ev.now _)) (fun h=>by cases h) (fun _=>rfl)⟩
end Go.Proofs.YtjbeoidhbbjcmaaGreat.Grp
