/- The law in plain terms: permutations, groups and what the functions come to. -/
import Derived.Test.YtjbeoidhbbjcmaaGreatC11
import Derived.Test.YtjbeoidhbbjcmaaGreatC12
namespace Go.Proofs.YtjbeoidhbbjcmaaGreat.Grp
open Go.RowKit Go.Proofs.YtjbeoidhbbjcmaaGreatW.PrintWords Go.Proofs.YtjbeoidhbbjcmaaGreatW.PrintLast Go.Proofs.YtjbeoidhbbjcmaaGreatW.PrintMore Go.Proofs.YtjbeoidhbbjcmaaGreat.PG
/-- The verifier's loops, for the claim at hand. -/
def sfL (k:Nat) (l:List S81) (i:Int):Option Bool:=verifier_series_formed.l0 k l (l.length:Int) i 5 ([]:List S28) false (⟨#[]⟩:ByteArray) (⟨#[]⟩:ByteArray) ([]:List S41) ([]:List S95) 0 ([]:List Int) 0 ([]:List S67) ([]:List S101) ([]:List (List S28)) ([]:List S306) l 0 ([]:List S147) ([]:List S101) 0 ([]:List S87)
def shL (k:Nat) (m:Ks) (l:List S81) (i:Int):Option Bool:=verifier_series_holds.l0 k m (l.drop 1) ((l.drop 1).length:Int) i 5 ([]:List S28) false (⟨#[]⟩:ByteArray) (⟨#[]⟩:ByteArray) ([]:List S41) ([]:List S95) 0 ([]:List Int) 0 ([]:List S67) ([]:List S101) ([]:List (List S28)) ([]:List S306) l 0 ([]:List S147) ([]:List S101) 0 ([]:List S87)
def sfF (k:Nat) (l:List S81):Option Bool:=verifier_series_formed.f k 5 ([]:List S28) false (⟨#[]⟩:ByteArray) (⟨#[]⟩:ByteArray) ([]:List S41) ([]:List S95) 0 ([]:List Int) 0 ([]:List S67) ([]:List S101) ([]:List (List S28)) ([]:List S306) l 0 ([]:List S147) ([]:List S101) 0 ([]:List S87)
def shF (k:Nat) (l:List S81):Option Bool:=verifier_series_holds.f k 5 ([]:List S28) false (⟨#[]⟩:ByteArray) (⟨#[]⟩:ByteArray) ([]:List S41) ([]:List S95) 0 ([]:List Int) 0 ([]:List S67) ([]:List S101) ([]:List (List S28)) ([]:List S306) l 0 ([]:List S147) ([]:List S101) 0 ([]:List S87)
theorem mem_at {α:Type} {l:List α} {d:α} {P:α→Prop} (h:∀ g∈l,P g) {i:Nat} (hi:i < l.length):P (l.getD i d):=h _ (getD_mem hi)
def FormOK (l:List S81) (i:Nat):Prop:=∀ g∈l.drop i,Valid g.f0 g.f1∧g.f0=(l.getD 0 z81).f0
theorem sf1 {l:List S81} (h16:l.length≤16) (hk:∀ g∈l,∃ E D,Kn g E D):∀ (m i:Nat),i + m=l.length→Ev (fun k=>verifier_series_formed.l1 k l (l.length:Int) (i:Int)) true
  | 0,i,him=>Ev.step (fun k=>by simp only[verifier_series_formed.l1];rw[if_neg (by omega)]) (Ev.now _)
  | m + 1,i,him=>by
    have hi:i < l.length:=by omega
    obtain⟨E,D,hkn⟩:=mem_at (d:=z81) hk hi
    refine Ev.step (f:=fun k=>(ofP.f k (l.getD i z81).f0 (l.getD i z81).f1).bind fun bt108=>(if bt108.2=true then (verifier_series_formed.l1 k l (l.length:Int) ((i + 1:Nat):Int)) else (some false))) (fun k=>?_) (Ev.bind (ofP_ev hkn) (Ev.congr (fun k=>by rw[if_pos rfl]) (sf1 h16 hk m (i + 1) (by omega))))
    simp only[verifier_series_formed.l1]
    rw[if_pos (by omega),if_pos (by omega),if_pos (by omega),rdT,wrap_succ (by omega)]
/-- Both sides' first loops. -/
theorem form_l {l:List S81} (h1:1≤l.length) (h16:l.length≤16) (hgood:∀ g∈l,Good g) {t:Int}:∀ (m i:Nat),i + m=l.length→(∀ j,j < i→Valid (l.getD j z81).f0 (l.getD j z81).f1) →
    ((∀ g∈l,Valid g.f0 g.f1)→FormOK l i→Ev (fun k=>galoisref60_Series.l1 k l [] 0) t) →
    (FormOK l i∧(∀ g∈l,Valid g.f0 g.f1)∧Ev (fun k=>sfL k l (i:Int)) true∧Ev (fun k=>galoisref60_Series.l0 k l (i:Int)) t)∨(¬ FormOK l i∧Ev (fun k=>sfL k l (i:Int)) false∧Ev (fun k=>galoisref60_Series.l0 k l (i:Int)) 1)
  | 0,i,him,hbef,ht=>by
    have hall:∀ g∈l,Valid g.f0 g.f1:=fun g hg=>by
      obtain⟨j,hj,rfl⟩:=List.mem_iff_getElem.1 hg
      have:=hbef j (by omega)
      rwa [List.getD_eq_getElem?_getD,List.getElem?_eq_getElem hj,Option.getD_some] at this
    have hform:FormOK l i:=by
      unfold FormOK
      rw[List.drop_eq_nil_of_le (by omega)]
      simp
    refine .inl ⟨hform,hall,?_,?_⟩
    · refine Ev.step (fun k=>?_) (sf1 h16 (fun g hg=>hgood g hg (hall g hg)) l.length 0 (by omega))
      simp only[sfL,verifier_series_formed.l0]
      rw[if_neg (by omega)]
      rfl
    · exact Ev.step (fun k=>by simp only[galoisref60_Series.l0];rw[if_neg (by omega)]) (ht hall hform)
  | m + 1,i,him,hbef,ht=>by
    have hi:i < l.length:=by omega
    obtain⟨b,hb,hbe⟩:=valid_ev (l.getD i z81).f0 (l.getD i z81).f1
    obtain⟨c,hc,hce⟩:=checks_ev (l.getD i z81).f0 (l.getD i z81).f1
    have hV:∀ k,sfL (k + 1) l (i:Int)=((verifier_validGroup.f k (l.getD i z81).f0 (l.getD i z81).f1).bind fun t104=>(if t104=true then (if (l.getD i z81).f0=(l.getD 0 z81).f0 then sfL k l ((i + 1:Nat):Int) else some false) else some false)):=by
      intro k
      simp only[sfL,verifier_series_formed.l0]
      rw[if_pos (by omega),if_pos (by omega),if_pos (by omega),if_pos (show (0:Int) < (l.length:Int) by omega),rdT,rdT0,wrap_succ (by omega)]
    have hR:∀ k,galoisref60_Series.l0 (k + 1) l (i:Int)=((galoisref23_Check.f k (l.getD i z81).f0 (l.getD i z81).f1).bind fun t102=>(if t102=0 then (if (l.getD i z81).f0=(l.getD 0 z81).f0 then galoisref60_Series.l0 k l ((i + 1:Nat):Int) else some 1) else some 1)):=by
      intro k
      simp only[galoisref60_Series.l0]
      rw[if_pos (by omega),if_pos (by omega),if_pos (show (0:Int) < (l.length:Int) by omega),rdT,rdT0,wrap_succ (by omega)]
    have hcons:FormOK l i↔(Valid (l.getD i z81).f0 (l.getD i z81).f1∧(l.getD i z81).f0=(l.getD 0 z81).f0)∧FormOK l (i + 1):=by
      unfold FormOK
      rw[drop_cons (d:=z81) hi,List.forall_mem_cons]
    by_cases hv:Valid (l.getD i z81).f0 (l.getD i z81).f1
    · by_cases hd:(l.getD i z81).f0=(l.getD 0 z81).f0
      · have eV:∀ {v:Bool},Ev (fun k=>sfL k l ((i + 1:Nat):Int)) v→Ev (fun k=>sfL k l (i:Int)) v:=fun h=>Ev.step hV (Ev.bind hbe (Ev.congr (fun k=>by rw[if_pos (hb.2 hv),if_pos hd]) h))
        have eR:∀ {v:Int},Ev (fun k=>galoisref60_Series.l0 k l ((i + 1:Nat):Int)) v→Ev (fun k=>galoisref60_Series.l0 k l (i:Int)) v:=fun h=>Ev.step hR (Ev.bind hce (Ev.congr (fun k=>by rw[if_pos (hc.2 hv),if_pos hd]) h))
        rcases form_l h1 h16 hgood m (i + 1) (by omega) (fun j hj=>by
          by_cases hji:j=i
          · subst hji;exact hv
          · exact hbef j (by omega)) (fun ha hf=>ht ha (hcons.2 ⟨⟨hv,hd⟩,hf⟩)) with ⟨q1,q2,q3,q4⟩|⟨q1,q3,q4⟩
        · exact .inl ⟨hcons.2 ⟨⟨hv,hd⟩,q1⟩,q2,eV q3,eR q4⟩
        · exact .inr ⟨fun h=>q1 (hcons.1 h).2,eV q3,eR q4⟩
      · exact .inr ⟨fun h=>hd (hcons.1 h).1.2,Ev.step hV (Ev.bind hbe (Ev.congr (fun k=>by rw[if_pos (hb.2 hv),if_neg hd]) (Ev.now _))),Ev.step hR (Ev.bind hce (Ev.congr (fun k=>by rw[if_pos (hc.2 hv),if_neg hd]) (Ev.now _)))⟩
    · exact .inr ⟨fun h=>hv (hcons.1 h).1.1,Ev.step hV (Ev.bind hbe (Ev.congr (fun k=>by rw[if_neg (fun h=>hv (hb.1 h))]) (Ev.now _))),Ev.step hR (Ev.bind hce (Ev.congr (fun k=>by rw[if_neg (fun h=>hv (hc.1 h))]) (Ev.now _)))⟩
theorem lists_l {l:List S81} (h16:l.length≤16) {E D:S81→List (List Int)} (hk:∀ g∈l,Kn g (E g) (D g)) {t:Int} (ht:Ev (fun k=>galoisref60_Series.l2 k l (l.map E) 1) t):∀ (m i:Nat),i + m=l.length→Ev (fun k=>galoisref60_Series.l1 k l ((l.take i).map E) (i:Int)) t
  | 0,i,him=>by
    refine Ev.step (fun k=>by simp only[galoisref60_Series.l1];rw[if_neg (by omega)]) ?_
    rw[List.take_of_length_le (by omega)]
    exact ht
  | m + 1,i,him=>by
    have hi:i < l.length:=by omega
    have hkn:=mem_at (d:=z81) hk hi
    have hel:=hkn.kn.el
    have ih:=lists_l h16 hk ht m (i + 1) (by omega)
    have htk:(l.take (i + 1)).map E=(l.take i).map E ++ [E (l.getD i z81)]:=by
      rw[List.take_add_one,List.map_append,List.getElem?_eq_getElem hi,List.getD_eq_getElem?_getD,List.getElem?_eq_getElem hi]
      rfl
    rw[htk] at ih
    refine Ev.step (f:=fun k=>(galoisref23_Elements.f k (l.getD i z81).f0 (l.getD i z81).f1).bind fun bt106=>(if bt106.2=true then (if (bt106.1.length:Int) > 5040 then (some 1) else (if ((l.take i).map E).length < 5864062014805 then (galoisref60_Series.l1 k l ((l.take i).map E ++ [bt106.1]) ((i + 1:Nat):Int)) else (none))) else (some 1))) (fun k=>?_) (Ev.bind hkn.els (Ev.congr (fun k=>?_) ih))
    · simp only[galoisref60_Series.l1]
      rw[if_pos (by omega),if_pos (by omega),rdT,wrap_succ (by omega)]
    · rw[if_pos rfl,if_neg (by show ¬ ((E (l.getD i z81)).length:Int) > 5040;omega),if_pos (by rw[List.length_map,List.length_take];omega)]
def rs3 (k:Nat) (l:List S81) (Es:List (List (List Int))) (j:Int) (gg E:List (List Int)):Option Int:=(galoisref60_normal.f k gg E).bind fun t=>if t=true then galoisref60_Series.l2 k l Es j else some 14
def rs2 (k:Nat) (l:List S81) (Es:List (List (List Int))) (j:Int) (gg E:List (List Int)) (q:Int):Option Int:=(galoisref60_prime.f k q).bind fun t=>if t=true then rs3 k l Es j gg E else some 14
theorem chain_l {n:Nat} {l:List S81} (h16:l.length≤16) {E D:S81→List (List Int)} (hk:∀ g∈l,Kn g (E g) (D g)) (hdeg:∀ g∈l,g.f0.toNat=n):∀ (m i:Nat),i + m + 1=l.length →
    ∃ b:Bool,Ev (fun k=>shL k ((D (l.getD i z81)).map letters) l (i:Int)) b∧Ev (fun k=>galoisref60_Series.l2 k l (l.map E) ((i + 1:Nat):Int)) (if b=true then 0 else 14)
  | 0,i,him=>by
    have hi:i < l.length:=by omega
    have hkn:=mem_at (d:=z81) hk hi
    refine⟨((D (l.getD i z81)).length:Int)==1,Ev.step (fun k=>?_) (Ev.now _),Ev.step (fun k=>?_) (Ev.now _)⟩
    · simp only[shL,verifier_series_holds.l0]
      rw[if_neg (by rw[List.length_drop];omega)]
      simp only[mlen.f,Option.bind_some,List.length_map]
    · simp only[galoisref60_Series.l2]
      have e1:wrap64 ((l.length:Int) - 1)=(i:Int):=by rw[← him];exact wrap_pred (by omega)
      rw[if_neg (by omega),e1,if_pos (by omega),if_pos (by rw[List.length_map];omega),verdict_eq,rdL3,getD_map E l i [] z81 hi,int_beq _ _ hkn.kn.len]
      rfl
  | m + 1,i,him=>by
    have hi:i < l.length:=by omega
    have hi1:i + 1 < l.length:=by omega
    have hg:=mem_at (d:=z81) hk hi
    have hh:=mem_at (d:=z81) hk hi1
    have hng:=mem_at (d:=z81) hdeg hi
    have hnh:=mem_at (d:=z81) hdeg hi1
    have kg:=hg.kn;have kh:=hh.kn
    rw[hng] at kg
    rw[hnh] at kh
    have hEi:(l.map E).getD i []=E (l.getD i z81):=getD_map E l i [] z81 hi
    have hEi1:(l.map E).getD (i + 1) []=E (l.getD (i + 1) z81):=getD_map E l (i + 1) [] z81 hi1
    have hdr:(l.drop 1).getD i z81=l.getD (i + 1) z81:=by
      rw[List.getD_eq_getElem?_getD,List.getD_eq_getElem?_getD,List.getElem?_drop,Nat.add_comm]
    have hV:∀ k,shL (k + 1) ((D (l.getD i z81)).map letters) l (i:Int)=((ofT.f k (l.getD (i + 1) z81).f0 (l.getD (i + 1) z81).f1).bind fun bt112=>((verifier_normal.f k (l.getD (i + 1) z81).f0 (l.getD (i + 1) z81).f1 (l.getD i z81).f0 (l.getD i z81).f1 bt112.1 ((D (l.getD i z81)).map letters)).bind fun t115=>(if t115=true then shL k bt112.1 l ((i + 1:Nat):Int) else some false))):=by
      intro k
      simp only[shL,verifier_series_holds.l0]
      rw[if_pos (by rw[List.length_drop];omega),if_pos (by omega),if_pos (by rw[List.length_drop];omega),rdT,rdT,hdr,wrap_succ (by omega)]
      simp only[if_pos (show ((i:Nat):Int) < (l.length:Int) by omega)]
    have hR:∀ k,galoisref60_Series.l2 (k + 1) l (l.map E) ((i + 1:Nat):Int)=((galoisref23_Subset.f k (E (l.getD (i + 1) z81)) (E (l.getD i z81))).bind fun t117=>(if t117=true then (if ((E (l.getD (i + 1) z81)).length:Int)=0 then (none) else (if (((E (l.getD i z81)).length:Int) % ((E (l.getD (i + 1) z81)).length:Int))=0 then rs2 k l (l.map E) ((i + 1 + 1:Nat):Int) (l.getD i z81).f1 (E (l.getD (i + 1) z81)) (wrap64 (((E (l.getD i z81)).length:Int) / ((E (l.getD (i + 1) z81)).length:Int))) else (some 14))) else (some 14))):=by
      intro k
      simp only[galoisref60_Series.l2]
      rw[wrap_pred (by omega),wrap_succ (by omega),rdL3,rdL3,hEi,hEi1,rdT,if_pos (show ((i + 1:Nat):Int) < (l.length:Int) by omega),if_pos (show (0:Int)≤((i + 1:Nat):Int) by omega),if_pos (show ((i + 1:Nat):Int) < ((l.map E).length:Int) by rw[List.length_map];omega),if_pos (show (0:Int)≤(i:Int) by omega),if_pos (show (i:Int) < ((l.map E).length:Int) by rw[List.length_map];omega),if_pos (show (i:Int) < (l.length:Int) by omega)]
      rfl
    obtain⟨b,hb,hbe⟩:=vnormal_ev kg.hn kh.dP kg.dP kg.isP kh.isP kg.gl kh.gl (a:=(l.getD i z81).f0) (a1:=(l.getD (i + 1) z81).f0) kh.pos (by rw[kg.len];exact kg.el)
    obtain⟨s,hs,hse⟩:=subset_ev kg.hn kg.up kg.el (fun p hp=>(kh.eP p hp).len) kh.el
    obtain⟨d,hd,hde⟩:=rn0 kg.hn kh.eP kh.up kh.el kg.isP kg.gl (l.getD i z81).f1.length 0 (by omega)
    rw[List.drop_zero] at hd
    have hag:=agree kh kg
    unfold NV at hag
    rw[← hb] at hag
    unfold NR at hag
    have hpos:0 < (E (l.getD (i + 1) z81)).length:=by rw[← kh.len];exact kh.pos
    have hq:(E (l.getD i z81)).length / (E (l.getD (i + 1) z81)).length≤240:=Nat.le_trans (Nat.div_le_self _ _) kg.el
    have e1:((E (l.getD i z81)).length:Int) % ((E (l.getD (i + 1) z81)).length:Int)=(((E (l.getD i z81)).length % (E (l.getD (i + 1) z81)).length:Nat):Int):=rfl
    have e2:wrap64 (((E (l.getD i z81)).length:Int) / ((E (l.getD (i + 1) z81)).length:Int))=(((E (l.getD i z81)).length / (E (l.getD (i + 1) z81)).length:Nat):Int):=wrap_small hq
    have hpr:=(prime_ev hq).1
    by_cases hbt:b=true
    · obtain⟨r,hr1,hr2⟩:=chain_l h16 hk hdeg m (i + 1) (by omega)
      obtain⟨a1,a2,a3,a4⟩:=hag.1 hbt
      have c3:Ev (fun k=>rs3 k l (l.map E) ((i + 1 + 1:Nat):Int) (l.getD i z81).f1 (E (l.getD (i + 1) z81))) (if r=true then 0 else 14):=Ev.bind hde (Ev.congr (fun k=>by rw[if_pos (hd.2 a4)]) hr2)
      have c2:Ev (fun k=>rs2 k l (l.map E) ((i + 1 + 1:Nat):Int) (l.getD i z81).f1 (E (l.getD (i + 1) z81)) (((E (l.getD i z81)).length / (E (l.getD (i + 1) z81)).length:Nat):Int)) (if r=true then 0 else 14):=Ev.bind hpr (Ev.congr (fun k=>by rw[if_pos a3]) c3)
      exact⟨r,Ev.step hV (Ev.bind (ofT_ev hh) (Ev.bind hbe (Ev.congr (fun k=>by rw[if_pos hbt]) hr1))),Ev.step hR (Ev.bind hse (Ev.congr (fun k=>by rw[if_pos (hs.2 a1),if_neg (by omega),e1,if_pos (Int.natCast_eq_zero.2 a2),e2]) c2))⟩
    · refine⟨false,Ev.step hV (Ev.bind (ofT_ev hh) (Ev.bind hbe (Ev.congr (fun k=>by rw[if_neg hbt]) (Ev.now _)))),Ev.step hR (Ev.bind hse ?_)⟩
      by_cases hs1:s=true
      · by_cases h2:(E (l.getD i z81)).length % (E (l.getD (i + 1) z81)).length=0
        · have c2:Ev (fun k=>rs2 k l (l.map E) ((i + 1 + 1:Nat):Int) (l.getD i z81).f1 (E (l.getD (i + 1) z81)) (((E (l.getD i z81)).length / (E (l.getD (i + 1) z81)).length:Nat):Int)) 14:=by
            refine Ev.bind hpr ?_
            by_cases h3:isPrime ((E (l.getD i z81)).length / (E (l.getD (i + 1) z81)).length)=true
            · have c3:Ev (fun k=>rs3 k l (l.map E) ((i + 1 + 1:Nat):Int) (l.getD i z81).f1 (E (l.getD (i + 1) z81))) 14:=Ev.bind hde (Ev.congr (fun k=>by rw[if_neg (fun hd1=>hbt (hag.2 ⟨hs.1 hs1,h2,h3,hd.1 hd1⟩))]) (Ev.now _))
              exact Ev.congr (fun k=>by rw[if_pos h3]) c3
            · exact Ev.congr (fun k=>by rw[if_neg h3]) (Ev.now _)
          exact Ev.congr (fun k=>by rw[if_pos hs1,if_neg (by omega),e1,if_pos (Int.natCast_eq_zero.2 h2),e2]) c2
        · exact Ev.congr (fun k=>by rw[if_pos hs1,if_neg (by omega),e1,if_neg (fun he=>h2 (Int.natCast_eq_zero.1 he))];rfl) (Ev.now _)
      · exact Ev.congr (fun k=>by rw[if_neg hs1];rfl) (Ev.now _)
theorem series_law {l:List S81} (hgood:∀ g∈l,Good g):∃ v:Int,Ev (fun k=>galoisref60_Series.f k l) v ∧
    Ev (fun k=>verifier_Verify.f k 5 ([]:List S28) false (⟨#[]⟩:ByteArray) (⟨#[]⟩:ByteArray) ([]:List S41) ([]:List S95) 0 ([]:List Int) 0 ([]:List S67) ([]:List S101) ([]:List (List S28)) ([]:List S306) l 0 ([]:List S147) ([]:List S101) 0 ([]:List S87)) v:=by
  have hV:∀ {b:Bool} {v:Int},Ev (fun k=>sfF k l) b→(b=true→∃ h:Bool,v=(if h=true then 0 else 14)∧Ev (fun k=>shF k l) h)→(b=false→v=1) →
      Ev (fun k=>verifier_Verify.f k 5 ([]:List S28) false (⟨#[]⟩:ByteArray) (⟨#[]⟩:ByteArray) ([]:List S41) ([]:List S95) 0 ([]:List Int) 0 ([]:List S67) ([]:List S101) ([]:List (List S28)) ([]:List S306) l 0 ([]:List S147) ([]:List S101) 0 ([]:List S87)) v:=by
    intro b v h1 h2 h3
    have h1':Ev (fun k=>verifier_series_formed.f k 5 ([]:List S28) false (⟨#[]⟩:ByteArray) (⟨#[]⟩:ByteArray) ([]:List S41) ([]:List S95) 0 ([]:List Int) 0 ([]:List S67) ([]:List S101) ([]:List (List S28)) ([]:List S306) l 0 ([]:List S147) ([]:List S101) 0 ([]:List S87)) b:=h1
    refine Ev.congr (fun k=>by unfold verifier_Verify.f;rw[if_neg (by decide),if_pos rfl]) (Ev.bind h1' ?_)
    cases b with
    | false=>rw[h3 rfl];exact Ev.congr (fun k=>by rw[if_neg (by decide)]) (Ev.now _)
    | true =>
      obtain⟨h,rfl,hh⟩:=h2 rfl
      have hh':Ev (fun k=>verifier_series_holds.f k 5 ([]:List S28) false (⟨#[]⟩:ByteArray) (⟨#[]⟩:ByteArray) ([]:List S41) ([]:List S95) 0 ([]:List Int) 0 ([]:List S67) ([]:List S101) ([]:List (List S28)) ([]:List S306) l 0 ([]:List S147) ([]:List S101) 0 ([]:List S87)) h:=hh
      exact Ev.congr (fun k=>by rw[if_pos rfl]) (Ev.bind hh' (Ev.now _))
  have hRbad:Ev (fun k=>galoisref60_Series.j0 k l true) 1:=Ev.step (fun k=>by simp only[galoisref60_Series.j0];rw[if_pos True.intro]) (Ev.now _)
  have hVbad:∀ {P:Prop} [Decidable P],P→Ev (fun k=>verifier_series_formed.j0 k (decide P) 5 ([]:List S28) false (⟨#[]⟩:ByteArray) (⟨#[]⟩:ByteArray) ([]:List S41) ([]:List S95) 0 ([]:List Int) 0 ([]:List S67) ([]:List S101) ([]:List (List S28)) ([]:List S306) l 0 ([]:List S147) ([]:List S101) 0 ([]:List S87)) false:=fun hP=>Ev.step (fun k=>by simp only[verifier_series_formed.j0];rw[if_pos (decide_eq_true hP)]) (Ev.now _)
  by_cases h1:(l.length:Int) < 1
  · refine⟨1,Ev.congr (fun k=>by unfold galoisref60_Series.f;rw[if_pos h1]) hRbad,hV (b:=false) (Ev.congr (fun k=>?_) (hVbad True.intro)) (fun h=>by cases h) (fun _=>rfl)⟩
    unfold sfF verifier_series_formed.f
    rw[if_pos h1]
    rfl
  · by_cases h2:(l.length:Int) > 16
    · refine⟨1,Ev.congr (fun k=>by unfold galoisref60_Series.f;rw[if_neg h1,decide_eq_true h2]) hRbad,hV (b:=false) (Ev.congr (fun k=>?_) (hVbad h2)) (fun h=>by cases h) (fun _=>rfl)⟩
      unfold sfF verifier_series_formed.f
      rw[if_neg h1]
    · have hRl:∀ {v:Int},Ev (fun k=>galoisref60_Series.l0 k l ((0:Nat):Int)) v→Ev (fun k=>galoisref60_Series.f k l) v:=fun h=>Ev.congr (fun k=>by unfold galoisref60_Series.f;rw[if_neg h1,decide_eq_false h2]) (Ev.step (g:=fun k=>galoisref60_Series.j0 k l false) (fun k=>by simp only[galoisref60_Series.j0];rw[if_neg (by decide)];rfl) h)
      have hVl:∀ {v:Bool},Ev (fun k=>sfL k l ((0:Nat):Int)) v→Ev (fun k=>sfF k l) v:=fun h=>Ev.congr (f:=fun k=>verifier_series_formed.j0 k false 5 ([]:List S28) false (⟨#[]⟩:ByteArray) (⟨#[]⟩:ByteArray) ([]:List S41) ([]:List S95) 0 ([]:List Int) 0 ([]:List S67) ([]:List S101) ([]:List (List S28)) ([]:List S306) l 0 ([]:List S147) ([]:List S101) 0 ([]:List S87)) (fun k=>by unfold sfF verifier_series_formed.f;rw[if_neg h1,decide_eq_false h2]) (Ev.step (fun k=>by simp only[verifier_series_formed.j0];rw[if_neg (by decide)];rfl) h)
      by_cases hF:FormOK l 0
      · have hval:∀ g∈l,Valid g.f0 g.f1:=fun g hg=>(hF g (by rw[List.drop_zero];exact hg)).1
        have hch:∀ g:S81,∃ ED:List (List Int) × List (List Int),g∈l→Kn g ED.1 ED.2:=fun g=>by
          by_cases hg:g∈l
          · obtain⟨E,D,h⟩:=hgood g hg (hval g hg)
            exact⟨(E,D),fun _=>h⟩
          · exact⟨([],[]),fun h=>absurd h hg⟩
        have hk:∀ g∈l,Kn g ((fun g=>(Classical.choose (hch g)).1) g) ((fun g=>(Classical.choose (hch g)).2) g):=fun g hg=>Classical.choose_spec (hch g) hg
        generalize (fun g=>(Classical.choose (hch g)).1)=E at hk
        generalize (fun g=>(Classical.choose (hch g)).2)=D at hk
        obtain⟨b,hb1,hb2⟩:=chain_l (n:=(l.getD 0 z81).f0.toNat) (by omega) hk (fun g hg=>by rw[(hF g (by rw[List.drop_zero];exact hg)).2]) (l.length - 1) 0 (by omega)
        have hl1:=lists_l (by omega) hk hb2 l.length 0 (by omega)
        rcases form_l (by omega) (by omega) hgood l.length 0 (by omega) (fun j hj=>by omega) (fun _ _=>hl1) with ⟨_,_,q3,q4⟩|⟨q1,_,_⟩
        · refine⟨_,hRl q4,hV (hVl q3) (fun _=>⟨b,rfl,?_⟩) (fun h=>by cases h)⟩
          have hk0:=mem_at (d:=z81) hk (show 0 < l.length by omega)
          refine Ev.congr (f:=fun k=>(ofT.f k (l.getD 0 z81).f0 (l.getD 0 z81).f1).bind fun bt103=>shL k bt103.1 l 0) (fun k=>?_) (Ev.bind (ofT_ev hk0) hb1)
          unfold shF verifier_series_holds.f
          rw[if_pos (show (0:Int) < (l.length:Int) by omega),rdT0]
          simp only[if_pos (show (1:Int)≤(l.length:Int) by omega)]
          rfl
        · exact absurd hF q1
      · rcases form_l (t:=1) (by omega) (by omega) hgood l.length 0 (by omega) (fun j hj=>by omega) (fun _ h=>absurd h hF) with ⟨q1,_,_,_⟩|⟨_,q3,q4⟩
        · exact absurd q1 hF
        · exact⟨1,hRl q4,hV (hVl q3) (fun h=>by cases h) (fun _=>rfl)⟩
end Go.Proofs.YtjbeoidhbbjcmaaGreat.Grp
