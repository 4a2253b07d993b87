/- The law in plain terms: permutations, groups and what the functions come to. -/
import Derived.Test.YtjbeoidhbbjcmaaGreatC01
import Derived.Test.YtjbeoidhbbjcmaaGreatC03
import Derived.IntWalk
import Derived.Test.YtjbeoidhbbjcmaaGreatC02
import Derived.ChangeArms
import Derived.ChangeShapes
namespace Go.Proofs.YtjbeoidhbbjcmaaGreat.Grp
open Go.RowKit Go.Proofs.YtjbeoidhbbjcmaaGreatW.PrintWords Go.Proofs.YtjbeoidhbbjcmaaGreatW.PrintLast Go.Proofs.YtjbeoidhbbjcmaaGreatW.PrintMore Go.Proofs.YtjbeoidhbbjcmaaGreat.PG
theorem wrap_succ {k:Nat} (h:k < 4611686018427387904):wrap64 ((k:Int) + 1)=((k + 1:Nat):Int):=by
  unfold wrap64;omega
theorem rd9 (xs:List (List Int)) (i:Nat):rd_L2 xs (i:Int)=xs.getD i []:=rfl
/-- What the small functions answer: shown of the program elsewhere. -/
structure Small (n:Nat):Prop where
  n20:n≤20
  ident:Ev (fun k=>galoisref22_Identity.f k (n:Int)) (one n)
  mul:∀ p q,IsP n p→IsP n q→Ev (fun k=>galoisref22_Mul.f k p q) (mul p q)
  has:∀ l p,Up n l→l.length≤240→IsP n p→Ev (fun k=>galoisref23_Has.f k l p) (decide (p∈l))
  place:∀ l p,Up n l→l.length≤240→IsP n p→∃ j:Nat,PlaceAt l p j∧Ev (fun k=>galoisref23_Place.f k l p) (j:Int)
  key:∀ p,IsP n p→∃ s:ByteArray,s.data.toList=letters p∧Ev (fun k=>verifier_key.f k p) s
  times:∀ p q,IsP n p→IsP n q→Ev (fun k=>verifier_times.f k p q) (Grp.mul p q)
section
variable {n : Nat} (S : Small n) {gens : List (List Int)} (hg : ∀ g ∈ gens, IsP n g) (hG : gens.length ≤ 32)
structure CI (n:Nat) (gens all work:List (List Int)):Prop where
  up:Up n all
  made:∀ p∈all,In n gens p
  mem:∀ p,p∈all↔p∈work
  len:all.length=work.length
  le:all.length≤240
  one:one n∈work
/-- What is told of the answer. -/
def Fin (n:Nat) (gens:List (List Int)) (r:List (List Int) × Bool):Prop:=r.2=true→Up n r.1∧r.1.length≤240∧∀ p,p∈r.1↔In n gens p
include S hg hG in
theorem close_l:∀ m:Nat,
    (∀ (all work:List (List Int)) (i:Nat),CI n gens all work→(∀ j,j < i→∀ g∈gens,mul (work.getD j []) g∈all)→i≤work.length→(240 - i) * (gens.length + 2) + gens.length + 1≤m →
      ∃ r,Fin n gens r∧Ev (fun k=>galoisref23_Close.l0 k gens all work (i:Int)) r) ∧
    (∀ (all work:List (List Int)) (i c:Nat),CI n gens all work→(∀ j,j < i→∀ g∈gens,mul (work.getD j []) g∈all)→(∀ q,q < c→mul (work.getD i []) (gens.getD q [])∈all)→i < work.length→c≤gens.length→(240 - i) * (gens.length + 2) + (gens.length - c)≤m →
      ∃ r,Fin n gens r∧Ev (fun k=>galoisref23_Close.l1 k gens all work (i:Int) (c:Int)) r)
  | 0=>by
    refine⟨fun all work i _ _ _ h=>by omega,fun all work i c hc _ _ hi _ h=>?_⟩
    have h1:=hc.le;have h2:=hc.len
    obtain⟨x,hx⟩:∃ x,240 - i=x + 1:=⟨240 - i - 1,by omega⟩
    rw[hx,Nat.add_mul] at h
    omega
  | m + 1=>by
    obtain⟨ih0,ih1⟩:=close_l m
    refine⟨fun all work i hc hd hi hm=>?_,fun all work i c hc hd hp hi hcl hm=>?_⟩
    · have h1:=hc.le;have h2:=hc.len
      by_cases hlt:i < work.length
      · obtain⟨r,hr,he⟩:=ih1 all work i 0 hc hd (fun q hq=>by omega) hlt (by omega) (by omega)
        exact⟨r,hr,Ev.step (fun k=>by simp only[galoisref23_Close.l0];rw[if_pos (by omega)];rfl) he⟩
      · refine⟨(all,true),fun _=>⟨hc.up,hc.le,fun p=>⟨hc.made p,fun hpn=>?_⟩⟩,Ev.step (fun k=>by simp only[galoisref23_Close.l0];rw[if_neg (by omega)]) (Ev.now _)⟩
        induction hpn with
        | one=>exact (hc.mem _).2 hc.one
        | @mul p g _ hgm ih =>
          obtain⟨j,hj,rfl⟩:=List.mem_iff_getElem.1 ((hc.mem _).1 ih)
          have:=hd j (by omega) g hgm
          rwa [List.getD_eq_getElem?_getD,List.getElem?_eq_getElem hj,Option.getD_some] at this
    · have h1:=hc.le;have h2:=hc.len
      obtain⟨x,hx⟩:∃ x,240 - i=x + 1:=⟨240 - i - 1,by omega⟩
      rw[hx,Nat.add_mul] at hm
      by_cases hlt:c < gens.length
      · have hgc:gens.getD c []∈gens:=getD_mem hlt
        have hwi:work.getD i []∈work:=getD_mem hi
        have hpi:=hc.made _ ((hc.mem _).2 hwi)
        have hP:IsP n (work.getD i []):=hpi.isP hg
        have hQ:=mul_isP hP (hg _ hgc)
        have hstep:∀ k,galoisref23_Close.l1 (k + 1) gens all work (i:Int) (c:Int)=((galoisref22_Mul.f k (work.getD i []) (gens.getD c [])).bind fun t115=>((galoisref23_Has.f k all t115).bind fun t118=>(if t118=true then (galoisref23_Close.l1 k gens all work i ((c + 1:Nat):Int)) else (if (all.length:Int) ≥ 240 then (some (([]:List (List Int)),false)) else ((galoisref23_Put.f k all t115).bind fun t119=>(if work.length < 5864062014805 then (galoisref23_Close.l1 k gens t119 (work ++ [t115]) i ((c + 1:Nat):Int)) else (none))))))):=by
          intro k
          simp only[galoisref23_Close.l1]
          rw[if_pos (by omega),if_pos (by omega),if_pos (by omega),if_pos (by omega),rd9,rd9,wrap_succ (by omega)]
        have hpart:∀ all' work':List (List Int),(∀ p∈all,p∈all')→(∀ q,q < c→mul (work.getD i []) (gens.getD q [])∈all)→mul (work.getD i []) (gens.getD c [])∈all'→work'.getD i []=work.getD i []→∀ q,q < c + 1→mul (work'.getD i []) (gens.getD q [])∈all':=by
          intro all' work' hs hq hn hw q hqc
          rw[hw]
          by_cases hqe:q=c
          · subst hqe;exact hn
          · exact hs _ (hq q (by omega))
        by_cases hin:mul (work.getD i []) (gens.getD c [])∈all
        · obtain⟨r,hr,he⟩:=ih1 all work i (c + 1) hc hd (hpart all work (fun _ h=>h) hp hin rfl) hi hlt (by rw[hx,Nat.add_mul];omega)
          refine⟨r,hr,Ev.step hstep (Ev.bind (S.mul _ _ hP (hg _ hgc)) (Ev.bind (S.has all _ hc.up hc.le hQ) ?_))⟩
          exact Ev.congr (fun k=>by rw[if_pos (decide_eq_true hin)]) he
        · by_cases hfull:240≤all.length
          · refine⟨([],false),fun h=>by simp at h,Ev.step hstep (Ev.bind (S.mul _ _ hP (hg _ hgc)) (Ev.bind (S.has all _ hc.up hc.le hQ) ?_))⟩
            exact Ev.congr (fun k=>by rw[if_neg (by rw[decide_eq_false hin];exact Bool.false_ne_true),if_pos (by omega)]) (Ev.now _)
          · obtain⟨j,hj,hje⟩:=S.place all _ hc.up hc.le hQ
            obtain⟨hup,hmem⟩:=put_up hc.up (hQ.len) hj hin
            have hput:Ev (fun k=>galoisref23_Put.f k all (mul (work.getD i []) (gens.getD c []))) (all.take j ++ mul (work.getD i []) (gens.getD c []) :: all.drop j):=by
              have hjl:=hj.le
              exact Ev.bind hje (Ev.congr (fun k=>by rw[if_pos ⟨by omega,by omega,by omega⟩,Int.toNat_natCast]) (Ev.now _))
            have hlen:(all.take j ++ mul (work.getD i []) (gens.getD c []) :: all.drop j).length=all.length + 1:=by
              have hjl:=hj.le
              simp;omega
            have hgd:∀ q,q < work.length→(work ++ [mul (work.getD i []) (gens.getD c [])]).getD q []=work.getD q []:=by
              intro q hq
              simp only[List.getD_eq_getElem?_getD]
              rw[List.getElem?_append_left hq]
            have hc':CI n gens (all.take j ++ mul (work.getD i []) (gens.getD c []) :: all.drop j) (work ++ [mul (work.getD i []) (gens.getD c [])]):=by
              refine⟨hup,fun p hpm=>?_,fun p=>?_,by rw[hlen,List.length_append,hc.len];rfl,by omega,by simp[hc.one]⟩
              · rcases (hmem p).1 hpm with rfl|h
                · exact In.mul hpi hgc
                · exact hc.made p h
              · rw[hmem,List.mem_append,List.mem_singleton,hc.mem]
                exact or_comm
            obtain⟨r,hr,he⟩:=ih1 _ _ i (c + 1) hc' (fun q hq g hgm=>by rw[hgd q (by omega)];exact (hmem _).2 (.inr (hd q hq g hgm))) (hpart _ _ (fun p h=>(hmem p).2 (.inr h)) hp ((hmem _).2 (.inl rfl)) (hgd i hi)) (by simp;omega) hlt (by rw[hx,Nat.add_mul];omega)
            refine⟨r,hr,Ev.step hstep (Ev.bind (S.mul _ _ hP (hg _ hgc)) (Ev.bind (S.has all _ hc.up hc.le hQ) ?_))⟩
            refine Ev.congr (fun k=>by rw[if_neg (by rw[decide_eq_false hin];exact Bool.false_ne_true),if_neg (by omega)]) (Ev.bind hput ?_)
            exact Ev.congr (fun k=>by rw[if_pos (by omega)]) he
      · have hce:c=gens.length:=by omega
        subst hce
        obtain⟨r,hr,he⟩:=ih0 all work (i + 1) hc (fun j hj g hgm=>by
          by_cases hji:j < i
          · exact hd j hji g hgm
          · have:j=i:=by omega
            subst this
            obtain⟨q,hq,rfl⟩:=List.mem_iff_getElem.1 hgm
            have:=hp q hq
            rwa [List.getD_eq_getElem?_getD (l:=gens),List.getElem?_eq_getElem hq,Option.getD_some] at this) (by omega) (by
          have:240 - (i + 1)=x:=by omega
          rw[this];omega)
        exact⟨r,hr,Ev.step (fun k=>by simp only[galoisref23_Close.l1];rw[if_neg (by omega),wrap_succ (by omega)]) he⟩
include S hg hG in
theorem close_ev:∃ r,Fin n gens r∧Ev (fun k=>galoisref23_Close.f k (n:Int) gens) r:=by
  obtain⟨r,hr,he⟩:=(close_l S hg hG ((240 - 0) * (gens.length + 2) + gens.length + 1)).1 [one n] [one n] 0
    ⟨⟨fun p hp=>by rw[List.mem_singleton.1 hp];exact (one_isP n).len,by simp⟩,fun p hp=>by rw[List.mem_singleton.1 hp];exact In.one,fun p=>Iff.rfl,rfl,by simp,by simp⟩ (fun j hj=>by omega) (by simp) (Nat.le_refl _)
  exact⟨r,hr,Ev.bind S.ident (Ev.bind S.ident he)⟩
/-- m has the keys of what is known, l what waits. -/
structure OI (n:Nat) (gens:List (List Int)) (m:Ks) (D l:List (List Int)):Prop where
  keys:m=D.map letters
  nd:D.Nodup
  made:∀ p∈D,In n gens p
  one:one n∈D
  wait:∀ p∈l,p∈D
  done:∀ p∈D,p∈l∨∀ g∈gens,mul p g∈D
  nl:l.Nodup
theorem mem_keys (hn:n≤20) {D:List (List Int)} (hD:∀ p∈D,IsP n p) {p:List Int} (hp:IsP n p):letters p∈D.map letters↔p∈D:=by
  rw[List.mem_map]
  constructor
  · rintro⟨q,hq,he⟩
    rwa [← letters_inj (by omega) (hD q hq) hp he]
  · exact fun h=>⟨p,h,rfl⟩
theorem size_letters {s:ByteArray} {p:List Int} (hs:s.data.toList=letters p):s.size=p.length:=by
  show s.data.size=_
  rw[← Array.length_toList,hs]
  simp[letters]
include S hg hG in
/-- all: the elements as the reference lists them: they bound what is to be done. -/
theorem of_l {all:List (List Int)} (hall:∀ p,p∈all↔In n gens p) (hal:all.length≤240):∀ b:Nat,
    (∀ (m:Ks) (D l:List (List Int)),OI n gens m D l→(2 * (240 - D.length) + l.length) * (gens.length + 2) + gens.length + 1≤b →
      ∃ D':List (List Int),D'.Nodup∧(∀ p,p∈D'↔In n gens p)∧Ev (fun k=>verifier_of.l1 k m l gens) (some (D'.map letters))) ∧
    (∀ (m:Ks) (D l:List (List Int)) (p:List Int) (i:Nat),OI n gens m D (l ++ [p])→(∀ q,q < i→mul p (gens.getD q [])∈D)→i≤gens.length→(2 * (240 - D.length) + l.length + 1) * (gens.length + 2) + (gens.length - i)≤b →
      ∃ D':List (List Int),D'.Nodup∧(∀ p,p∈D'↔In n gens p)∧Ev (fun k=>verifier_of.l2 k m l p (i:Int) gens) (some (D'.map letters)))
  | 0=>⟨fun _ _ _ _ h=>by omega,fun m D l p i _ _ _ h=>by rw[Nat.add_mul] at h;omega⟩
  | b + 1=>by
    obtain⟨ih1,ih2⟩:=of_l hall hal b
    have hn:=S.n20
    have hDl:∀ {m:Ks} {D l:List (List Int)},OI n gens m D l→D.length≤240:=fun h=>Nat.le_trans (nodup_le h.nd fun x hx=>(hall x).2 (h.made x hx)) hal
    refine⟨fun m D l ho hb=>?_,fun m D l p i ho hpi hi hb=>?_⟩
    · by_cases hl:0 < l.length
      · obtain⟨l',p,rfl⟩:∃ l' p,l=l' ++ [p]:=⟨l.dropLast,l.getLast (by intro h;simp[h] at hl),(List.dropLast_concat_getLast _).symm⟩
        have hlen:(l' ++ [p]).length=l'.length + 1:=by simp
        rw[hlen] at hb
        obtain⟨D',h1,h2,he⟩:=ih2 m D l' p 0 ho (fun q hq=>by omega) (by omega) (by rw[← Nat.add_assoc] at hb;omega)
        refine⟨D',h1,h2,Ev.step (fun k=>?_) he⟩
        simp only[verifier_of.l1]
        rw[if_pos hl,hlen]
        have e1:(l' ++ [p]).take (l'.length + 1 - 1)=l':=by simp
        have e2:(l' ++ [p]).getD (l'.length + 1 - 1) []=p:=by simp[List.getD_eq_getElem?_getD]
        rw[e1,e2];rfl
      · have:l=[]:=List.length_eq_zero_iff.1 (by omega)
        subst this
        refine⟨D,ho.nd,fun p=>⟨ho.made p,fun hpn=>?_⟩,Ev.step (fun k=>by simp only[verifier_of.l1];rw[if_neg hl,ho.keys]) (Ev.now _)⟩
        induction hpn with
        | one=>exact ho.one
        | mul _ hgm ih=>exact (ho.done _ ih).elim (fun h=>by simp at h) (fun h=>h _ hgm)
    · have hP:IsP n p:=(ho.made p (ho.wait p (by simp))).isP hg
      have hDP:∀ q∈D,IsP n q:=fun q hq=>(ho.made q hq).isP hg
      have hdl:=hDl ho
      by_cases hlt:i < gens.length
      · have hgc:gens.getD i []∈gens:=getD_mem hlt
        have hQ:=mul_isP hP (hg _ hgc)
        obtain⟨s,hs,hse⟩:=S.key _ hQ
        have hsz:s.size≤maxLen:=by rw[size_letters hs,hQ.len];show n≤9223372036854775807;omega
        have hmk:s.data.toList∈m↔mul p (gens.getD i [])∈D:=by rw[hs,ho.keys];exact mem_keys hn hDP hQ
        have hstep:∀ k,verifier_of.l2 (k + 1) m l p (i:Int) gens=((verifier_times.f k p (gens.getD i [])).bind fun y=>(verifier_key.f k y).bind fun s=>(mlook m s).bind fun b=>if b=true then verifier_of.l2 k m l p ((i + 1:Nat):Int) gens else (mput m s).bind fun m'=>if 5040 < m'.length then some none else (if l.length < 5864062014805 then verifier_of.l2 k m' (l ++ [y]) p ((i + 1:Nat):Int) gens else none)):=by
          intro k
          simp only[verifier_of.l2]
          rw[if_pos (by omega),if_pos (by omega),Int.toNat_natCast,wrap_succ (by omega)]
        have hlook:mlook m s=some (decide (s.data.toList∈m)):=by unfold mlook;rw[if_pos hsz]
        by_cases hin:mul p (gens.getD i [])∈D
        · obtain⟨D',h1,h2,he⟩:=ih2 m D l p (i + 1) ho (fun q hq=>by
            by_cases hqe:q=i
            · subst hqe;exact hin
            · exact hpi q (by omega)) hlt (by omega)
          refine⟨D',h1,h2,Ev.step hstep (Ev.bind (S.times _ _ hP (hg _ hgc)) (Ev.bind hse ?_))⟩
          exact Ev.congr (fun k=>by rw[hlook,Option.bind_some,if_pos (decide_eq_true (hmk.2 hin))]) he
        · have hml:m.length=D.length:=by rw[ho.keys,List.length_map]
          have hlD:=nodup_le ho.nl ho.wait
          rw[List.length_append,List.length_singleton] at hlD
          have ho':OI n gens (m ++ [s.data.toList]) (D ++ [mul p (gens.getD i [])]) ((l ++ [mul p (gens.getD i [])]) ++ [p]):=by
            refine⟨by rw[List.map_append,ho.keys,hs];rfl,?_,?_,by simp[ho.one],?_,?_,?_⟩
            · rw[List.nodup_append]
              exact⟨ho.nd,by simp,fun a ha c hc he=>by rw[List.mem_singleton] at hc;subst hc;subst he;exact hin ha⟩
            · intro q hq
              rcases List.mem_append.1 hq with h|h
              · exact ho.made q h
              · rw[List.mem_singleton.1 h];exact In.mul (ho.made p (ho.wait p (by simp))) hgc
            · intro q hq
              simp only[List.mem_append,List.mem_singleton] at hq ⊢
              rcases hq with (h|h)|h
              · exact .inl (ho.wait q (by simp[h]))
              · exact .inr h
              · subst h;exact .inl (ho.wait q (by simp))
            · intro q hq
              simp only[List.mem_append,List.mem_singleton] at hq ⊢
              rcases hq with h|h
              · rcases ho.done q h with h|h
                · simp only[List.mem_append,List.mem_singleton] at h
                  rcases h with h|h
                  · exact .inl (.inl (.inl h))
                  · exact .inl (.inr h)
                · exact .inr fun g hgm=>.inl (h g hgm)
              · exact .inl (.inl (.inr h))
            · have hnl:=ho.nl
              rw[List.nodup_append] at hnl
              rw[List.nodup_append,List.nodup_append]
              refine⟨⟨hnl.1,by simp,fun a ha c hc he=>?_⟩,by simp,fun a ha c hc he=>?_⟩
              · have h1:=List.mem_singleton.1 hc
                rw[he,h1] at ha
                exact hin (ho.wait _ (List.mem_append_left _ ha))
              · rcases List.mem_append.1 ha with ha|ha
                · exact hnl.2.2 a ha c hc he
                · have h1:=List.mem_singleton.1 ha
                  have h2:=List.mem_singleton.1 hc
                  rw[← h1,he,h2] at hin
                  exact hin (ho.wait p (List.mem_append_right _ (List.mem_singleton.2 rfl)))
          have hdl':=hDl ho'
          have hlen':(D ++ [mul p (gens.getD i [])]).length=D.length + 1:=by simp
          rw[hlen'] at hdl'
          have hput:mput m s=some (m ++ [s.data.toList]):=by
            unfold mput
            rw[if_pos ⟨hsz,by rw[hmk];exact hin,by rw[hml];show D.length < 9223372036854775807;omega⟩]
          obtain⟨D',h1,h2,he⟩:=ih2 _ _ (l ++ [mul p (gens.getD i [])]) p (i + 1) ho' (fun q hq=>by
            by_cases hqe:q=i
            · subst hqe;simp
            · exact List.mem_append.2 (.inl (hpi q (by omega)))) hlt (by
            rw[hlen',List.length_append,List.length_singleton]
            obtain⟨x,hx⟩:∃ x,2 * (240 - D.length) + l.length + 1=x + 1:=⟨_,rfl⟩
            have hx':2 * (240 - (D.length + 1)) + (l.length + 1) + 1=x:=by omega
            rw[hx,Nat.add_mul] at hb
            rw[hx'];omega)
          have hlb:l.length < 5864062014805:=by omega
          refine⟨D',h1,h2,Ev.step hstep (Ev.bind (S.times _ _ hP (hg _ hgc)) (Ev.bind hse ?_))⟩
          refine Ev.congr (fun k=>by rw[hlook,Option.bind_some,if_neg (by rw[decide_eq_false (fun h=>hin (hmk.1 h))];exact Bool.false_ne_true),hput,Option.bind_some,if_neg (by rw[List.length_append,hml];simp;omega),if_pos hlb]) he
      · have hie:i=gens.length:=by omega
        subst hie
        have ho':OI n gens m D l:=by
          refine⟨ho.keys,ho.nd,ho.made,ho.one,fun q hq=>ho.wait q (by simp[hq]),fun q hq=>?_,(List.nodup_append.1 ho.nl).1⟩
          rcases ho.done q hq with h|h
          · rcases List.mem_append.1 h with h|h
            · exact .inl h
            · rw[List.mem_singleton] at h
              subst h
              refine .inr fun g hgm=>?_
              obtain⟨c,hc,rfl⟩:=List.mem_iff_getElem.1 hgm
              have:=hpi c hc
              rwa [List.getD_eq_getElem?_getD (l:=gens),List.getElem?_eq_getElem hc,Option.getD_some] at this
          · exact .inr h
        obtain⟨D',h1,h2,he⟩:=ih1 m D l ho' (by rw[Nat.add_mul] at hb;omega)
        exact⟨D',h1,h2,Ev.step (fun k=>by simp only[verifier_of.l2];rw[if_neg (by omega)]) he⟩
end
end Go.Proofs.YtjbeoidhbbjcmaaGreat.Grp
namespace Go.Proofs.YtjbeoidhbbjcmaaGreat
open Go.RowKit Go.Proofs.YtjbeoidhbbjcmaaGreatW.PrintWords Go.Proofs.YtjbeoidhbbjcmaaGreatW.PrintLast
theorem list_of {α:Type} {Q:Nat→α→Prop}:∀ n:Nat,(∀ i,i < n→∃ a,Q i a)→∃ xs:List α,xs.length=n∧∀ i a,xs[i]?=some a→Q i a
  | 0,_=>⟨[],rfl,fun i a h=>by simp at h⟩
  | n + 1,h=>by
    obtain⟨xs,hl,hx⟩:=list_of n (fun i hi=>h i (by omega))
    obtain⟨a,ha⟩:=h n (by omega)
    refine⟨xs ++ [a],by simp[hl],fun i b hb=>?_⟩
    by_cases hi:i < n
    · rw[List.getElem?_append_left (by omega)] at hb
      exact hx i b hb
    · rw[List.getElem?_append_right (by omega)] at hb
      by_cases he:i=n
      · subst he
        rw[hl,Nat.sub_self] at hb
        simp at hb
        subst hb
        exact ha
      · obtain⟨m,hm⟩:∃ m,i - xs.length=m + 1:=⟨i - xs.length - 1,by omega⟩
        rw[hm] at hb
        simp at hb
section
variable {H : Type} {enc : TypeId × Value → H} {P : Program} {w : World}
/-- What is trodden at this type is read by this kind. -/
def Rd {α:Type} (enc:TypeId × Value→H) (P:Program) (w:World) (d:Kd α) (t:TypeId):Prop :=
  ∀ (f:Nat) (cs:List Value) (x:DataW H × List MemPlace),DataW.trod enc P w 0 (fun _=>true) true f t cs=some x→∃ a,d.K w a cs
theorem rd_int {t:TypeId} {k:IntKind} (ht:P.underlying t=some (.int k)):Rd enc P w (Kd.int k) t:=by
  intro f cs x h
  obtain⟨n,rfl,_,_⟩:=DataW.trod_int ht h
  exact⟨n,rfl⟩
theorem rd_row {α:Type} {d:Kd α} {t e:TypeId} (ht:P.underlying t=some (.slice e)) (hs:P.cellsOf e=d.sz) (hd:Rd enc P w d e) {f:Nat} {cs:List Value} {x:DataW H × List MemPlace} (h:DataW.trod enc P w 0 (fun _=>true) true f t cs=some x) :
    ∃ (A:Option Addr) (n c:Nat) (xs:List α),cs=[.slice A n c]∧xs.length=n∧n≤c∧d.C w A n xs:=by
  rcases DataW.trod_slice ht h with ⟨rfl,_⟩|⟨a,len,cap,elems,rest,n,_,rfl,_,_,hl,hm,hlen,hel,_,_⟩
  · exact⟨none,0,0,[],rfl,rfl,Nat.le_refl _,rfl,by omega,fun h=>by omega⟩
  · have hm':cap≤9223372036854775807:=hm
    obtain⟨xs,hxl,hx⟩:=list_of (Q:=fun i a0=>∃ c,c.length=d.sz∧d.K w a0 c∧∀ j u,c[j]?=some u→w.cell? (a.add (i * d.sz + j))=some u) len (fun i hi=>by
      have h1:=hel i hi
      rw[List.getElem?_eq_getElem (by omega)] at h1
      obtain⟨c,hc,hc2⟩:=Option.bind_eq_some_iff.1 h1
      obtain⟨a0,ha⟩:=hd _ _ _ hc2
      obtain⟨_,h3,h4⟩:=World.cells?_some hc
      refine⟨a0,c,by rw[h3,hs],ha,fun j u hj=>?_⟩
      have hjl:j < c.length:=(List.getElem?_eq_some_iff.1 hj).1
      have h5:=h4 j (by omega)
      rw[hj,hs,Addr.add_add] at h5
      exact h5)
    exact⟨some a,len,cap,xs,rfl,hxl,hl,hxl,by omega,fun _=>⟨a,rfl,fun j p hp=>hx j p hp⟩⟩
theorem rd_slice {α:Type} {d:Kd α} {t e:TypeId} (ht:P.underlying t=some (.slice e)) (hs:P.cellsOf e=d.sz) (hd:Rd enc P w d e):Rd enc P w (Kd.slice e d) t:=by
  intro f cs x h
  obtain⟨A,n,c,xs,rfl,rfl,hl,hC⟩:=rd_row ht hs hd h
  exact⟨xs,A,c,rfl,hl,hC⟩
end
end Go.Proofs.YtjbeoidhbbjcmaaGreat
