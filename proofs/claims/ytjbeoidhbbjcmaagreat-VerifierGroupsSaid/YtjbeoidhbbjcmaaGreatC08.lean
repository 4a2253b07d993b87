/- The law in plain terms: permutations, groups and what the functions come to. -/
import Derived.Test.YtjbeoidhbbjcmaaGreatC06
import Derived.Test.YtjbeoidhbbjcmaaGreatC07
import Derived.Test.YtjbeoidhbbjcmaaGreatC05
namespace Go.Proofs.YtjbeoidhbbjcmaaGreat.Grp
open Go.RowKit Go.Proofs.YtjbeoidhbbjcmaaGreatW.PrintWords Go.Proofs.YtjbeoidhbbjcmaaGreatW.PrintLast Go.Proofs.YtjbeoidhbbjcmaaGreatW.PrintMore Go.Proofs.YtjbeoidhbbjcmaaGreat.PG
theorem drop_cons {α:Type} {l:List α} {i:Nat} {d:α} (h:i < l.length):l.drop i=l.getD i d :: l.drop (i + 1):=by
  rw[List.drop_eq_getElem_cons h,List.getD_eq_getElem?_getD,List.getElem?_eq_getElem h];rfl
theorem comp_l {n:Nat} (hn:n≤20) {p q:List Int} (hp:p.length=n) (hq:q.length=n):∀ (m i:Nat),i + m=n→Ev (fun k=>galoisref22_Compare.l0 k p q (i:Int)) (lx (p.drop i) (q.drop i))
  | 0,i,him=>by
    rw[List.drop_eq_nil_of_le (by omega),List.drop_eq_nil_of_le (by omega)]
    exact Ev.step (fun k=>by simp only[galoisref22_Compare.l0];rw[if_neg (by omega)];rfl) (Ev.now _)
  | m + 1,i,him=>by
    have ih:=comp_l hn hp hq m (i + 1) (by omega)
    rw[drop_cons (d:=(0:Int)) (l:=p) (by omega),drop_cons (d:=(0:Int)) (l:=q) (by omega)]
    unfold lx
    by_cases h1:p.getD i 0 < q.getD i 0
    · rw[if_pos h1]
      exact Ev.step (fun k=>by simp only[galoisref22_Compare.l0];rw[if_pos (by omega),if_pos (by omega),if_pos (by omega),if_pos (show rd p (i:Int) < rd q (i:Int) from h1)]) (Ev.now _)
    · rw[if_neg h1]
      by_cases h2:p.getD i 0 > q.getD i 0
      · rw[if_pos h2]
        exact Ev.step (fun k=>by simp only[galoisref22_Compare.l0];rw[if_pos (by omega),if_pos (by omega),if_pos (by omega),if_neg (show ¬ rd p (i:Int) < rd q (i:Int) from h1),if_pos (show rd p (i:Int) > rd q (i:Int) from h2)]) (Ev.now _)
      · rw[if_neg h2]
        exact Ev.step (fun k=>by simp only[galoisref22_Compare.l0];rw[if_pos (by omega),if_pos (by omega),if_pos (by omega),if_neg (show ¬ rd p (i:Int) < rd q (i:Int) from h1),if_neg (show ¬ rd p (i:Int) > rd q (i:Int) from h2),wrap_succ (by omega)]) ih
theorem comp_ev {n:Nat} (hn:n≤20) {p q:List Int} (hp:p.length=n) (hq:q.length=n):Ev (fun k=>galoisref22_Compare.f k p q) (lx p q):=by
  have h:=comp_l hn hp hq n 0 (by omega)
  rw[List.drop_zero,List.drop_zero] at h
  exact h
theorem same_l {n:Nat} (hn:n≤20) {p q:List Int} (hp:p.length=n) (hq:q.length=n):∀ (m i:Nat),i + m=n→Ev (fun k=>galoisref22_Same.l0 k p q (i:Int)) (decide (p.drop i=q.drop i))
  | 0,i,him=>by
    rw[List.drop_eq_nil_of_le (by omega),List.drop_eq_nil_of_le (by omega)]
    exact Ev.step (fun k=>by simp only[galoisref22_Same.l0];rw[if_neg (by omega)];rfl) (Ev.now _)
  | m + 1,i,him=>by
    have ih:=same_l hn hp hq m (i + 1) (by omega)
    rw[drop_cons (d:=(0:Int)) (l:=p) (by omega),drop_cons (d:=(0:Int)) (l:=q) (by omega)]
    by_cases h1:p.getD i 0=q.getD i 0
    · have e:decide (p.getD i 0 :: p.drop (i + 1)=q.getD i 0 :: q.drop (i + 1))=decide (p.drop (i + 1)=q.drop (i + 1)):=by simp only[List.cons.injEq,h1,true_and]
      rw[e]
      exact Ev.step (fun k=>by simp only[galoisref22_Same.l0];rw[if_pos (by omega),if_pos (by omega),if_pos (by omega),if_pos (show rd p (i:Int)=rd q (i:Int) from h1),wrap_succ (by omega)]) ih
    · have e:decide (p.getD i 0 :: p.drop (i + 1)=q.getD i 0 :: q.drop (i + 1))=false:=by simp only[List.cons.injEq,h1,false_and,decide_false]
      rw[e]
      exact Ev.step (fun k=>by simp only[galoisref22_Same.l0];rw[if_pos (by omega),if_pos (by omega),if_pos (by omega),if_neg (show ¬ rd p (i:Int)=rd q (i:Int) from h1)]) (Ev.now _)
theorem same_ev {n:Nat} (hn:n≤20) {p q:List Int} (hp:p.length=n) (hq:q.length=n):Ev (fun k=>galoisref22_Same.f k p q) (decide (p=q)):=by
  have h:=same_l hn hp hq n 0 (by omega)
  rw[List.drop_zero,List.drop_zero] at h
  refine Ev.congr (fun k=>?_) h
  unfold galoisref22_Same.f
  rw[if_pos (by omega)]
  rfl
theorem place_l {n:Nat} (hn:n≤20) {l:List (List Int)} {p:List Int} (hl:Up n l) (hlen:l.length≤240) (hp:p.length=n):∀ (m a b:Nat),b - a≤m→a≤b→b≤l.length →
    (∀ i (h:i < l.length),i < a→lx l[i] p < 0)→(∀ i (h:i < l.length),b≤i→¬ lx l[i] p < 0)→∃ j:Nat,PlaceAt l p j∧Ev (fun k=>galoisref23_Place.l0 k l p (a:Int) (b:Int)) (j:Int)
  | 0,a,b,hm,hab,hb,h1,h2=>by
    have:a=b:=by omega
    subst this
    exact⟨a,⟨hb,fun i h hi=>h1 i h hi,fun i h hi=>h2 i h hi⟩,Ev.step (fun k=>by simp only[galoisref23_Place.l0];rw[if_neg (by omega)]) (Ev.now _)⟩
  | m + 1,a,b,hm,hab,hb,h1,h2=>by
    by_cases hlt:a < b
    · have hc0:(a + b) / 2 < l.length:=by omega
      have hca:a≤(a + b) / 2:=by omega
      have hcb:(a + b) / 2 < b:=by omega
      have hw:wrap64 (Int.tdiv (wrap64 ((a:Int) + (b:Int))) 2)=(((a + b) / 2:Nat):Int):=by
        have e1:wrap64 ((a:Int) + (b:Int))=((a + b:Nat):Int):=by unfold wrap64;omega
        rw[e1]
        have e2:Int.tdiv ((a + b:Nat):Int) 2=(((a + b) / 2:Nat):Int):=rfl
        rw[e2]
        unfold wrap64;omega
      generalize hcdef:(a + b) / 2=c at hc0 hca hcb hw
      have hcmp:=comp_ev hn (hl.len (l[c]) (List.getElem_mem hc0)) hp
      have hge:l.getD c []=l[c]:=by rw[List.getD_eq_getElem?_getD,List.getElem?_eq_getElem hc0];rfl
      by_cases hx:lx l[c] p < 0
      · obtain⟨j,hj,he⟩:=place_l hn hl hlen hp m (c + 1) b (by omega) (by omega) hb (fun i h hi=>by
          by_cases hic:i=c
          · subst hic;exact hx
          · have:=List.pairwise_iff_getElem.1 hl.up i c h hc0 (by omega)
            exact lx_trans (by rw[hl.len _ (List.getElem_mem h),hl.len _ (List.getElem_mem hc0)]) (by rw[hl.len _ (List.getElem_mem hc0),hp]) this hx) h2
        refine⟨j,hj,Ev.step (f:=fun k=>(galoisref22_Compare.f k (l[c]) p).bind fun t=>if t < 0 then galoisref23_Place.l0 k l p ((c + 1:Nat):Int) (b:Int) else galoisref23_Place.l0 k l p (a:Int) (c:Int)) (fun k=>?_) (Ev.bind hcmp (Ev.congr (fun k=>by rw[if_pos hx]) he))⟩
        simp only[galoisref23_Place.l0]
        rw[if_pos (by omega),hw,if_pos (by omega),if_pos (by omega),rd9,hge,wrap_succ (by omega)]
      · obtain⟨j,hj,he⟩:=place_l hn hl hlen hp m a c (by omega) (by omega) (by omega) h1 (fun i h hi=>by
          by_cases hic:i=c
          · subst hic;exact hx
          · have hup:=List.pairwise_iff_getElem.1 hl.up c i hc0 h (by omega)
            intro hxi
            exact hx (lx_trans (by rw[hl.len _ (List.getElem_mem h),hl.len _ (List.getElem_mem hc0)]) (by rw[hl.len _ (List.getElem_mem h),hp]) hup hxi))
        refine⟨j,hj,Ev.step (f:=fun k=>(galoisref22_Compare.f k (l[c]) p).bind fun t=>if t < 0 then galoisref23_Place.l0 k l p ((c + 1:Nat):Int) (b:Int) else galoisref23_Place.l0 k l p (a:Int) (c:Int)) (fun k=>?_) (Ev.bind hcmp (Ev.congr (fun k=>by rw[if_neg hx]) he))⟩
        simp only[galoisref23_Place.l0]
        rw[if_pos (by omega),hw,if_pos (by omega),if_pos (by omega),rd9,hge,wrap_succ (by omega)]
    · have:a=b:=by omega
      subst this
      exact⟨a,⟨hb,fun i h hi=>h1 i h hi,fun i h hi=>h2 i h hi⟩,Ev.step (fun k=>by simp only[galoisref23_Place.l0];rw[if_neg (by omega)]) (Ev.now _)⟩
theorem place_ev {n:Nat} (hn:n≤20) {l:List (List Int)} {p:List Int} (hl:Up n l) (hlen:l.length≤240) (hp:p.length=n):∃ j:Nat,PlaceAt l p j∧Ev (fun k=>galoisref23_Place.f k l p) (j:Int) :=
  place_l hn hl hlen hp l.length 0 l.length (by omega) (by omega) (Nat.le_refl _) (fun i h hi=>by omega) (fun i h hi=>by omega)
theorem has_ev {n:Nat} (hn:n≤20) {l:List (List Int)} {p:List Int} (hl:Up n l) (hlen:l.length≤240) (hp:p.length=n):Ev (fun k=>galoisref23_Has.f k l p) (decide (p∈l)):=by
  obtain⟨j,hj,he⟩:=place_ev hn hl hlen hp
  unfold galoisref23_Has.f
  refine Ev.bind he ?_
  by_cases hlt:j < l.length
  · have hge:l.getD j []=l[j]:=by rw[List.getD_eq_getElem?_getD,List.getElem?_eq_getElem hlt];rfl
    have hs:=same_ev hn (hl.len (l[j]) (List.getElem_mem hlt)) hp
    have hiff:decide (l[j]=p)=decide (p∈l):=by
      rw[decide_eq_decide,hj.mem hl hp]
      exact⟨fun h=>⟨hlt,h⟩,fun ⟨_,h⟩=>h⟩
    rw[hiff] at hs
    refine Ev.congr (fun k=>?_) (Ev.bind hs (Ev.now _))
    rw[if_pos (by omega),if_pos (by omega),rd9,hge]
  · have hiff:decide (p∈l)=false:=by
      rw[decide_eq_false_iff_not,hj.mem hl hp]
      rintro⟨h,_⟩;omega
    rw[hiff]
    exact Ev.congr (fun k=>by rw[if_neg (by omega)]) (Ev.now _)
theorem key_l {n:Nat} (hn:n≤20) {p:List Int} (hp:IsP n p):∀ (m i:Nat) (x:List Int),i + m=n→x.length=n→(∀ j,j < i→x.getD j 0=p.getD j 0)→Ev (fun k=>verifier_key.l0 k x p (n:Int) (i:Int)) (strOfNums p)
  | 0,i,x,him,hx,hj=>by
    have hpl:=hp.len
    have:x=p:=ext_getD 0 (by omega) fun j hjl=>hj j (by omega)
    subst this
    exact Ev.step (fun k=>by simp only[verifier_key.l0];rw[if_neg (by omega)]) (Ev.now _)
  | m + 1,i,x,him,hx,hj=>by
    have hpl:=hp.len
    obtain⟨h0,h1⟩:=hp.getD (j:=i) (by omega)
    have ih:=key_l hn hp m (i + 1) (x.set i (p.getD i 0)) (by omega) (by simp[hx]) fun j hji=>by
      rw[getD_set (by omega)]
      split
      · rename_i h;rw[h]
      · exact hj j (by omega)
    have e:rd p (i:Int) % 256=p.getD i 0:=by rw[rdN];omega
    exact Ev.step (fun k=>by simp only[verifier_key.l0];rw[if_pos (by omega),if_pos (by omega),if_pos (by omega),if_pos (by omega),wrap_succ (by omega),e];rfl) ih
theorem key_ev {n:Nat} (hn:n≤20) {p:List Int} (hp:IsP n p):Ev (fun k=>verifier_key.f k p) (strOfNums p):=by
  have hpl:=hp.len
  refine Ev.congr (fun k=>?_) (key_l hn hp n 0 (List.replicate n 0) (by omega) (by simp) (fun j hj=>by omega))
  unfold verifier_key.f
  rw[if_pos (by omega),if_pos (by simp;omega),hpl]
  rfl
theorem small {n:Nat} (hn:n≤20):Small n where
  n20:=hn
  ident:=ident_ev hn
  mul:=fun _ _ hp hq=>(mul_ev hn hp hq).1
  has:=fun _ _ hl hlen hp=>has_ev hn hl hlen hp.len
  place:=fun _ _ hl hlen hp=>place_ev hn hl hlen hp.len
  key:=fun _ hp=>⟨_,rfl,key_ev hn hp⟩
  times:=fun _ _ hp hq=>(mul_ev hn hp hq).2
end Go.Proofs.YtjbeoidhbbjcmaaGreat.Grp
namespace Go.Proofs.YtjbeoidhbbjcmaaGreat.Grp
open Go.RowKit Go.Proofs.YtjbeoidhbbjcmaaGreatW.PrintWords Go.Proofs.YtjbeoidhbbjcmaaGreatW.PrintLast Go.Proofs.YtjbeoidhbbjcmaaGreatW.PrintMore Go.Proofs.YtjbeoidhbbjcmaaGreat.PG
/-- The first i values are points, and differ. -/
def Pre (p:List Int) (i:Nat):Prop:=∀ j,j < i→0≤p.getD j 0∧p.getD j 0 < (p.length:Int)∧∀ q,q < j→p.getD q 0≠p.getD j 0
theorem Pre.succ {p:List Int} {i:Nat} (h:Pre p i) (h0:0≤p.getD i 0) (h1:p.getD i 0 < (p.length:Int)) (h2:∀ q,q < i→p.getD q 0≠p.getD i 0):Pre p (i + 1):=by
  intro j hj
  by_cases hji:j=i
  · subst hji;exact⟨h0,h1,h2⟩
  · exact h j (by omega)
theorem pre_iff {p:List Int}:Pre p p.length↔IsP p.length p:=by
  constructor
  · intro h
    have hm:∀ x∈p,∃ j,j < p.length∧p.getD j 0=x:=fun x hx=>by
      obtain⟨j,hj,he⟩:=List.mem_iff_getElem.1 hx
      exact⟨j,hj,by rw[List.getD_eq_getElem?_getD,List.getElem?_eq_getElem hj,Option.getD_some,he]⟩
    refine⟨rfl,fun x hx=>?_,fun x hx=>?_,?_⟩
    · obtain⟨j,hj,rfl⟩:=hm x hx
      exact (h j hj).1
    · obtain⟨j,hj,rfl⟩:=hm x hx
      exact (h j hj).2.1
    · rw[List.nodup_iff_pairwise_ne,List.pairwise_iff_getElem]
      intro i j hi hj hij he
      have:=(h j hj).2.2 i hij
      rw[List.getD_eq_getElem?_getD,List.getD_eq_getElem?_getD,List.getElem?_eq_getElem hi,List.getElem?_eq_getElem hj] at this
      exact this (by simpa using he)
  · intro h j hj
    obtain⟨h0,h1⟩:=h.getD hj
    exact⟨h0,h1,fun q hq he=>absurd (h.inj (by omega) hj he) (by omega)⟩
theorem check_in {p:List Int} (hp:p.length≤20) {i:Nat} (hi:i < p.length) (h0:0≤p.getD i 0) (h1:p.getD i 0 < (p.length:Int)) (hpre:Pre p i)
    (H:Pre p (i + 1)→∃ c:Int,(c=0↔Pre p p.length)∧Ev (fun k=>galoisref22_Check.l0 k p ((i + 1:Nat):Int)) c):∀ (d c:Nat),c + d=i→(∀ q,q < c→p.getD q 0≠p.getD i 0) →
    ∃ r:Int,(r=0↔Pre p p.length)∧Ev (fun k=>galoisref22_Check.l1 k p (i:Int) (c:Int)) r
  | 0,c,hd,hq=>by
    obtain⟨r,hr,he⟩:=H (hpre.succ h0 h1 fun q hqi=>hq q (by omega))
    exact⟨r,hr,Ev.step (fun k=>by simp only[galoisref22_Check.l1];rw[if_neg (by omega),wrap_succ (by omega)]) he⟩
  | d + 1,c,hd,hq=>by
    by_cases he:p.getD c 0=p.getD i 0
    · refine⟨24,⟨fun h=>by omega,fun h=>absurd he ((h i hi).2.2 c (by omega))⟩,Ev.step (fun k=>?_) (Ev.now _)⟩
      simp only[galoisref22_Check.l1]
      rw[if_pos (by omega),if_pos (by omega),if_pos (by omega),if_pos (by omega),if_pos (by omega),if_pos (show rd p (c:Int)=rd p (i:Int) from he)]
    · obtain⟨r,hr,hre⟩:=check_in hp hi h0 h1 hpre H d (c + 1) (by omega) fun q hqc=>by
        by_cases hqe:q=c
        · subst hqe;exact he
        · exact hq q (by omega)
      refine⟨r,hr,Ev.step (fun k=>?_) hre⟩
      simp only[galoisref22_Check.l1]
      rw[if_pos (by omega),if_pos (by omega),if_pos (by omega),if_pos (by omega),if_pos (by omega),if_neg (show ¬ rd p (c:Int)=rd p (i:Int) from he),wrap_succ (by omega)]
theorem check_l {p:List Int} (hp:p.length≤20):∀ (m i:Nat),i + m=p.length→Pre p i→∃ c:Int,(c=0↔Pre p p.length)∧Ev (fun k=>galoisref22_Check.l0 k p (i:Int)) c
  | 0,i,him,hpre=>by
    have:i=p.length:=by omega
    subst this
    exact⟨0,⟨fun _=>hpre,fun _=>rfl⟩,Ev.step (fun k=>by simp only[galoisref22_Check.l0];rw[if_neg (by omega)]) (Ev.now _)⟩
  | m + 1,i,him,hpre=>by
    have hi:i < p.length:=by omega
    have hj:∀ k,galoisref22_Check.j1 (k + 1) p (i:Int) true=some 3:=fun k=>by simp only[galoisref22_Check.j1];rw[if_pos True.intro]
    have hjn:∀ k,galoisref22_Check.j1 (k + 1) p (i:Int) false=galoisref22_Check.l1 k p (i:Int) 0:=fun k=>by simp only[galoisref22_Check.j1];rw[if_neg (by decide)]
    by_cases h0:p.getD i 0 < 0
    · refine⟨3,⟨fun h=>by omega,fun h=>by have:=(h i hi).1;omega⟩,Ev.step (fun k=>?_) (Ev.step (g:=fun k=>galoisref22_Check.j1 k p (i:Int) true) hj (Ev.now _))⟩
      simp only[galoisref22_Check.l0]
      rw[if_pos (by omega),if_pos (by omega),if_pos (show rd p (i:Int) < 0 from h0)]
    · by_cases h1:p.getD i 0 < (p.length:Int)
      · obtain⟨r,hr,hre⟩:=check_in hp hi (by omega) h1 hpre (fun h=>check_l hp m (i + 1) (by omega) h) i 0 (by omega) (fun q hq=>by omega)
        refine⟨r,hr,Ev.step (fun k=>?_) (Ev.step (g:=fun k=>galoisref22_Check.j1 k p (i:Int) false) hjn hre)⟩
        simp only[galoisref22_Check.l0]
        rw[if_pos (by omega),if_pos (by omega),if_neg (show ¬ rd p (i:Int) < 0 from h0),decide_eq_false (show ¬ rd p (i:Int) ≥ (p.length:Int) by rw[rdN];omega)]
      · refine⟨3,⟨fun h=>by omega,fun h=>by have:=(h i hi).2.1;omega⟩,Ev.step (fun k=>?_) (Ev.step (g:=fun k=>galoisref22_Check.j1 k p (i:Int) true) hj (Ev.now _))⟩
        simp only[galoisref22_Check.l0]
        rw[if_pos (by omega),if_pos (by omega),if_neg (show ¬ rd p (i:Int) < 0 from h0),decide_eq_true (show rd p (i:Int) ≥ (p.length:Int) by rw[rdN];omega)]
theorem check_ev (p:List Int):∃ c:Int,(c=0↔p.length≤20∧IsP p.length p)∧Ev (fun k=>galoisref22_Check.f k p) c:=by
  by_cases h:p.length≤20
  · obtain⟨c,hc,he⟩:=check_l h p.length 0 (by omega) (fun j hj=>by omega)
    refine⟨c,?_,Ev.congr (fun k=>?_) he⟩
    · rw[hc,pre_iff];exact⟨fun h'=>⟨h,h'⟩,fun h'=>h'.2⟩
    · unfold galoisref22_Check.f
      rw[if_neg (by omega)]
      rfl
  · refine⟨4,⟨fun h=>by omega,fun h'=>absurd h'.1 h⟩,Ev.congr (fun k=>?_) (Ev.now _)⟩
    unfold galoisref22_Check.f
    rw[if_pos (by omega)]
/-- A group without an error. -/
structure Valid (a:Int) (gens:List (List Int)):Prop where
  lo:0≤a
  hi:a≤20
  len:gens.length≤32
  isP:∀ g∈gens,IsP a.toNat g
theorem isP_of {n:Nat} {g:List Int}:IsP n g↔g.length=n∧IsP g.length g:=by
  constructor
  · intro h
    have:=h.len
    subst this
    exact⟨rfl,h⟩
  · rintro⟨rfl,h⟩
    exact h
theorem checks_l {a:Int} (h0:0≤a) (h1:a≤20) {gens:List (List Int)} (hG:gens.length≤32):∀ (m i:Nat),i + m=gens.length→∃ c:Int,(c=0↔∀ g∈gens.drop i,IsP a.toNat g)∧Ev (fun k=>galoisref23_Check.l0 k (i:Int) a gens) c
  | 0,i,him=>by
    refine⟨0,?_,Ev.step (fun k=>by simp only[galoisref23_Check.l0];rw[if_neg (by omega)]) (Ev.now _)⟩
    rw[List.drop_eq_nil_of_le (by omega)]
    simp
  | m + 1,i,him=>by
    have hi:i < gens.length:=by omega
    obtain⟨c,hc,he⟩:=check_ev (gens.getD i [])
    obtain⟨r,hr,hre⟩:=checks_l h0 h1 hG m (i + 1) (by omega)
    rw[drop_cons (d:=([]:List Int)) hi]
    have hstep:∀ k,galoisref23_Check.l0 (k + 1) (i:Int) a gens=((galoisref22_Check.f k (gens.getD i [])).bind fun t104=>(if t104=0 then (if ((gens.getD i []).length:Int)=a then (galoisref23_Check.l0 k ((i + 1:Nat):Int) a gens) else (some 2)) else (some t104))):=by
      intro k
      simp only[galoisref23_Check.l0]
      rw[if_pos (by omega),if_pos (by omega),rd9,wrap_succ (by omega)]
    by_cases hc0:c=0
    · by_cases hl:((gens.getD i []).length:Int)=a
      · refine⟨r,?_,Ev.step hstep (Ev.bind he (Ev.congr (fun k=>by rw[if_pos hc0,if_pos hl]) hre))⟩
        rw[hr,List.forall_mem_cons,isP_of]
        exact⟨fun h=>⟨⟨by omega,(hc.1 hc0).2⟩,h⟩,fun h=>h.2⟩
      · refine⟨2,?_,Ev.step hstep (Ev.bind he (Ev.congr (fun k=>by rw[if_pos hc0,if_neg hl]) (Ev.now _)))⟩
        rw[List.forall_mem_cons,isP_of]
        exact⟨fun h=>by omega,fun h=>absurd h.1.1 (by omega)⟩
    · refine⟨c,?_,Ev.step hstep (Ev.bind he (Ev.congr (fun k=>by rw[if_neg hc0]) (Ev.now _)))⟩
      rw[List.forall_mem_cons,isP_of]
      exact⟨fun h=>absurd h hc0,fun h=>absurd (hc.2 ⟨by omega,h.1.2⟩) hc0⟩
theorem checks_ev (a:Int) (gens:List (List Int)):∃ c:Int,(c=0↔Valid a gens)∧Ev (fun k=>galoisref23_Check.f k a gens) c:=by
  by_cases h0:a < 0
  · refine⟨3,⟨fun h=>by omega,fun h=>absurd h.lo (by omega)⟩,Ev.congr (fun k=>?_) (Ev.now _)⟩
    unfold galoisref23_Check.f galoisref22_Degree.f
    rw[if_pos h0,Option.bind_some,if_neg (by omega)]
  · by_cases h1:a > 20
    · refine⟨4,⟨fun h=>by omega,fun h=>absurd h.hi (by omega)⟩,Ev.congr (fun k=>?_) (Ev.now _)⟩
      unfold galoisref23_Check.f galoisref22_Degree.f
      rw[if_neg h0,if_pos h1,Option.bind_some,if_neg (by omega)]
    · by_cases h2:gens.length≤32
      · obtain⟨c,hc,he⟩:=checks_l (a:=a) (by omega) (by omega) h2 gens.length 0 (by omega)
        refine⟨c,?_,Ev.congr (fun k=>?_) he⟩
        · rw[hc,List.drop_zero]
          exact⟨fun h=>⟨by omega,by omega,h2,h⟩,fun h=>h.isP⟩
        · unfold galoisref23_Check.f galoisref22_Degree.f
          rw[if_neg h0,if_neg h1,Option.bind_some,if_pos rfl,if_neg (by omega)]
          rfl
      · refine⟨5,⟨fun h=>by omega,fun h=>absurd h.len (by omega)⟩,Ev.congr (fun k=>?_) (Ev.now _)⟩
        unfold galoisref23_Check.f galoisref22_Degree.f
        rw[if_neg h0,if_neg h1,Option.bind_some,if_pos rfl,if_pos (by omega)]
theorem valid_in {n:Nat} (hn:n≤20) {p:List Int} (hp:p.length=n) {gens:List (List Int)} {i:Nat} (hi:i < 32) {R:Prop} {r:Bool} (hr:r=true↔R) (he:Ev (fun k=>verifier_validGroup.l0 k gens (gens.length:Int) ((i + 1:Nat):Int) (n:Int) gens) r):∀ (d c:Nat) (s:List Bool),c + d=n→s.length=n→Pre p c →
    (∀ j,j < n→(s.getD j false=true↔∃ q,q < c∧p.getD q 0=(j:Int))) →
    ∃ b:Bool,(b=true↔Pre p p.length∧R)∧Ev (fun k=>verifier_validGroup.l1 k s gens (gens.length:Int) (i:Int) p (p.length:Int) (c:Int) (n:Int) gens) b
  | 0,c,s,hd,hs,hpre,hseen=>by
    refine⟨r,?_,Ev.step (fun k=>by simp only[verifier_validGroup.l1];rw[if_neg (by omega),wrap_succ (by omega)]) he⟩
    have:c=p.length:=by omega
    subst this
    rw[hr]
    exact⟨fun h=>⟨hpre,h⟩,fun h=>h.2⟩
  | d + 1,c,s,hd,hs,hpre,hseen=>by
    have hc:c < p.length:=by omega
    by_cases h0:p.getD c 0 < 0
    · refine⟨false,⟨fun h=>absurd h Bool.false_ne_true,fun h=>by have:=(h.1 c hc).1;omega⟩,Ev.step (fun k=>?_) (Ev.now _)⟩
      simp only[verifier_validGroup.l1]
      rw[if_pos (by omega),if_pos (by omega),if_pos (by omega),if_pos (show rd p (c:Int) < 0 from h0)]
    · by_cases h1:p.getD c 0 < (n:Int)
      · have hx:((p.getD c 0).toNat:Int)=p.getD c 0:=by omega
        by_cases h2:s.getD (p.getD c 0).toNat false=true
        · obtain⟨q,hq,hqe⟩:=(hseen _ (by omega)).1 h2
          refine⟨false,⟨fun h=>absurd h Bool.false_ne_true,fun h=>absurd (hqe.trans hx) ((h.1 c hc).2.2 q hq)⟩,Ev.step (fun k=>?_) (Ev.now _)⟩
          simp only[verifier_validGroup.l1]
          rw[if_pos (by omega),if_pos (by omega),if_pos (by omega),if_neg (show ¬ rd p (c:Int) < 0 from h0),if_neg (show ¬ rd p (c:Int) ≥ (n:Int) by rw[rdN];omega),if_pos (show 0≤rd p (c:Int) by rw[rdN];omega),if_pos (show rd p (c:Int) < (s.length:Int) by rw[rdN];omega),if_pos (show rdOf false s (rd p (c:Int))=true from h2)]
        · obtain⟨b,hb,hbe⟩:=valid_in hn hp hi hr he d (c + 1) (s.set (p.getD c 0).toNat true) (by omega) (by simp[hs]) (hpre.succ (by omega) (by omega) fun q hq hqe=>h2 ((hseen _ (by omega)).2 ⟨q,hq,by omega⟩)) (fun j hj=>by
            rw[getD_set (by omega)]
            split
            · rename_i hje
              exact⟨fun _=>⟨c,by omega,by omega⟩,fun _=>rfl⟩
            · rename_i hje
              rw[hseen j hj]
              constructor
              · rintro⟨q,hq,hqe⟩;exact⟨q,by omega,hqe⟩
              · rintro⟨q,hq,hqe⟩
                by_cases hqc:q=c
                · subst hqc;omega
                · exact⟨q,by omega,hqe⟩)
          refine⟨b,hb,Ev.step (fun k=>?_) hbe⟩
          simp only[verifier_validGroup.l1]
          rw[if_pos (by omega),if_pos (by omega),if_pos (by omega),if_neg (show ¬ rd p (c:Int) < 0 from h0),if_neg (show ¬ rd p (c:Int) ≥ (n:Int) by rw[rdN];omega),if_pos (show 0≤rd p (c:Int) by rw[rdN];omega),if_pos (show rd p (c:Int) < (s.length:Int) by rw[rdN];omega),if_neg (show ¬ rdOf false s (rd p (c:Int))=true from h2),wrap_succ (by omega)]
          rfl
      · refine⟨false,⟨fun h=>absurd h Bool.false_ne_true,fun h=>by have:=(h.1 c hc).2.1;omega⟩,Ev.step (fun k=>?_) (Ev.now _)⟩
        simp only[verifier_validGroup.l1]
        rw[if_pos (by omega),if_pos (by omega),if_pos (by omega),if_neg (show ¬ rd p (c:Int) < 0 from h0),if_pos (show rd p (c:Int) ≥ (n:Int) by rw[rdN];omega)]
theorem valid_l {n:Nat} (hn:n≤20) {gens:List (List Int)} (hG:gens.length≤32):∀ (m i:Nat),i + m=gens.length→∃ b:Bool,(b=true↔∀ g∈gens.drop i,IsP n g)∧Ev (fun k=>verifier_validGroup.l0 k gens (gens.length:Int) (i:Int) (n:Int) gens) b
  | 0,i,him=>by
    refine⟨true,?_,Ev.step (fun k=>by simp only[verifier_validGroup.l0];rw[if_neg (by omega)]) (Ev.now _)⟩
    rw[List.drop_eq_nil_of_le (by omega)]
    simp
  | m + 1,i,him=>by
    have hi:i < gens.length:=by omega
    obtain⟨r,hr,hre⟩:=valid_l hn hG m (i + 1) (by omega)
    rw[drop_cons (d:=([]:List Int)) hi]
    by_cases hl:(gens.getD i []).length=n
    · obtain⟨b,hb,hbe⟩:=valid_in hn hl (gens:=gens) (i:=i) (by omega) hr hre n 0 (List.replicate n false) (by omega) (by simp) (fun j hj=>by omega) (fun j hj=>by
        constructor
        · intro h
          rw[List.getD_eq_getElem?_getD,List.getElem?_replicate] at h
          split at h <;> simp at h
        · rintro⟨q,hq,_⟩;omega)
      refine⟨b,?_,Ev.step (fun k=>?_) hbe⟩
      · rw[hb,List.forall_mem_cons,isP_of,pre_iff]
        exact⟨fun h=>⟨⟨hl,h.1⟩,h.2⟩,fun h=>⟨h.1.2,h.2⟩⟩
      · simp only[verifier_validGroup.l0]
        rw[if_pos (by omega),if_pos (by omega),if_pos (by omega),rd9,if_pos (by omega),if_pos (by omega),if_pos (by omega),Int.toNat_natCast]
        rfl
    · refine⟨false,?_,Ev.step (fun k=>?_) (Ev.now _)⟩
      · rw[List.forall_mem_cons,isP_of]
        exact⟨fun h=>absurd h Bool.false_ne_true,fun h=>absurd h.1.1 hl⟩
      · simp only[verifier_validGroup.l0]
        rw[if_pos (by omega),if_pos (by omega),if_pos (by omega),rd9,if_neg (by omega)]
theorem valid_ev (a:Int) (gens:List (List Int)):∃ b:Bool,(b=true↔Valid a gens)∧Ev (fun k=>verifier_validGroup.f k a gens) b:=by
  have hbad:Ev (fun k=>verifier_validGroup.j0 k true a gens) false:=Ev.step (fun k=>by simp only[verifier_validGroup.j0];rw[if_pos True.intro]) (Ev.now _)
  by_cases h0:a < 0
  · refine⟨false,⟨fun h=>absurd h Bool.false_ne_true,fun h=>absurd h.lo (by omega)⟩,Ev.congr (fun k=>?_) hbad⟩
    unfold verifier_validGroup.f
    rw[if_pos h0]
  · by_cases h1:a > 20
    · refine⟨false,⟨fun h=>absurd h Bool.false_ne_true,fun h=>absurd h.hi (by omega)⟩,Ev.congr (fun k=>?_) hbad⟩
      unfold verifier_validGroup.f
      rw[if_neg h0,if_pos h1]
    · by_cases h2:gens.length≤32
      · obtain⟨n,rfl⟩:=Int.eq_ofNat_of_zero_le (show 0≤a by omega)
        obtain⟨b,hb,hbe⟩:=valid_l (n:=n) (by omega) h2 gens.length 0 (by omega)
        refine⟨b,?_,Ev.congr (fun k=>?_) (Ev.step (g:=fun k=>verifier_validGroup.j0 k false (n:Int) gens) (fun k=>by simp only[verifier_validGroup.j0];rw[if_neg (by decide)];rfl) hbe)⟩
        · rw[hb,List.drop_zero]
          exact⟨fun h=>⟨by omega,by omega,h2,h⟩,fun h=>h.isP⟩
        · unfold verifier_validGroup.f
          rw[if_neg h0,if_neg h1,decide_eq_false (by omega)]
      · refine⟨false,⟨fun h=>absurd h Bool.false_ne_true,fun h=>absurd h.len h2⟩,Ev.congr (fun k=>?_) hbad⟩
        unfold verifier_validGroup.f
        rw[if_neg h0,if_neg h1,decide_eq_true (by omega)]
def isPrime (q:Nat):Bool:=galoisref60_prime.f 300 (q:Int)==some true
def allP:Nat→Bool
  | 0=>true
  | q + 1=>(galoisref60_prime.f 300 (q:Int)==some (isPrime q)) && (verifier_permitted.f 300 (q:Int)==some (isPrime q)) && allP q
theorem primes_run:allP 241=true:=by kernel_rfl
theorem allP_at:∀ {m:Nat},allP m=true→∀ q,q < m→galoisref60_prime.f 300 (q:Int)=some (isPrime q)∧verifier_permitted.f 300 (q:Int)=some (isPrime q)
  | 0,_,q,hq=>by omega
  | m + 1,h,q,hq=>by
    unfold allP at h
    rw[Bool.and_eq_true,Bool.and_eq_true,beq_iff_eq,beq_iff_eq] at h
    by_cases hqm:q=m
    · subst hqm;exact h.1
    · exact allP_at h.2 q (by omega)
theorem prime_ev {q:Nat} (h:q≤240):Ev (fun k=>galoisref60_prime.f k (q:Int)) (isPrime q)∧Ev (fun k=>verifier_permitted.f k (q:Int)) (isPrime q) :=
  ⟨Ev.of (fun k=>galoisref60_prime.mono _ k) (allP_at primes_run q (by omega)).1,Ev.of (fun k=>verifier_permitted.mono _ k) (allP_at primes_run q (by omega)).2⟩
end Go.Proofs.YtjbeoidhbbjcmaaGreat.Grp
namespace Go.Proofs.YtjbeoidhbbjcmaaGreat.Grp
open Go.RowKit Go.Proofs.YtjbeoidhbbjcmaaGreatW.PrintWords Go.Proofs.YtjbeoidhbbjcmaaGreatW.PrintLast Go.Proofs.YtjbeoidhbbjcmaaGreatW.PrintMore Go.Proofs.YtjbeoidhbbjcmaaGreat.PG
theorem wrap_small {q:Nat} (h:q≤240):wrap64 (q:Int)=(q:Int):=by unfold wrap64;omega
theorem mput_nil {n:Nat} (hn:n≤20):mput [] (strOfNums (one n))=some [letters (one n)]:=by
  have hsz:(strOfNums (one n)).size≤maxLen:=by
    rw[size_letters (p:=one n) rfl,one_len];show n≤9223372036854775807;omega
  unfold mput
  rw[if_pos ⟨hsz,by simp,by show 0 < 9223372036854775807;omega⟩]
  rfl
theorem of0_l {n:Nat} (hn:n≤20) {gens:List (List Int)} {r:Option Ks} (hr:Ev (fun k=>verifier_of.l1 k [letters (one n)] [one n] gens) r):∀ (m i:Nat) (x:List Int),i + m=n→x.length=n→(∀ j,j < i→x.getD j 0=(j:Int)) →
    Ev (fun k=>verifier_of.l0 k x (n:Int) (i:Int) gens) r
  | 0,i,x,him,hx,hj=>by
    have:x=one n:=ext_getD 0 (by rw[hx,one_len]) fun j hjl=>by rw[hj j (by omega),one_getD (by omega)]
    subst this
    exact Ev.step (fun k=>by simp only[verifier_of.l0];rw[if_neg (by omega)]) (Ev.bind (key_ev hn (one_isP n)) (Ev.congr (fun k=>by rw[mput_nil hn];rfl) hr))
  | m + 1,i,x,him,hx,hj=>by
    have ih:=of0_l hn hr m (i + 1) (x.set i (i:Int)) (by omega) (by simp[hx]) fun j hji=>by
      rw[getD_set (by omega)]
      split
      · rename_i h;rw[h]
      · exact hj j (by omega)
    exact Ev.step (fun k=>by simp only[verifier_of.l0];rw[if_pos (by omega),if_pos (by omega),if_pos (by omega),wrap_succ (by omega)];rfl) ih
theorem of_ev {n:Nat} (hn:n≤20) {gens:List (List Int)} (hg:∀ g∈gens,IsP n g) (hG:gens.length≤32) {all:List (List Int)} (hall:∀ p,p∈all↔In n gens p) (hal:all.length≤240) :
    ∃ D:List (List Int),D.Nodup∧(∀ p,p∈D↔In n gens p)∧Ev (fun k=>verifier_of.f k (n:Int) gens) (some (D.map letters)):=by
  obtain⟨D,h1,h2,he⟩:=(of_l (small hn) hg hG hall hal _).1 [letters (one n)] [one n] [one n] ⟨rfl,by simp,fun p hp=>by rw[List.mem_singleton.1 hp];exact In.one,by simp,fun p hp=>hp,fun p hp=>.inl hp,by simp⟩ (Nat.le_refl _)
  refine⟨D,h1,h2,Ev.congr (fun k=>?_) (of0_l hn he n 0 (List.replicate n 0) (by omega) (by simp) (fun j hj=>by omega))⟩
  unfold verifier_of.f
  rw[if_pos (by omega),if_pos (by simp;omega),Int.toNat_natCast,List.length_replicate]
  rfl
/-- What both sides know of a group that is valid and small. -/
structure Known (n:Nat) (gens E D:List (List Int)):Prop where
  hn:n≤20
  isP:∀ g∈gens,IsP n g
  gl:gens.length≤32
  up:Up n E
  el:E.length≤240
  em:∀ p,p∈E↔In n gens p
  dn:D.Nodup
  dm:∀ p,p∈D↔In n gens p
theorem Known.len {n:Nat} {gens E D:List (List Int)} (h:Known n gens E D):D.length=E.length :=
  nodup_eq h.dn h.up.nodup fun x=>by rw[h.dm,h.em]
theorem Known.eP {n:Nat} {gens E D:List (List Int)} (h:Known n gens E D):∀ p∈E,IsP n p:=fun p hp=>((h.em p).1 hp).isP h.isP
theorem Known.dP {n:Nat} {gens E D:List (List Int)} (h:Known n gens E D):∀ p∈D,IsP n p:=fun p hp=>((h.dm p).1 hp).isP h.isP
theorem Known.pos {n:Nat} {gens E D:List (List Int)} (h:Known n gens E D):0 < D.length:=List.length_pos_of_mem ((h.dm _).2 In.one)
theorem close_known {n:Nat} (hn:n≤20) {gens:List (List Int)} (hg:∀ g∈gens,IsP n g) (hG:gens.length≤32):∃ r,Ev (fun k=>galoisref23_Close.f k (n:Int) gens) r∧(r.2=true→∃ D,Known n gens r.1 D∧Ev (fun k=>verifier_of.f k (n:Int) gens) (some (D.map letters))):=by
  obtain⟨r,hf,he⟩:=close_ev (small hn) hg hG
  refine⟨r,he,fun h2=>?_⟩
  obtain⟨h3,h4,h5⟩:=hf h2
  obtain⟨D,h6,h7,h8⟩:=of_ev hn hg hG h5 h4
  exact⟨D,⟨hn,hg,hG,h3,h4,h5,h6,h7⟩,h8⟩
theorem common_l {n:Nat} (hn:n≤20) {l m:List (List Int)} (hm:Up n m) (hml:m.length≤240) (hl:∀ p∈l,p.length=n) (hll:l.length≤240):∀ (d i:Nat) (x:List (List Int)),i + d=l.length→x.length≤i →
    Ev (fun k=>galoisref23_Common.l0 k l m x (i:Int)) (x ++ (l.drop i).filter (fun p=>decide (p∈m)))
  | 0,i,x,hd,hx=>by
    rw[List.drop_eq_nil_of_le (by omega),List.filter_nil,List.append_nil]
    exact Ev.step (fun k=>by simp only[galoisref23_Common.l0];rw[if_neg (by omega)]) (Ev.now _)
  | d + 1,i,x,hd,hx=>by
    have hil:i < l.length:=by omega
    have hh:=has_ev hn hm hml (hl _ (getD_mem (d:=([]:List Int)) hil))
    have hstep:∀ k,galoisref23_Common.l0 (k + 1) l m x (i:Int)=((galoisref23_Has.f k m (l.getD i [])).bind fun t=>if t=true then (if x.length < 5864062014805 then galoisref23_Common.l0 k l m (x ++ [l.getD i []]) ((i + 1:Nat):Int) else none) else galoisref23_Common.l0 k l m x ((i + 1:Nat):Int)):=by
      intro k
      simp only[galoisref23_Common.l0]
      rw[if_pos (by omega),if_pos (by omega),rd9,wrap_succ (by omega)]
    rw[drop_cons (d:=([]:List Int)) hil]
    by_cases hin:l.getD i []∈m
    · rw[List.filter_cons_of_pos (by simpa using hin)]
      have ih:=common_l hn hm hml hl hll d (i + 1) (x ++ [l.getD i []]) (by omega) (by simp;omega)
      rw[List.append_assoc] at ih
      exact Ev.step hstep (Ev.bind hh (Ev.congr (fun k=>by rw[if_pos (decide_eq_true hin),if_pos (by omega)]) ih))
    · rw[List.filter_cons_of_neg (by simpa using hin)]
      have ih:=common_l hn hm hml hl hll d (i + 1) x (by omega) (by omega)
      exact Ev.step hstep (Ev.bind hh (Ev.congr (fun k=>by rw[if_neg (by rw[decide_eq_false hin];exact Bool.false_ne_true)]) ih))
theorem subset_ev {n:Nat} (hn:n≤20) {l m:List (List Int)} (hm:Up n m) (hml:m.length≤240) (hl:∀ p∈l,p.length=n) (hll:l.length≤240):∃ b:Bool,(b=true↔∀ p∈l,p∈m)∧Ev (fun k=>galoisref23_Subset.f k l m) b:=by
  refine⟨_,?_,Ev.bind (common_l hn hm hml hl hll l.length 0 [] (by omega) (by simp)) (Ev.now _)⟩
  rw[List.drop_zero,List.nil_append,beq_iff_eq]
  constructor
  · intro h
    have h':(l.filter (fun p=>decide (p∈m))).length=l.length:=by omega
    intro p hp
    simpa using List.length_filter_eq_length_iff.1 h' p hp
  · intro h
    rw[List.length_filter_eq_length_iff.2 fun p hp=>by simpa using h p hp]
theorem inv_uniq {n:Nat} {y z z':List Int} (h:Inv n y z) (h':Inv n y z'):z=z':=by
  rw[← mul_one h.pz,← h'.yz,← mul_assoc h.pz h.py,h.zy,one_mul h'.pz]
/-- The conjugate of x by y is among S. -/
def Cj (n:Nat) (S:List (List Int)) (x y:List Int):Prop:=∀ z,Inv n y z→conj z x y∈S
theorem Cj.iff {n:Nat} {S:List (List Int)} {x y z:List Int} (h:Inv n y z):Cj n S x y↔conj z x y∈S :=
  ⟨fun hc=>hc z h,fun hc z' h'=>by rw[← inv_uniq h h'];exact hc⟩
theorem look_ev {n:Nat} (hn:n≤20) {D:List (List Int)} (hD:∀ p∈D,IsP n p) {p:List Int} (hp:IsP n p):mlook (D.map letters) (strOfNums p)=some (decide (p∈D)):=by
  unfold mlook
  rw[if_pos (by rw[size_letters (p:=p) rfl,hp.len];show n≤9223372036854775807;omega)]
  congr 1
  rw[decide_eq_decide]
  exact mem_keys hn hD hp
theorem conj_isP {n:Nat} {x y z:List Int} (hx:IsP n x) (h:Inv n y z):IsP n (conj z x y):=mul_isP (mul_isP h.pz hx) h.py
section
variable {n : Nat} (hn : n ≤ 20) {D A : List (List Int)} (hD : ∀ p ∈ D, IsP n p) (hA : ∀ p ∈ A, IsP n p) {gh gg : List (List Int)} (hgg : ∀ g ∈ gg, IsP n g) (hgh : ∀ g ∈ gh, IsP n g) (hl : gg.length ≤ 32) (hl' : gh.length ≤ 32) {a : Int}
include hn hD hgg hl in
theorem vn1 {x:List Int} (hx:IsP n x) {c:Nat} (hc:c≤32) {K:Ks} {R:Prop} {r:Bool} (hR:r=true↔R) (he:Ev (fun k=>verifier_normal.l0 k (D.map letters) K gh (gh.length:Int) ((c + 1:Nat):Int) a gg) r):∀ (m i:Nat),i + m=gg.length →
    ∃ b:Bool,(b=true↔(∀ y∈gg.drop i,Cj n D x y)∧R)∧Ev (fun k=>verifier_normal.l1 k (D.map letters) K x gh (gh.length:Int) (c:Int) gg (gg.length:Int) (i:Int) a gg) b
  | 0,i,him=>by
    refine⟨r,?_,Ev.step (fun k=>by simp only[verifier_normal.l1];rw[if_neg (by omega),wrap_succ (by omega)]) he⟩
    rw[List.drop_eq_nil_of_le (by omega),hR]
    simp
  | m + 1,i,him=>by
    have hil:i < gg.length:=by omega
    have hy:=hgg _ (getD_mem (d:=([]:List Int)) hil)
    obtain⟨z,hz,_,hiv⟩:=conj_ev hn hx hy
    obtain⟨b,hb,hbe⟩:=vn1 hx hc hR he m (i + 1) (by omega)
    have hpc:=conj_isP hx hz
    have hstep:∀ k,verifier_normal.l1 (k + 1) (D.map letters) K x gh (gh.length:Int) (c:Int) gg (gg.length:Int) (i:Int) a gg=((verifier_inverse.f k (gg.getD i [])).bind fun t112=>((verifier_times.f k t112 x).bind fun t115=>((verifier_times.f k t115 (gg.getD i [])).bind fun t118=>((verifier_key.f k t118).bind fun t121=>((mlook (D.map letters) t121).bind fun t122=>(if t122=true then (verifier_normal.l1 k (D.map letters) K x gh (gh.length:Int) (c:Int) gg (gg.length:Int) ((i + 1:Nat):Int) a gg) else (some false))))))):=by
      intro k
      simp only[verifier_normal.l1]
      rw[if_pos (by omega),if_pos (by omega),if_pos (by omega),rd9,wrap_succ (by omega)]
    have h4:=key_ev hn hpc
    by_cases hin:conj z x (gg.getD i [])∈D
    · refine⟨b,?_,Ev.step hstep (Ev.bind hiv (Ev.bind (mul_ev hn hz.pz hx).2 (Ev.bind (mul_ev hn (mul_isP hz.pz hx) hy).2 (Ev.bind h4 (Ev.congr (fun k=>by rw[look_ev hn hD hpc,Option.bind_some,if_pos (decide_eq_true hin)]) hbe)))))⟩
      rw[hb,drop_cons (d:=([]:List Int)) hil,List.forall_mem_cons,and_assoc,Cj.iff hz]
      exact⟨fun h=>⟨hin,h⟩,fun h=>h.2⟩
    · refine⟨false,?_,Ev.step hstep (Ev.bind hiv (Ev.bind (mul_ev hn hz.pz hx).2 (Ev.bind (mul_ev hn (mul_isP hz.pz hx) hy).2 (Ev.bind h4 (Ev.congr (fun k=>by rw[look_ev hn hD hpc,Option.bind_some,if_neg (by rw[decide_eq_false hin];exact Bool.false_ne_true)]) (Ev.now _))))))⟩
      rw[drop_cons (d:=([]:List Int)) hil,List.forall_mem_cons,and_assoc,Cj.iff hz]
      exact⟨fun h=>absurd h Bool.false_ne_true,fun h=>absurd h.1 hin⟩
include hn hD hA hgg hgh hl hl' in
theorem vn0:∀ (m i:Nat),i + m=gh.length →
    ∃ b:Bool,(b=true↔∀ x∈gh.drop i,x∈A∧∀ y∈gg,Cj n D x y)∧Ev (fun k=>verifier_normal.l0 k (D.map letters) (A.map letters) gh (gh.length:Int) (i:Int) a gg) b
  | 0,i,him=>by
    refine⟨true,?_,Ev.step (fun k=>by simp only[verifier_normal.l0];rw[if_neg (by omega)]) (Ev.now _)⟩
    rw[List.drop_eq_nil_of_le (by omega)]
    simp
  | m + 1,i,him=>by
    have hil:i < gh.length:=by omega
    have hx:=hgh _ (getD_mem (d:=([]:List Int)) hil)
    obtain⟨r,hr,hre⟩:=vn0 m (i + 1) (by omega)
    obtain⟨b,hb,hbe⟩:=vn1 hn hD hgg hl hx (c:=i) (by omega) hr hre gg.length 0 (by omega)
    have hstep:∀ k,verifier_normal.l0 (k + 1) (D.map letters) (A.map letters) gh (gh.length:Int) (i:Int) a gg=((verifier_key.f k (gh.getD i [])).bind fun t109=>((mlook (A.map letters) t109).bind fun t110=>(if t110=true then (verifier_normal.l1 k (D.map letters) (A.map letters) (gh.getD i []) gh (gh.length:Int) (i:Int) gg (gg.length:Int) ((0:Nat):Int) a gg) else (some false)))):=by
      intro k
      simp only[verifier_normal.l0]
      rw[if_pos (by omega),if_pos (by omega),if_pos (by omega),rd9]
      rfl
    have h4:=key_ev hn hx
    rw[drop_cons (d:=([]:List Int)) hil,List.forall_mem_cons]
    by_cases hin:gh.getD i []∈A
    · refine⟨b,?_,Ev.step hstep (Ev.bind h4 (Ev.congr (fun k=>by rw[look_ev hn hA hx,Option.bind_some,if_pos (decide_eq_true hin)]) hbe))⟩
      rw[hb,List.drop_zero]
      exact⟨fun h=>⟨⟨hin,h.1⟩,h.2⟩,fun h=>⟨h.1.2,h.2⟩⟩
    · refine⟨false,?_,Ev.step hstep (Ev.bind h4 (Ev.congr (fun k=>by rw[look_ev hn hA hx,Option.bind_some,if_neg (by rw[decide_eq_false hin];exact Bool.false_ne_true)]) (Ev.now _)))⟩
      exact⟨fun h=>absurd h Bool.false_ne_true,fun h=>absurd h.1.1 hin⟩
include hn hD hA hgg hgh hl hl' in
/-- The verifier's answer about two groups. -/
theorem vnormal_ev (hpos:0 < D.length) (hAl:A.length≤240) {a1:Int}:∃ b:Bool,(b=true↔A.length % D.length=0∧isPrime (A.length / D.length)=true∧∀ x∈gh,x∈A∧∀ y∈gg,Cj n D x y)∧Ev (fun k=>verifier_normal.f k a1 gh a gg (D.map letters) (A.map letters)) b:=by
  have hq:A.length / D.length≤240:=Nat.le_trans (Nat.div_le_self _ _) hAl
  have hj:∀ k,verifier_normal.f k a1 gh a gg (D.map letters) (A.map letters)=if A.length % D.length=0 then ((verifier_permitted.f k ((A.length / D.length:Nat):Int)).bind fun t=>verifier_normal.j0 k (D.map letters) (A.map letters) (!t) a1 gh a gg) else verifier_normal.j0 k (D.map letters) (A.map letters) true a1 gh a gg:=by
    intro k
    unfold verifier_normal.f
    simp only[mlen.f,Option.bind_some,List.length_map]
    rw[if_neg (by omega)]
    have e1:Int.tmod (A.length:Int) (D.length:Int)=((A.length % D.length:Nat):Int):=rfl
    have e2:wrap64 (Int.tdiv (A.length:Int) (D.length:Int))=((A.length / D.length:Nat):Int):=by
      have:Int.tdiv (A.length:Int) (D.length:Int)=((A.length / D.length:Nat):Int):=rfl
      rw[this,wrap_small hq]
    rw[e1,e2]
    by_cases h:A.length % D.length=0
    · rw[if_pos (by rw[h];rfl),if_pos h,if_neg (by omega)]
    · rw[if_neg (show ¬ ((A.length % D.length:Nat):Int)=0 from fun he=>h (Int.natCast_eq_zero.1 he)),if_neg h]
  have hfalse:Ev (fun k=>verifier_normal.j0 k (D.map letters) (A.map letters) true a1 gh a gg) false:=Ev.step (fun k=>by simp only[verifier_normal.j0];rw[if_pos True.intro]) (Ev.now _)
  by_cases h:A.length % D.length=0
  · have hp:=(prime_ev hq).2
    by_cases hpr:isPrime (A.length / D.length)=true
    · obtain⟨b,hb,hbe⟩:=vn0 hn hD hA hgg hgh hl hl' (a:=a) gh.length 0 (by omega)
      refine⟨b,?_,Ev.congr hj (Ev.congr (fun k=>by rw[if_pos h]) (Ev.bind hp (Ev.congr (fun k=>by rw[hpr]) (Ev.step (fun k=>by simp only[verifier_normal.j0];rw[if_neg (by decide)];rfl) hbe))))⟩
      rw[hb,List.drop_zero]
      exact⟨fun h'=>⟨h,hpr,h'⟩,fun h'=>h'.2.2⟩
    · refine⟨false,⟨fun h'=>absurd h' Bool.false_ne_true,fun h'=>absurd h'.2.1 hpr⟩,Ev.congr hj (Ev.congr (fun k=>by rw[if_pos h]) (Ev.bind hp (Ev.congr (fun k=>by rw[Bool.eq_false_iff.2 hpr];rfl) hfalse)))⟩
  · exact⟨false,⟨fun h'=>absurd h' Bool.false_ne_true,fun h'=>absurd h'.1 h⟩,Ev.congr hj (Ev.congr (fun k=>by rw[if_neg h]) hfalse)⟩
end
end Go.Proofs.YtjbeoidhbbjcmaaGreat.Grp
namespace Go.Proofs.YtjbeoidhbbjcmaaGreat.Grp
open Go.RowKit Go.Proofs.YtjbeoidhbbjcmaaGreatW.PrintWords Go.Proofs.YtjbeoidhbbjcmaaGreatW.PrintLast Go.Proofs.YtjbeoidhbbjcmaaGreatW.PrintMore Go.Proofs.YtjbeoidhbbjcmaaGreat.PG
section
variable {n : Nat} (hn : n ≤ 20) {E : List (List Int)} (hE : ∀ p ∈ E, IsP n p) (hu : Up n E) (hEl : E.length ≤ 240) {gg : List (List Int)} (hgg : ∀ g ∈ gg, IsP n g) (hl : gg.length ≤ 32)
include hn hE hu hEl hgg hl in
theorem rn1 {i:Nat} (hi:i < gg.length) {R:Prop} {r:Bool} (hr:r=true↔R) (he:Ev (fun k=>galoisref60_normal.l0 k gg E ((i + 1:Nat):Int)) r):∀ (m c:Nat),c + m=E.length →
    ∃ b:Bool,(b=true↔(∀ p∈E.drop c,Cj n E p (gg.getD i []))∧R)∧Ev (fun k=>galoisref60_normal.l1 k gg E (i:Int) (c:Int)) b
  | 0,c,hcm=>by
    refine⟨r,?_,Ev.step (fun k=>by simp only[galoisref60_normal.l1];rw[if_neg (by omega),wrap_succ (by omega)]) he⟩
    rw[List.drop_eq_nil_of_le (by omega),hr]
    simp
  | m + 1,c,hcm=>by
    have hcl:c < E.length:=by omega
    have hx:=hE _ (getD_mem (d:=([]:List Int)) hcl)
    obtain⟨z,hz,hcj,_⟩:=conj_ev hn hx (hgg _ (getD_mem (d:=([]:List Int)) hi))
    obtain⟨b,hb,hbe⟩:=rn1 hi hr he m (c + 1) (by omega)
    have hpc:=conj_isP hx hz
    have hh:=has_ev hn hu hEl hpc.len
    have hstep:∀ k,galoisref60_normal.l1 (k + 1) gg E (i:Int) (c:Int)=((galoisref22_Conjugate.f k (E.getD c []) (gg.getD i [])).bind fun t103=>((galoisref23_Has.f k E t103).bind fun t106=>(if t106=true then (galoisref60_normal.l1 k gg E (i:Int) ((c + 1:Nat):Int)) else (some false)))):=by
      intro k
      simp only[galoisref60_normal.l1]
      rw[if_pos (by omega),if_pos (by omega),if_pos (by omega),if_pos (by omega),rd9,rd9,wrap_succ (by omega)]
    rw[drop_cons (d:=([]:List Int)) hcl]
    by_cases hin:conj z (E.getD c []) (gg.getD i [])∈E
    · refine⟨b,?_,Ev.step hstep (Ev.bind hcj (Ev.bind hh (Ev.congr (fun k=>by rw[if_pos (decide_eq_true hin)]) hbe)))⟩
      rw[hb,List.forall_mem_cons,and_assoc,Cj.iff hz]
      exact⟨fun h=>⟨hin,h⟩,fun h=>h.2⟩
    · refine⟨false,?_,Ev.step hstep (Ev.bind hcj (Ev.bind hh (Ev.congr (fun k=>by rw[if_neg (by rw[decide_eq_false hin];exact Bool.false_ne_true)]) (Ev.now _))))⟩
      rw[List.forall_mem_cons,and_assoc,Cj.iff hz]
      exact⟨fun h=>absurd h Bool.false_ne_true,fun h=>absurd h.1 hin⟩
include hn hE hu hEl hgg hl in
theorem rn0:∀ (m i:Nat),i + m=gg.length→∃ b:Bool,(b=true↔∀ y∈gg.drop i,∀ p∈E,Cj n E p y)∧Ev (fun k=>galoisref60_normal.l0 k gg E (i:Int)) b
  | 0,i,him=>by
    refine⟨true,?_,Ev.step (fun k=>by simp only[galoisref60_normal.l0];rw[if_neg (by omega)]) (Ev.now _)⟩
    rw[List.drop_eq_nil_of_le (by omega)]
    simp
  | m + 1,i,him=>by
    have hi:i < gg.length:=by omega
    obtain⟨r,hr,hre⟩:=rn0 m (i + 1) (by omega)
    obtain⟨b,hb,hbe⟩:=rn1 hn hE hu hEl hgg hl hi hr hre E.length 0 (by omega)
    refine⟨b,?_,Ev.step (fun k=>by simp only[galoisref60_normal.l0];rw[if_pos (by omega)];rfl) hbe⟩
    rw[hb,List.drop_zero,drop_cons (d:=([]:List Int)) hi,List.forall_mem_cons]
end
/-- What the verifier asks of a group and the one ahead of it. -/
def NV (n:Nat) (gh gg D A:List (List Int)):Prop:=A.length % D.length=0∧isPrime (A.length / D.length)=true∧∀ x∈gh,x∈A∧∀ y∈gg,Cj n D x y
/-- What the reference asks. -/
def NR (n:Nat) (gg E B:List (List Int)):Prop:=(∀ p∈E,p∈B)∧B.length % E.length=0∧isPrime (B.length / E.length)=true∧∀ y∈gg,∀ p∈E,Cj n E p y
theorem Cj.congr {n:Nat} {S T:List (List Int)} (h:∀ p,p∈S↔p∈T) {x y:List Int}:Cj n S x y↔Cj n T x y :=
  ⟨fun hc z hz=>(h _).1 (hc z hz),fun hc z hz=>(h _).2 (hc z hz)⟩
theorem agree {n:Nat} {gh gg E D B A:List (List Int)} (hh:Known n gh E D) (hg:Known n gg B A):NV n gh gg D A↔NR n gg E B:=by
  unfold NV NR
  rw[hh.len,hg.len]
  have hed:∀ p,p∈D↔p∈E:=fun p=>by rw[hh.em,hh.dm]
  constructor
  · rintro⟨h1,h2,h3⟩
    refine⟨fun p hp=>?_,h1,h2,fun y hy p hp z hz=>?_⟩
    · exact (hg.em p).2 (In.sub hg.isP (fun g hgm=>(hg.dm g).1 (h3 g hgm).1) ((hh.em p).1 hp))
    · exact (hh.em _).2 (conj_in hh.isP hz (fun x hx=>(hh.dm _).1 ((h3 x hx).2 y hy z hz)) ((hh.em p).1 hp))
  · rintro⟨h1,h2,h3,h4⟩
    refine⟨h2,h3,fun x hx=>?_⟩
    have hxE:=(hh.em x).2 (In.gen hh.isP hx)
    exact⟨(hg.dm x).2 ((hg.em x).1 (h1 x hxE)),fun y hy=>(Cj.congr hed).2 (h4 y hy x hxE)⟩
end Go.Proofs.YtjbeoidhbbjcmaaGreat.Grp
