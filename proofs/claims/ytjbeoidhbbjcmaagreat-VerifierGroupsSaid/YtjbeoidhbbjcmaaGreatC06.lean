/- The law in plain terms: permutations, groups and what the functions come to. -/
import Derived.Test.YtjbeoidhbbjcmaaGreatC04
import Derived.Test.YtjbeoidhbbjcmaaGreatC05
namespace Go.Proofs.YtjbeoidhbbjcmaaGreat.Grp
open Go.RowKit Go.Proofs.YtjbeoidhbbjcmaaGreatW.PrintWords Go.Proofs.YtjbeoidhbbjcmaaGreatW.PrintLast Go.Proofs.YtjbeoidhbbjcmaaGreatW.PrintMore Go.Proofs.YtjbeoidhbbjcmaaGreat.PG
theorem rdN (xs:List Int) (i:Nat):rd xs (i:Int)=xs.getD i 0:=rfl
theorem getD_set {α:Type} {l:List α} {i j:Nat} {v d:α} (hi:i < l.length):(l.set i v).getD j d=if j=i then v else l.getD j d:=by
  rw[List.getD_eq_getElem?_getD,List.getElem?_set]
  by_cases h:i=j
  · rw[if_pos h,if_pos h.symm,if_pos hi];rfl
  · rw[if_neg h,if_neg (fun he=>h he.symm),← List.getD_eq_getElem?_getD]
theorem ext_getD {α:Type} {l m:List α} (d:α) (hl:l.length=m.length) (h:∀ j,j < l.length→l.getD j d=m.getD j d):l=m:=by
  apply List.ext_getElem hl
  intro i h1 h2
  have:=h i h1
  rwa [List.getD_eq_getElem?_getD,List.getD_eq_getElem?_getD,List.getElem?_eq_getElem h1,List.getElem?_eq_getElem h2] at this
theorem one_getD {n j:Nat} (h:j < n):(one n).getD j 0=(j:Int):=by
  unfold one
  rw[List.getD_eq_getElem?_getD,List.getElem?_map,List.getElem?_range h];rfl
theorem one_len (n:Nat):(one n).length=n:=by simp[one]
theorem ident_l {n:Nat} (hn:n≤20):∀ (m i:Nat) (x:List Int),i + m=n→x.length=n→(∀ j,j < i→x.getD j 0=(j:Int))→Ev (fun k=>galoisref22_Identity.l0 k (n:Int) x (i:Int)) (one n)
  | 0,i,x,him,hx,hj=>by
    have:x=one n:=ext_getD 0 (by rw[hx,one_len]) fun j hjl=>by rw[hj j (by omega),one_getD (by omega)]
    subst this
    exact Ev.step (fun k=>by simp only[galoisref22_Identity.l0];rw[if_neg (by omega)]) (Ev.now _)
  | m + 1,i,x,him,hx,hj=>by
    have ih:=ident_l hn m (i + 1) (x.set i (i:Int)) (by omega) (by simp[hx]) fun j hji=>by
      rw[getD_set (by omega)]
      split
      · rename_i h;rw[h]
      · exact hj j (by omega)
    exact Ev.step (fun k=>by simp only[galoisref22_Identity.l0];rw[if_pos (by omega),if_pos (by omega),if_pos (by omega),wrap_succ (by omega)];rfl) ih
theorem ident_ev {n:Nat} (hn:n≤20):Ev (fun k=>galoisref22_Identity.f k (n:Int)) (one n):=by
  refine Ev.congr (fun k=>?_) (ident_l hn n 0 (List.replicate n 0) (by omega) (by simp) (fun j hj=>by omega))
  unfold galoisref22_Identity.f
  rw[if_pos (by omega),if_pos (by simp;omega)]
  rfl
theorem mul_len (p q:List Int):(mul p q).length=p.length:=by simp[mul]
theorem mul_getD {p q:List Int} {j:Nat} (h:j < p.length):(mul p q).getD j 0=q.getD (p.getD j 0).toNat 0:=by
  unfold mul
  rw[getD_map (fun i:Int=>q.getD i.toNat 0) p j 0 0 h]
theorem IsP.getD {n:Nat} {p:List Int} (h:IsP n p) {j:Nat} (hj:j < n):0≤p.getD j 0∧p.getD j 0 < (n:Int):=by
  have hm:p.getD j 0∈p:=getD_mem (by rw[h.len];exact hj)
  exact⟨h.lo _ hm,h.hi _ hm⟩
theorem mul_l {n:Nat} (hn:n≤20) {p q:List Int} (hp:IsP n p) (hq:IsP n q):∀ (m i:Nat) (x:List Int),i + m=n→x.length=n→(∀ j,j < i→x.getD j 0=q.getD (p.getD j 0).toNat 0) →
    Ev (fun k=>galoisref22_Mul.l0 k p q x (i:Int)) (mul p q)∧Ev (fun k=>verifier_times.l0 k q x p (n:Int) (i:Int)) (mul p q)
  | 0,i,x,him,hx,hj=>by
    have hpl:=hp.len
    have:x=mul p q:=ext_getD 0 (by rw[hx,mul_len,hpl]) fun j hjl=>by rw[hj j (by omega),mul_getD (by omega)]
    subst this
    exact⟨Ev.step (fun k=>by simp only[galoisref22_Mul.l0];rw[if_neg (by omega)]) (Ev.now _),Ev.step (fun k=>by simp only[verifier_times.l0];rw[if_neg (by omega)]) (Ev.now _)⟩
  | m + 1,i,x,him,hx,hj=>by
    have hpl:=hp.len
    have hql:=hq.len
    obtain⟨h0,h1⟩:=hp.getD (j:=i) (by omega)
    obtain⟨ih1,ih2⟩:=mul_l hn hp hq m (i + 1) (x.set i (q.getD (p.getD i 0).toNat 0)) (by omega) (by simp[hx]) fun j hji=>by
      rw[getD_set (by omega)]
      split
      · rename_i h;rw[h]
      · exact hj j (by omega)
    constructor
    · exact Ev.step (fun k=>by simp only[galoisref22_Mul.l0];rw[if_pos (by omega),if_pos (by omega),if_pos (show 0≤rd p (i:Int) from h0),if_pos (show rd p (i:Int) < (q.length:Int) by rw[rdN];omega),if_pos (by omega),wrap_succ (by omega)];rfl) ih1
    · exact Ev.step (fun k=>by simp only[verifier_times.l0];rw[if_pos (by omega),if_pos (by omega),if_pos (by omega),if_pos (show 0≤rd p (i:Int) from h0),if_pos (show rd p (i:Int) < (q.length:Int) by rw[rdN];omega),if_pos (by omega),wrap_succ (by omega)];rfl) ih2
theorem mul_ev {n:Nat} (hn:n≤20) {p q:List Int} (hp:IsP n p) (hq:IsP n q):Ev (fun k=>galoisref22_Mul.f k p q) (mul p q)∧Ev (fun k=>verifier_times.f k p q) (mul p q):=by
  have hpl:=hp.len
  obtain⟨h1,h2⟩:=mul_l hn hp hq n 0 (List.replicate n 0) (by omega) (by simp) (fun j hj=>by omega)
  constructor
  · refine Ev.congr (fun k=>?_) h1
    unfold galoisref22_Mul.f
    rw[if_pos (by omega),if_pos (by simp;omega),hpl]
    rfl
  · refine Ev.congr (fun k=>?_) h2
    unfold verifier_times.f
    rw[if_pos (by omega),if_pos (by simp;omega),hpl]
    rfl
/-- Every point is a value. -/
theorem IsP.onto {n:Nat} {p:List Int} (h:IsP n p) {j:Nat} (hj:j < n):∃ i,i < n∧p.getD i 0=(j:Int):=by
  have hm:(j:Int)∈p:=by
    apply Classical.byContradiction
    intro hno
    have h1:p.length≤((one n).erase (j:Int)).length:=nodup_le h.nd fun x hx=>by
      have hx0:=h.lo x hx
      have hx1:=h.hi x hx
      refine (List.mem_erase_of_ne (fun he=>hno (by rw[← he];exact hx))).2 ?_
      unfold one
      exact List.mem_map.2 ⟨x.toNat,List.mem_range.2 (by omega),by show ((x.toNat:Nat):Int)=x;omega⟩
    have h2:(j:Int)∈one n:=by unfold one;exact List.mem_map.2 ⟨j,List.mem_range.2 hj,rfl⟩
    rw[List.length_erase_of_mem h2,one_len,h.len] at h1
    omega
  obtain⟨i,hi,he⟩:=List.mem_iff_getElem.1 hm
  exact⟨i,by rw[← h.len];exact hi,by rw[List.getD_eq_getElem?_getD,List.getElem?_eq_getElem hi,Option.getD_some,he]⟩
theorem IsP.inj {n:Nat} {p:List Int} (h:IsP n p) {i j:Nat} (hi:i < n) (hj:j < n) (he:p.getD i 0=p.getD j 0):i=j :=
  getD_inj h.nd (by rw[h.len];exact hi) (by rw[h.len];exact hj) he
theorem inv_of {n:Nat} {y z:List Int} (hy:IsP n y) (hz:z.length=n) (h:∀ j,j < n→z.getD (y.getD j 0).toNat 0=(j:Int)):Inv n y z:=by
  have hval:∀ i,i < n→∃ j,j < n∧y.getD j 0=(i:Int)∧z.getD i 0=(j:Int):=by
    intro i hi
    obtain⟨j,hj,he⟩:=hy.onto hi
    refine⟨j,hj,he,?_⟩
    have:=h j hj
    rwa [he] at this
  have hmem:∀ x∈z,∃ i,i < n∧z.getD i 0=x:=by
    intro x hx
    obtain⟨i,hi,he⟩:=List.mem_iff_getElem.1 hx
    exact⟨i,by rw[← hz];exact hi,by rw[List.getD_eq_getElem?_getD,List.getElem?_eq_getElem hi,Option.getD_some,he]⟩
  have pz:IsP n z:=by
    refine⟨hz,fun x hx=>?_,fun x hx=>?_,?_⟩
    · obtain⟨i,hi,he⟩:=hmem x hx
      obtain⟨j,_,_,hj⟩:=hval i hi
      rw[← he,hj];omega
    · obtain⟨i,hi,he⟩:=hmem x hx
      obtain⟨j,hjn,_,hj⟩:=hval i hi
      rw[← he,hj];omega
    · rw[List.nodup_iff_pairwise_ne,List.pairwise_iff_getElem]
      intro a b ha hb hab he
      obtain⟨j1,q1,q2,q3⟩:=hval a (by omega)
      obtain⟨j2,r1,r2,r3⟩:=hval b (by omega)
      have e1:z.getD a 0=z[a]:=by rw[List.getD_eq_getElem?_getD,List.getElem?_eq_getElem ha];rfl
      have e2:z.getD b 0=z[b]:=by rw[List.getD_eq_getElem?_getD,List.getElem?_eq_getElem hb];rfl
      rw[e1,he,← e2,r3] at q3
      have:j1=j2:=by omega
      subst this
      rw[q2] at r2
      omega
  refine⟨hy,pz,ext_getD 0 (by rw[mul_len,one_len,hy.len]) fun j hj=>?_,ext_getD 0 (by rw[mul_len,one_len,hz]) fun j hj=>?_⟩
  · rw[mul_len,hy.len] at hj
    rw[mul_getD (by rw[hy.len];exact hj),h j hj,one_getD hj]
  · rw[mul_len,hz] at hj
    obtain⟨i,q1,q2,q3⟩:=hval j hj
    rw[mul_getD (by omega),q3,one_getD hj]
    simpa using q2
theorem inv_l {n:Nat} (hn:n≤20) {p:List Int} (hp:IsP n p):∀ (m i:Nat) (x:List Int),i + m=n→x.length=n→(∀ j,j < i→x.getD (p.getD j 0).toNat 0=(j:Int)) →
    ∃ z,Inv n p z∧Ev (fun k=>galoisref22_Inverse.l0 k p x (i:Int)) z∧Ev (fun k=>verifier_inverse.l0 k x p (n:Int) (i:Int)) z
  | 0,i,x,him,hx,hj=>by
    have hpl:=hp.len
    refine⟨x,inv_of hp hx fun j hjn=>hj j (by omega),?_,?_⟩
    · exact Ev.step (fun k=>by simp only[galoisref22_Inverse.l0];rw[if_neg (by omega)]) (Ev.now _)
    · exact Ev.step (fun k=>by simp only[verifier_inverse.l0];rw[if_neg (by omega)]) (Ev.now _)
  | m + 1,i,x,him,hx,hj=>by
    have hpl:=hp.len
    obtain⟨h0,h1⟩:=hp.getD (j:=i) (by omega)
    obtain⟨z,hz,ih1,ih2⟩:=inv_l hn hp m (i + 1) (x.set (p.getD i 0).toNat (i:Int)) (by omega) (by simp[hx]) fun j hji=>by
      rw[getD_set (by omega)]
      split
      · rename_i h
        obtain⟨q0,q1⟩:=hp.getD (j:=j) (by omega)
        have:=hp.inj (i:=j) (j:=i) (by omega) (by omega) (by omega)
        rw[this]
      · rename_i h
        by_cases hje:j=i
        · subst hje;exact absurd rfl h
        · exact hj j (by omega)
    refine⟨z,hz,?_,?_⟩
    · exact Ev.step (fun k=>by simp only[galoisref22_Inverse.l0];rw[if_pos (by omega),if_pos (by omega),if_pos (show 0≤rd p (i:Int) from h0),if_pos (show rd p (i:Int) < (x.length:Int) by rw[rdN];omega),wrap_succ (by omega)];rfl) ih1
    · exact Ev.step (fun k=>by simp only[verifier_inverse.l0];rw[if_pos (by omega),if_pos (by omega),if_pos (by omega),if_pos (show 0≤rd p (i:Int) from h0),if_pos (show rd p (i:Int) < (x.length:Int) by rw[rdN];omega),wrap_succ (by omega)];rfl) ih2
theorem inv_ev {n:Nat} (hn:n≤20) {p:List Int} (hp:IsP n p):∃ z,Inv n p z∧Ev (fun k=>galoisref22_Inverse.f k p) z∧Ev (fun k=>verifier_inverse.f k p) z:=by
  have hpl:=hp.len
  obtain⟨z,hz,h1,h2⟩:=inv_l hn hp n 0 (List.replicate n 0) (by omega) (by simp) (fun j hj=>by omega)
  refine⟨z,hz,?_,?_⟩
  · refine Ev.congr (fun k=>?_) h1
    unfold galoisref22_Inverse.f
    rw[if_pos (by omega),if_pos (by simp;omega),hpl]
    rfl
  · refine Ev.congr (fun k=>?_) h2
    unfold verifier_inverse.f
    rw[if_pos (by omega),if_pos (by simp;omega),hpl]
    rfl
/-- Both conjugates. -/
theorem conj_ev {n:Nat} (hn:n≤20) {x y:List Int} (hx:IsP n x) (hy:IsP n y):∃ z,Inv n y z∧Ev (fun k=>galoisref22_Conjugate.f k x y) (conj z x y)∧Ev (fun k=>verifier_inverse.f k y) z:=by
  obtain⟨z,hz,h1,h2⟩:=inv_ev hn hy
  refine⟨z,hz,?_,h2⟩
  unfold galoisref22_Conjugate.f
  exact Ev.bind h1 (Ev.bind (mul_ev hn hz.pz hx).1 (Ev.bind (mul_ev hn (mul_isP hz.pz hx) hy).1 (Ev.now _)))
end Go.Proofs.YtjbeoidhbbjcmaaGreat.Grp
