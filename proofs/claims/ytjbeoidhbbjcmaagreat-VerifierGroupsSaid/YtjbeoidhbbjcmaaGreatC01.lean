/- The law in plain terms: permutations, groups and what the functions come to. -/
import Derived.WalkKit
namespace Go.Proofs.YtjbeoidhbbjcmaaGreat.Grp
/-- A permutation of the points below n. -/
structure IsP (n:Nat) (p:List Int):Prop where
  len:p.length=n
  lo:∀ x∈p,0≤x
  hi:∀ x∈p,x < (n:Int)
  nd:p.Nodup
/-- First p, then q. -/
def mul (p q:List Int):List Int:=p.map fun i=>q.getD i.toNat 0
def one (n:Nat):List Int:=(List.range n).map Int.ofNat
/-- What the generators make. -/
inductive In (n:Nat) (gens:List (List Int)):List Int→Prop
  | one:In n gens (one n)
  | mul {p g:List Int}:In n gens p→g∈gens→In n gens (mul p g)
theorem getD_mem {α:Type} {l:List α} {i:Nat} {d:α} (h:i < l.length):l.getD i d∈l:=by
  rw[List.getD_eq_getElem?_getD,List.getElem?_eq_getElem h]
  exact List.getElem_mem h
theorem getD_map {α β:Type} (f:α→β) (l:List α) (i:Nat) (d:β) (d':α) (h:i < l.length):(l.map f).getD i d=f (l.getD i d'):=by
  rw[List.getD_eq_getElem?_getD,List.getD_eq_getElem?_getD,List.getElem?_map,List.getElem?_eq_getElem h]
  rfl
theorem IsP.at {n:Nat} {p:List Int} (h:IsP n p) {x:Int} (h0:0≤x) (h1:x < (n:Int)):0≤p.getD x.toNat 0∧p.getD x.toNat 0 < (n:Int):=by
  have hl:=h.len
  have:x.toNat < p.length:=by omega
  exact⟨h.lo _ (getD_mem this),h.hi _ (getD_mem this)⟩
theorem nodup_map_on {α β:Type} {f:α→β}:∀ {l:List α},(∀ x∈l,∀ y∈l,f x=f y→x=y)→l.Nodup→(l.map f).Nodup
  | [],_,_=>by simp
  | a :: r,hf,hn=>by
    rw[List.nodup_cons] at hn
    rw[List.map_cons,List.nodup_cons]
    refine⟨fun hm=>?_,nodup_map_on (fun x hx y hy=>hf x (by simp[hx]) y (by simp[hy])) hn.2⟩
    obtain⟨y,hy,he⟩:=List.mem_map.1 hm
    have:=hf y (by simp[hy]) a (by simp) he
    subst this
    exact hn.1 hy
theorem getD_inj {α:Type} {l:List α} {d:α} (hn:l.Nodup) {i j:Nat} (hi:i < l.length) (hj:j < l.length) (h:l.getD i d=l.getD j d):i=j:=by
  rw[List.getD_eq_getElem?_getD,List.getD_eq_getElem?_getD,List.getElem?_eq_getElem hi,List.getElem?_eq_getElem hj] at h
  exact (List.getElem_inj hn).1 (by simpa using h)
theorem mul_isP {n:Nat} {p q:List Int} (hp:IsP n p) (hq:IsP n q):IsP n (mul p q):=by
  refine⟨by simp[mul,hp.len],?_,?_,?_⟩
  · intro x hx
    obtain⟨y,hy,rfl⟩:=List.mem_map.1 hx
    exact (hq.at (hp.lo y hy) (hp.hi y hy)).1
  · intro x hx
    obtain⟨y,hy,rfl⟩:=List.mem_map.1 hx
    exact (hq.at (hp.lo y hy) (hp.hi y hy)).2
  · refine nodup_map_on (fun x hx y hy h=>?_) hp.nd
    have hl:=hq.len
    have:=hp.lo x hx;have:=hp.hi x hx;have:=hp.lo y hy;have:=hp.hi y hy
    have:=getD_inj hq.nd (by omega) (by omega) h
    omega
theorem one_isP (n:Nat):IsP n (one n):=by
  refine⟨by simp[one],?_,?_,?_⟩
  · intro x hx
    obtain⟨y,hy,rfl⟩:=List.mem_map.1 hx
    simp
  · intro x hx
    obtain⟨y,hy,rfl⟩:=List.mem_map.1 hx
    have:=List.mem_range.1 hy
    simp;omega
  · exact nodup_map_on (fun x _ y _ h=>by injection h) List.nodup_range
theorem mul_assoc {n:Nat} {p q r:List Int} (hp:IsP n p) (hq:IsP n q):mul (mul p q) r=mul p (mul q r):=by
  unfold mul
  rw[List.map_map]
  apply List.map_congr_left
  intro x hx
  have hl:=hq.len
  have:=hp.lo x hx;have:=hp.hi x hx
  simp only[Function.comp]
  rw[getD_map (fun i=>r.getD i.toNat 0) q x.toNat 0 0 (by omega)]
theorem mul_one {n:Nat} {p:List Int} (hp:IsP n p):mul p (one n)=p:=by
  unfold mul
  conv=>rhs;rw[← List.map_id p]
  apply List.map_congr_left
  intro x hx
  have:=hp.lo x hx;have:=hp.hi x hx
  unfold one
  rw[getD_map Int.ofNat (List.range n) x.toNat 0 0 (by simp;omega)]
  rw[List.getD_eq_getElem?_getD,List.getElem?_range (by omega)]
  simp;omega
theorem one_mul {n:Nat} {p:List Int} (hp:IsP n p):mul (one n) p=p:=by
  unfold mul one
  rw[List.map_map]
  apply List.ext_getElem?
  intro i
  rw[List.getElem?_map]
  by_cases h:i < n
  · rw[List.getElem?_range h,List.getElem?_eq_getElem (by rw[hp.len];exact h)]
    simp only[Option.map,Function.comp]
    congr 1
    show p.getD (Int.ofNat i).toNat 0=_
    rw[List.getD_eq_getElem?_getD]
    simp only[Int.ofNat_eq_natCast,Int.toNat_natCast]
    rw[List.getElem?_eq_getElem (by rw[hp.len];exact h)]
    rfl
  · rw[List.getElem?_eq_none (by simp;omega),List.getElem?_eq_none (by rw[hp.len];omega)]
    rfl
theorem In.isP {n:Nat} {gens:List (List Int)} (hg:∀ g∈gens,IsP n g) {p:List Int} (h:In n gens p):IsP n p:=by
  induction h with
  | one=>exact one_isP n
  | mul _ hm ih=>exact mul_isP ih (hg _ hm)
theorem In.gen {n:Nat} {gens:List (List Int)} (hg:∀ g∈gens,IsP n g) {g:List Int} (h:g∈gens):In n gens g:=by
  have:=In.mul (In.one (n:=n) (gens:=gens)) h
  rwa [one_mul (hg g h)] at this
theorem In.times {n:Nat} {gens:List (List Int)} (hg:∀ g∈gens,IsP n g) {p q:List Int} (hp:In n gens p) (hq:In n gens q):In n gens (Grp.mul p q):=by
  induction hq with
  | one=>rw[mul_one (hp.isP hg)];exact hp
  | @mul q g hq hm ih =>
    rw[← mul_assoc (hp.isP hg) (hq.isP hg)]
    exact In.mul ih hm
theorem In.sub {n:Nat} {gens other:List (List Int)} (ho:∀ g∈other,IsP n g) (h:∀ g∈gens,In n other g) {p:List Int} (hp:In n gens p):In n other p:=by
  induction hp with
  | one=>exact In.one
  | mul _ hm ih=>exact In.times ho ih (h _ hm)
/-- z is the inverse of y. -/
structure Inv (n:Nat) (y z:List Int):Prop where
  py:IsP n y
  pz:IsP n z
  yz:mul y z=one n
  zy:mul z y=one n
/-- What y makes of x: first z, then x, then y. -/
def conj (z x y:List Int):List Int:=mul (mul z x) y
theorem conj_one {n:Nat} {y z:List Int} (h:Inv n y z):conj z (one n) y=one n:=by
  unfold conj
  rw[mul_one h.pz,h.zy]
theorem conj_mul {n:Nat} {y z p q:List Int} (h:Inv n y z) (hp:IsP n p) (hq:IsP n q):conj z (mul p q) y=mul (conj z p y) (conj z q y):=by
  unfold conj
  have h1:=mul_isP h.pz hp
  have h2:=mul_isP h1 h.py
  rw[← mul_assoc h2 (mul_isP h.pz hq),← mul_assoc h2 h.pz,mul_assoc (r:=z) h1 h.py,h.yz,mul_one h1,mul_assoc (r:=q) h.pz hp]
theorem conj_in {n:Nat} {gens:List (List Int)} (hg:∀ g∈gens,IsP n g) {y z:List Int} (h:Inv n y z) (hx:∀ x∈gens,In n gens (conj z x y)) {p:List Int} (hp:In n gens p):In n gens (conj z p y):=by
  induction hp with
  | one=>rw[conj_one h];exact In.one
  | mul hp hm ih=>rw[conj_mul h (hp.isP hg) (hg _ hm)];exact In.times hg ih (hx _ hm)
/-- A list without doubles in another list is not longer. -/
theorem nodup_le {α:Type} [DecidableEq α]:∀ {l m:List α},l.Nodup→(∀ x∈l,x∈m)→l.length≤m.length
  | [],_,_,_=>by simp
  | a :: r,m,hn,hs=>by
    rw[List.nodup_cons] at hn
    have ha:=hs a (by simp)
    have:=nodup_le (l:=r) (m:=m.erase a) hn.2 (fun x hx=>(List.mem_erase_of_ne (fun he:x=a=>hn.1 (by rw[← he];exact hx))).2 (hs x (by simp[hx])))
    rw[List.length_erase_of_mem ha] at this
    have hp:=List.length_pos_of_mem ha
    simp only[List.length_cons]
    omega
theorem nodup_eq {α:Type} [DecidableEq α] {l m:List α} (hl:l.Nodup) (hm:m.Nodup) (h:∀ x,x∈l↔x∈m):l.length=m.length :=
  Nat.le_antisymm (nodup_le hl fun x hx=>(h x).1 hx) (nodup_le hm fun x hx=>(h x).2 hx)
/-- The letters of a permutation. -/
def letters (p:List Int):List UInt8:=p.map fun x=>UInt8.ofNat x.toNat
theorem letters_inj {n:Nat} (hn:n≤256) {p q:List Int} (hp:IsP n p) (hq:IsP n q) (h:letters p=letters q):p=q:=by
  have hl:p.length=q.length:=by rw[hp.len,hq.len]
  apply List.ext_getElem? 
  intro i
  by_cases hi:i < n
  · have h1:i < p.length:=by rw[hp.len];exact hi
    have h2:i < q.length:=by rw[hq.len];exact hi
    have:=congrArg (fun l=>l[i]?) h
    simp only[letters,List.getElem?_map,List.getElem?_eq_getElem h1,List.getElem?_eq_getElem h2,Option.map] at this
    have h3:=congrArg UInt8.toNat (Option.some.inj this)
    have a1:=hp.lo _ (List.getElem_mem h1);have a2:=hp.hi _ (List.getElem_mem h1)
    have b1:=hq.lo _ (List.getElem_mem h2);have b2:=hq.hi _ (List.getElem_mem h2)
    rw[UInt8.toNat_ofNat_of_lt' (by show _ < 256;omega),UInt8.toNat_ofNat_of_lt' (by show _ < 256;omega)] at h3
    rw[List.getElem?_eq_getElem h1,List.getElem?_eq_getElem h2]
    congr 1
    omega
  · rw[List.getElem?_eq_none (by rw[hp.len];omega),List.getElem?_eq_none (by rw[hq.len];omega)]
end Go.Proofs.YtjbeoidhbbjcmaaGreat.Grp
namespace Go.Proofs.YtjbeoidhbbjcmaaGreat.Grp
/-- -1, 0 or 1: by the first place that differs. -/
def lx:List Int→List Int→Int
  | [],_=>0
  | _ :: _,[]=>1
  | a :: r,b :: s=>if a < b then -1 else if a > b then 1 else lx r s
theorem lx_self:∀ p:List Int,lx p p=0
  | []=>rfl
  | a :: r=>by simp[lx,lx_self r]
theorem lx_eq:∀ {p q:List Int},p.length=q.length→lx p q=0→p=q
  | [],[],_,_=>rfl
  | [],_ :: _,h,_=>by simp at h
  | _ :: _,[],h,_=>by simp at h
  | a :: r,b :: s,h,he=>by
    unfold lx at he
    by_cases h1:a < b
    · simp[h1] at he
    · by_cases h2:a > b
      · simp[h1,h2] at he
      · simp[h1,h2] at he
        have:a=b:=by omega
        rw[this,lx_eq (by simpa using h) he]
theorem lx_anti:∀ {p q:List Int},p.length=q.length→lx q p=- lx p q
  | [],[],_=>rfl
  | [],_ :: _,h=>by simp at h
  | _ :: _,[],h=>by simp at h
  | a :: r,b :: s,h=>by
    unfold lx
    by_cases h1:a < b
    · have:¬ b < a:=by omega
      simp[h1,this]
    · by_cases h2:b < a
      · simp[h1,h2]
      · simp[h1,h2]
        exact lx_anti (by simpa using h)
theorem lx_trans:∀ {p q r:List Int},p.length=q.length→q.length=r.length→lx p q < 0→lx q r < 0→lx p r < 0
  | [],_,_,_,_,h,_=>by simp[lx] at h
  | _ :: _,[],_,h,_,_,_=>by simp at h
  | _ :: _,_ :: _,[],_,h,_,_=>by simp at h
  | a :: p,b :: q,c :: r,h1,h2,h3,h4=>by
    unfold lx at h3 h4 ⊢
    by_cases a1:a < b
    · by_cases b1:b < c
      · have:a < c:=by omega
        simp[this]
      · by_cases b2:b > c
        · simp[b1,b2] at h4
        · have:a < c:=by omega
          simp[this]
    · by_cases a2:a > b
      · simp[a1,a2] at h3
      · have hab:a=b:=by omega
        subst hab
        by_cases b1:a < c
        · simp[b1]
        · by_cases b2:a > c
          · simp[b1,b2] at h4
          · simp[b1,b2] at h4 ⊢
            simp at h3
            exact lx_trans (by simpa using h1) (by simpa using h2) h3 h4
/-- Rising, of lists of length n. -/
structure Up (n:Nat) (l:List (List Int)):Prop where
  len:∀ p∈l,p.length=n
  up:l.Pairwise (fun a b=>lx a b < 0)
theorem Up.nodup {n:Nat} {l:List (List Int)} (h:Up n l):l.Nodup :=
  h.up.imp fun h he=>by subst he;rw[lx_self] at h;omega
/-- k is the place of p in l. -/
structure PlaceAt (l:List (List Int)) (p:List Int) (k:Nat):Prop where
  le:k≤l.length
  lo:∀ i (h:i < l.length),i < k→lx l[i] p < 0
  hi:∀ i (h:i < l.length),k≤i→¬ lx l[i] p < 0
theorem PlaceAt.mem {n:Nat} {l:List (List Int)} (hl:Up n l) {p:List Int} (hp:p.length=n) {k:Nat} (h:PlaceAt l p k):p∈l↔∃ hk:k < l.length,l[k]=p:=by
  constructor
  · intro hm
    obtain⟨i,hi,rfl⟩:=List.mem_iff_getElem.1 hm
    by_cases hik:i < k
    · have:=h.lo i hi hik
      rw[lx_self] at this;omega
    · by_cases hk:k < i
      · have h1:=List.pairwise_iff_getElem.1 hl.up k i (by omega) hi hk
        exact absurd h1 (h.hi k (by omega) (Nat.le_refl _))
      · have:k=i:=by omega
        subst this
        exact⟨hi,rfl⟩
  · rintro⟨hk,rfl⟩
    exact List.getElem_mem hk
theorem put_up {n:Nat} {l:List (List Int)} (hl:Up n l) {p:List Int} (hp:p.length=n) {k:Nat} (h:PlaceAt l p k) (hn:p∉l):Up n (l.take k ++ p :: l.drop k)∧∀ x,x∈l.take k ++ p :: l.drop k↔x=p∨x∈l:=by
  have hmem:∀ x,x∈l.take k ++ p :: l.drop k↔x=p∨x∈l:=by
    intro x
    conv=>rhs;rw[← List.take_append_drop k l]
    simp only[List.mem_append,List.mem_cons]
    constructor
    · rintro (h|h|h) <;> simp[h]
    · rintro (h|h|h) <;> simp[h]
  refine⟨⟨fun x hx=>?_,?_⟩,hmem⟩
  · rcases (hmem x).1 hx with rfl|h
    · exact hp
    · exact hl.len x h
  · have hlt:∀ x∈l.take k,lx x p < 0:=by
      intro x hx
      obtain⟨i,hi,rfl⟩:=List.mem_iff_getElem.1 hx
      have:i < k∧i < l.length:=by rw[List.length_take] at hi;omega
      rw[List.getElem_take]
      exact h.lo i this.2 this.1
    have hgt:∀ x∈l.drop k,lx p x < 0:=by
      intro x hx
      have hxl:x∈l:=List.mem_of_mem_drop hx
      obtain⟨i,hi,rfl⟩:=List.mem_iff_getElem.1 hx
      rw[List.length_drop] at hi
      rw[List.getElem_drop] at hxl ⊢
      have h1:=h.hi (k + i) (by omega) (by omega)
      have hlen:l[k + i].length=p.length:=by rw[hl.len _ hxl,hp]
      have h2:lx l[k + i] p≠0:=fun he=>hn (lx_eq hlen he ▸ hxl)
      rw[lx_anti hlen]
      omega
    have hsplit:=hl.up
    rw[← List.take_append_drop k l,List.pairwise_append] at hsplit
    rw[List.pairwise_append,List.pairwise_cons]
    refine⟨hsplit.1,⟨hgt,hsplit.2.1⟩,fun a ha b hb=>?_⟩
    rcases List.mem_cons.1 hb with rfl|hb
    · exact hlt a ha
    · have hal:=hl.len a (List.mem_of_mem_take ha)
      have hbl:=hl.len b (List.mem_of_mem_drop hb)
      exact lx_trans (by rw[hal,hp]) (by rw[hp,hbl]) (hlt a ha) (hgt b hb)
end Go.Proofs.YtjbeoidhbbjcmaaGreat.Grp
