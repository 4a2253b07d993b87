/- A small machine that runs closed calls, with the proof that the program does what it does. -/
import Derived.Test.YtjbeoidhbbjcmaaGreatC19
namespace Go.AI
open Go Go.Proofs Go.Proofs.YtjbeoidhbbjcmaaGreat
open Go.RowKit (Below)
def pc:Nat→Code→Code
  | 0,.seq x _=>x
  | n + 1,.seq _ y=>pc n y
  | _,c=>c
def chain:List Code→Code→Code
  | [],z=>z
  | x :: l,z=>.seq x (chain l z)
noncomputable def segs:List Code→List Value→Hp→Option (List Value × Hp)
  | [],T,h=>some (T,h)
  | c :: l,T,h=>match code Tryz.prog (look t14) ext 3000 c T h with
    | some (.normal,T1,h1)=>segs l T1 h1
    | _=>none
def kept:List (Nat × Value)→Nat→Value
  | [],_=>junk
  | (j,v) :: r,i=>match Nat.beq j i with
    | true=>v
    | false=>kept r i
def toT (n:Nat) (kp:List (Nat × Value)):List Value:=(List.range n).map (kept kp)
def keepOk (T1:List Value):List (Nat × Value)→Bool
  | []=>true
  | (j,v) :: r=>match flat v with
    | true=>match beq0 v (getL T1 j) with
      | true=>keepOk T1 r
      | false=>false
    | false=>false
noncomputable def seg (l:List Code) (T:List Value) (n:Nat) (kp:List (Nat × Value)):Bool :=
  match segs l T ⟨[],0,[]⟩ with
  | some (T1,_)=>match decide (T1.length=n) with
    | true=>keepOk T1 kp
    | false=>false
  | none=>false
theorem segs_ok {Q:Exit→Act→World→Prop} {w0:World} {z:Code} {T1:List Value} {h1:Hp}:∀ (l:List Code) (T:List Value) (h:Hp) (M:Mp) (w:World) (a:Act),segs l T h=some (T1,h1)→HR Tryz.prog M w0 w h→TR M T a →
    (∀ M' a' w',HR Tryz.prog M' w0 w' h1→TR M' T1 a'→z.wp Tryz.prog Q a' w')→(chain l z).wp Tryz.prog Q a w
  | [],T,h,M,w,a,hs,hR,hT,hz=>by cases hs;exact hz M a w hR hT
  | c :: l,T,h,M,w,a,hs,hR,hT,hz=>by
    unfold segs at hs
    split at hs
    · rename_i T2 h2 hc
      refine wp_seq (wp_mono (code_ok (env_of g14) 3000 c T h _ hc M w0 w a hR hT) ?_)
      rintro e a' w' ⟨he,M',k1,_,k3⟩
      cases he
      exact segs_ok l T2 h2 M' w' a' hs k1 k3 hz
    · cases hs
theorem kept_ok {T1:List Value}:∀ {kp:List (Nat × Value)},keepOk T1 kp=true→∀ i,kept kp i=junk∨(flat (kept kp i)=true∧getL T1 i=kept kp i)
  | [],_,i=>.inl rfl
  | (j,v) :: r,h,i=>by
    unfold keepOk at h
    split at h
    · rename_i hf
      split at h
      · rename_i hb
        unfold kept
        split
        · rename_i hji
          obtain rfl:=Nat.eq_of_beq_eq_true hji
          exact .inr ⟨hf,(beq0_eq hb).symm⟩
        · exact kept_ok h i
      · cases h
    · cases h
theorem hr_empty {M:Mp} {w0 w:World} {h:Hp} (hR:HR Tryz.prog M w0 w h):HR Tryz.prog (fun _=>none) w0 w ⟨[],0,[]⟩:=by
  refine⟨hR.below,rfl,fun b m hm=>(by cases hm),fun b e cs hb=>?_,fun b ks hb=>?_,fun b b' m m' hm=>(by cases hm)⟩
  · unfold Hp.blk at hb;simp at hb
  · unfold Hp.blk at hb;simp at hb
theorem seg_ok {Q:Exit→Act→World→Prop} {w0 w:World} {z:Code} {l:List Code} {T:List Value} {n:Nat} {kp:List (Nat × Value)} {a:Act} (hs:seg l T n kp=true) (hR:HR Tryz.prog (fun _=>none) w0 w ⟨[],0,[]⟩) (hT:TR (fun _=>none) T a)
    (hz:∀ a' w',HR Tryz.prog (fun _=>none) w0 w' ⟨[],0,[]⟩→TR (fun _=>none) (toT n kp) a'→z.wp Tryz.prog Q a' w'):(chain l z).wp Tryz.prog Q a w:=by
  unfold seg at hs
  split at hs
  · rename_i T1 h1 he
    split at hs
    · rename_i hl
      have hl:=of_decide_eq_true hl
      refine segs_ok l T _ _ w a he hR hT fun M' a' w' k1 k2=>hz a' w' (hr_empty k1) ⟨?_,fun i=>?_,k2.df⟩
      · unfold toT;rw[List.length_map,List.length_range,← hl];exact k2.len
      · rw[getL_eq,List.getD_eq_getElem?_getD]
        unfold toT
        rw[List.getElem?_map]
        by_cases hi:i < n
        · rw[List.getElem?_range hi]
          show VR _ (kept kp i) _
          rcases kept_ok hs i with h0|⟨h0,h2⟩
          · rw[h0];exact .junk
          · have hv:=k2.val i
            rw[h2] at hv
            rw[VR.flat_eq h0 hv]
            exact .same h0
        · have h1:(List.range n)[i]?=none:=List.getElem?_eq_none (by rw[List.length_range];omega)
          have h2:a'.tmps.getD i undef=undef:=by
            rw[Array.getD_eq_getD_getElem?,Array.getElem?_eq_none (by rw[← k2.len];omega)];rfl
          rw[h1,h2]
          exact .same rfl
    · cases hs
  · cases hs
end Go.AI
