/- A small machine that runs closed calls, with the proof that the program does what it does. -/
import Derived.Test.YtjbeoidhbbjcmaaGreatC03
import Derived.OrdersHeld
import Derived.Deep.MidRow
import Derived.Laws.Slices
import Derived.Laws.BytesString
import Derived.WalkKit
import Derived.Below
import Derived.Laws.IdiomStrings
import Derived.ChangeKeysEq
import Derived.Maps.AppendAt
namespace Go.AI
open Go
section force
variable {β : Type}
/-- Each of these hands on its value, laid out: for the kernel's sake. -/
@[reducible] noncomputable def forceN (n:Nat) (k:Nat→β):β:=Nat.rec (motive:=fun _=>β) (k 0) (fun m _=>k (Nat.succ m)) n
@[reducible] noncomputable def forceI (n:Int) (k:Int→β):β:=Int.rec (motive:=fun _=>β) (fun m=>forceN m fun m=>k (.ofNat m)) (fun m=>forceN m fun m=>k (.negSucc m)) n
noncomputable def forceV (v:Value) (k:Value→β):β :=
  match v with
  | .int q n=>forceI n fun n=>k (.int q n)
  | v=>k v
noncomputable def setL:List Value→Nat→Value→(List Value→β)→β
  | [],_,_,k=>k []
  | _ :: xs,0,v,k=>k (v :: xs)
  | x :: xs,i + 1,v,k=>setL xs i v fun ys=>k (x :: ys)
noncomputable def forceL:List Value→(List Value→β)→β
  | [],k=>k []
  | x :: xs,k=>forceV x fun x=>forceL xs fun ys=>k (x :: ys)
end force
def getL:List Value→Nat→Value
  | [],_=>undef
  | x :: _,0=>x
  | _ :: xs,i + 1=>getL xs i
/-- What a Sem answers that looks at nothing but the program. -/
noncomputable def prun {α:Type} (P:Program) (s:Sem α):Option α :=
  Sem.rec (motive:=fun _=>Option α) (fun a=>some a) (fun _ _ _ _=>none) (fun _ _ _ _ _=>none) (fun _ _ _=>none) (fun _ _ _=>none) (fun _ _ _ _=>none) (fun _ _ _=>none) (fun _ _ _=>none)
    (fun _ _ _ _=>none) (fun _ _ _=>none) (fun _ _ _=>none) (fun _ ih=>ih P) (fun _ _ _=>none) (fun _=>none) s
/-- Values without addresses. -/
def flat0:Value→Bool
  | .bool _|.int _ _|.string _|.nilIface|.nilFunc|.pointer none|.map none|.slice none 0 0|.func (.func _) #[] #[]=>true
  | _=>false
def flat1:Value→Bool
  | .iface _ (.agg cs)=>cs.toList.all flat0
  | .iface _ v=>flat0 v
  | v=>flat0 v
def flatA:Value→Bool
  | .agg cs=>cs.toList.all flat1
  | v=>flat1 v
def flat:Value→Bool
  | .agg cs=>cs.toList.all flat1
  | .tuple vs=>vs.toList.all flatA
  | v=>flat1 v
inductive Blk where
  | row (e:TypeId) (cs:List Value)
  | map (keys:List (List UInt8))
  | dead
structure Hp where
  heap:List Blk
  n:Nat
  wr:List Nat
def nthB:List Blk→Nat→Option Blk
  | [],_=>none
  | x :: _,0=>some x
  | _ :: xs,i + 1=>nthB xs i
noncomputable def setB {β:Type}:List Blk→Nat→Blk→(List Blk→β)→β
  | [],_,_,k=>k []
  | _ :: xs,0,v,k=>k (v :: xs)
  | x :: xs,i + 1,v,k=>setB xs i v fun ys=>k (x :: ys)
def Hp.blk (h:Hp) (b:Nat):Option Blk:=if b < h.n then nthB h.heap (h.n - 1 - b) else none
def Hp.live (h:Hp) (b:Nat):Bool :=
  match h.blk b with
  | some (.row _ _)=>true
  | some (.map _)=>true
  | _=>false
noncomputable def Hp.new {β:Type} (h:Hp) (b:Blk) (k:Hp→β):β:=forceN (h.n + 1) fun n=>k ⟨b :: h.heap,n,h.wr⟩
noncomputable def Hp.upd {β:Type} (h:Hp) (b:Nat) (x:Blk) (k:Hp→β):β:=setB h.heap (h.n - 1 - b) x fun l=>k ⟨l,h.n,b :: h.wr⟩
def takeL:List Value→Nat→Option (List Value)
  | _,0=>some []
  | [],_ + 1=>none
  | x :: xs,n + 1=>(takeL xs n).map (x :: ·)
def dropL:List Value→Nat→List Value
  | l,0=>l
  | [],_ + 1=>[]
  | _ :: xs,n + 1=>dropL xs n
def cellsAt (h:Hp) (b off n:Nat):Option (List Value) :=
  match h.blk b with
  | some (.row _ cs)=>takeL (dropL cs off) n
  | _=>none
def sizeT (P:Program) (t:TypeId):Option Nat:=(P.info? t).map (·.size)
def isAggT (P:Program) (t:TypeId):Option Bool :=
  match P.underlying t with
  | some (.struct _)|some (.array _ _)=>some true
  | some _=>some false
  | none=>none
def evT (T:List Value):Operand→Value
  | .tmp t=>getL T t
  | .const v=>v
  | .global g=>.pointer (some ⟨g,0,none⟩)
  | .func f=>.func (.func f) #[] #[]
def okOpd:Operand→Bool
  | .tmp _=>true
  | .const v=>flat v
  | .func _=>true
  | .global _=>false
def notSel:Op→Bool
  | .select _ _=>false
  | _=>true
def solid:Value→Bool
  | .tuple _=>false
  | _=>true
abbrev RR:=Option (Value × Option Nat)
noncomputable def pureOp (P:Program) (T:List Value) (o:Oper):RR :=
  if notSel o.op && o.op.operands.toList.all (fun x=>okOpd x && flat (evT T x)) then
    match prun P (execOp (evT T) o) with
    | some (.value v)=>if flat v then some (v,none) else none
    | _=>none
  else none
/-- A type's element type and its size. -/
def elemT (P:Program) (t:TypeId):Option (TypeId × Nat) :=
  match P.underlying t with
  | some (.slice e)=>(sizeT P e).map fun n=>(e,n)
  | _=>none
def bytesOf:List Value→Option (List UInt8)
  | []=>some []
  | .int .u8 n :: r=>if 0≤n∧n < 256 then (bytesOf r).map (UInt8.ofNat n.toNat :: ·) else none
  | _=>none
def cutSlice (b off len c l h n:Nat):Value:=if h≤l∧0 < l then .slice (some ⟨b,off,none⟩) 0 2 else .slice (some ⟨b,off + l * n,none⟩) (h - l) c
def intOf:Value→Option Nat
  | .int _ (.ofNat i)=>some i
  | _=>none
/-- Into the range of a kind. -/
def wrapF (k:IntKind) (n:Int):Int :=
  match n with
  | .ofNat m=>match k with
    | .i64=>match Nat.blt m 9223372036854775808 with|true=>.ofNat m|false=>IntKind.i64.wrap (.ofNat m)
    | .u64=>.ofNat (m % 18446744073709551616)
    | .u8=>.ofNat (m % 256)
    | k=>k.wrap (.ofNat m)
  | .negSucc m=>k.wrap (.negSucc m)
def ibin (op:BinOp) (k:IntKind) (x y:Int):Option Value :=
  match op with
  | .add=>some (.int k (wrapF k (x + y)))
  | .sub=>some (.int k (wrapF k (x - y)))
  | .mul=>some (.int k (wrapF k (x * y)))
  | .eql=>some (.bool (x==y))
  | .neq=>some (.bool (x != y))
  | .lss=>some (.bool (decide (x < y)))
  | .leq=>some (.bool (decide (x≤y)))
  | .gtr=>some (.bool (decide (x > y)))
  | .geq=>some (.bool (decide (x ≥ y)))
  | .quo=>if y=0 then none else some (.int k (wrapF k (x.tdiv y)))
  | .rem=>if y=0 then none else some (.int k (x.tmod y))
  | _=>none
def ishift (op:BinOp) (k:IntKind) (x y:Int):Option Value :=
  match x,y with
  | .ofNat x,.ofNat y=>match op with
    | .shl=>some (.int k (wrapF k (.ofNat (x * Nat.pow 2 (min y k.bits)))))
    | .shr=>some (.int k (.ofNat (x / Nat.pow 2 (min y k.bits))))
    | _=>none
  | _,_=>none
def istr (op:BinOp) (x y:ByteArray):Option Value :=
  match op with
  | .eql=>some (.bool (x.toList==y.toList))
  | .neq=>some (.bool !(x.toList==y.toList))
  | _=>none
noncomputable def rBinI (P:Program) (T:List Value) (o:Oper) (op:BinOp) (k:IntKind) (a:Int) (v:Value):RR :=
  match v with
  | .int k' b=>match (match op with|.shl=>ishift op k a b|.shr=>ishift op k a b|_=>if k=k' then ibin op k a b else none) with
    | some v=>some (v,none)
    | none=>pureOp P T o
  | _=>pureOp P T o
noncomputable def rBinS (P:Program) (T:List Value) (o:Oper) (op:BinOp) (a:ByteArray) (v:Value):RR :=
  match v with
  | .string b=>match istr op a b with
    | some v=>some (v,none)
    | none=>pureOp P T o
  | _=>pureOp P T o
noncomputable def rBinN (P:Program) (T:List Value) (o:Oper) (op:BinOp) (t:TypeId) (v:Value):RR :=
  match v with
  | .nilIface=>match op,P.underlying t with|.eql,some (.interface _)=>some (.bool false,none)|_,_=>pureOp P T o
  | _=>pureOp P T o
noncomputable def rBin (P:Program) (T:List Value) (o:Oper) (op:BinOp) (t:TypeId) (x y:Operand):RR :=
  if okOpd x && okOpd y then match evT T x with
    | .int k a=>rBinI P T o op k a (evT T y)
    | .string a=>rBinS P T o op a (evT T y)
    | .iface _ _=>rBinN P T o op t (evT T y)
    | _=>pureOp P T o
  else none
noncomputable def rUn (P:Program) (T:List Value) (o:Oper) (op:UnOp) (x:Operand):RR :=
  if okOpd x then match evT T x with
    | .bool b=>match op with|.not=>some (.bool !b,none)|_=>pureOp P T o
    | _=>pureOp P T o
  else none
noncomputable def rIndex (P:Program) (T:List Value) (o:Oper) (t:TypeId) (x ix:Operand):RR :=
  if okOpd x && okOpd ix then match evT T x with
    | .string s=>match P.underlying t with
      | some .string=>match evT T ix with
        | .int _ (.ofNat i)=>match s[i]? with|some b=>some (.int .u8 b.toNat,none)|none=>none
        | _=>none
      | _=>none
    | _=>pureOp P T o
  else none
def rPick (T:List Value) (c x y:Operand):RR:=if okOpd c && okOpd x && okOpd y then match evT T c with|.bool true=>some (evT T x,none)|.bool false=>some (evT T y,none)|_=>none else none
noncomputable def rLoad (P:Program) (T:List Value) (h:Hp) (t:TypeId) (x:Operand):RR :=
  if okOpd x then match evT T x with
    | .pointer (some ⟨b,off,none⟩)=>match isAggT P t,sizeT P t with
      | some true,some n=>match cellsAt h b off n with|some l=>forceL l fun l=>some (.agg l.toArray,some b)|none=>none
      | some false,_=>match cellsAt h b off 1 with|some [v]=>some (v,some b)|_=>none
      | _,_=>none
    | _=>none else none
def rFieldAddr (P:Program) (T:List Value) (s:TypeId) (x:Operand) (f:Nat):RR :=
  if okOpd x then match evT T x,P.underlying s with
    | .pointer (some ⟨b,off,none⟩),some (.struct fs)=>match fs[f]? with
      | some fd=>match sizeT P fd.type with|some (_ + 1)=>some (.pointer (some ⟨b,off + fd.offset,none⟩),none)|_=>none
      | none=>none
    | _,_=>none else none
def rIndexAddr (P:Program) (T:List Value) (t:TypeId) (x ix:Operand):RR :=
  if okOpd x && okOpd ix then match evT T x,evT T ix,elemT P t with
    | .slice (some ⟨b,off,none⟩) len _,.int _ (.ofNat i),some (_,n)=>if i < len then some (.pointer (some ⟨b,off + i * n,none⟩),none) else none
    | _,_,_=>none else none
def cutOf (b off len c n:Nat):Option (Option Nat)→Option (Option Nat)→Option (Option Nat)→RR
  | none,none,none=>if c≤1 then some (cutSlice b off len c 0 len n,none) else none
  | some (some l),none,none=>if l≤len && c≤1 then some (cutSlice b off len c l len n,none) else none
  | none,some (some r),none=>if r≤len && c≤1 then some (cutSlice b off len c 0 r n,none) else none
  | some (some l),some (some r),none=>if l≤r && r≤len && c≤1 then some (cutSlice b off len c l r n,none) else none
  | none,some (some r),some (some m)=>if r≤m && m≤len && c≤1 then some (cutSlice b off len 1 0 r n,none) else none
  | _,_,_=>none
noncomputable def rSlice (P:Program) (T:List Value) (h:Hp) (o:Oper) (t:TypeId) (x:Operand) (lo hi mx:Option Operand):RR :=
  if okOpd x && lo.toList.all okOpd && hi.toList.all okOpd && mx.toList.all okOpd then match evT T x with
    | .slice (some ⟨b,off,none⟩) len c=>match elemT P t,h.blk b with
      | some (e,n),some (.row e' _)=>if e'=e then cutOf b off len c n (lo.map fun y=>intOf (evT T y)) (hi.map fun y=>intOf (evT T y)) (mx.map fun y=>intOf (evT T y)) else none
      | _,_=>none
    | _=>pureOp P T o else none
def rField (P:Program) (T:List Value) (t:TypeId) (x:Operand) (f:Nat):RR :=
  if okOpd x then match evT T x,P.underlying t with
    | .agg cs,some (.struct fs)=>match fs[f]? with
      | some fd=>match isAggT P fd.type,sizeT P fd.type with
        | some true,some n=>some (.agg (cs.extract fd.offset (fd.offset + n)),none)
        | some false,_=>(cs[fd.offset]?).map fun v=>(v,none)
        | _,_=>none
      | none=>none
    | _,_=>none else none
noncomputable def rBuild (P:Program) (T:List Value) (t:TypeId) (ps:Array (Nat × Operand)):RR :=
  if ps.toList.all (fun p=>okOpd p.2 && solid (evT T p.2)) then match P.underlying t,P.info? t with
    | some (.struct fs),some i=>match i.zero,fs.toList.mapM (fun f=>(sizeT P f.type).map fun n=>(f.offset,n)) with
      | some z,some pl=>if z.cells.toList.all flat1 then match Instr.fill (fun j=>pl[j]?) z.cells (ps.toList.map fun p=>(p.1,evT T p.2)) with|some cs=>forceL cs.toList fun l=>some (.agg l.toArray,none)|none=>none else none
      | _,_=>none
    | _,_=>none else none
def rExtract (T:List Value) (x:Operand) (j:Nat):RR :=
  if okOpd x then match evT T x with
    | .tuple vs=>if vs.size=1 then none else (vs[j]?).map fun v=>(v,none)
    | _=>none else none
def rMakeIface (P:Program) (T:List Value) (t:TypeId) (x:Operand):RR :=
  if okOpd x then match P.underlying t with
    | some (.interface _)=>none
    | some _=>some (.iface t (evT T x),none)
    | none=>none else none
def rAssert (P:Program) (T:List Value) (x:Operand) (t:TypeId) (ok:Bool):RR :=
  if okOpd x then match P.underlying t,evT T x with
    | some (.interface _),_=>none
    | some _,.iface u v=>if u=t then some (if ok then .tuple #[v,.bool true] else v,none) else if ok then match (P.info? t).bind (·.zero) with|some z=>if flat z then some (.tuple #[z,.bool false],none) else none|none=>none else none
    | _,_=>none else none
def rLookup (P:Program) (T:List Value) (h:Hp) (t:TypeId) (x ix:Operand):RR :=
  if okOpd x && okOpd ix then match evT T x,evT T ix with
    | .map (some b),.string s=>match h.blk b,P.underlying t with
      | some (.map ks),some (.map 9 4)=>if s.size≤maxLen then some (.bool (decide (s.data.toList∈ks)),some b) else none
      | _,_=>none
    | _,_=>none else none
noncomputable def rConvB (P:Program) (h:Hp) (src dst:TypeId) (b off len:Nat):RR :=
  match P.underlying src,P.underlying dst with
  | some (.slice e),some .string=>match P.underlying e,cellsAt h b off len with
    | some (.int .u8),some l=>if sizeT P e=some 1 then (bytesOf l).map fun bs=>(.string ⟨bs.toArray⟩,some b) else none
    | _,_=>none
  | _,_=>none
noncomputable def rConvert (P:Program) (T:List Value) (h:Hp) (o:Oper) (src dst:TypeId) (x:Operand):RR :=
  if okOpd x then match evT T x with
    | .slice (some ⟨b,off,none⟩) len _=>rConvB P h src dst b off len
    | .int _ n=>match P.underlying src,P.underlying dst with
      | some (.int _),some (.int k)=>some (.int k (wrapF k n),none)
      | _,_=>pureOp P T o
    | _=>pureOp P T o else none
noncomputable def rLen (P:Program) (T:List Value) (h:Hp) (o:Oper) (x:Operand) (t:TypeId):RR :=
  if okOpd x then match evT T x with
    | .slice (some ⟨_,_,none⟩) len _=>match P.underlying t with|some (.slice _)=>some (.int .i64 len,none)|_=>none
    | .map (some b)=>match h.blk b,P.underlying t with
      | some (.map ks),some (.map 9 4)=>some (.int .i64 ks.length,some b)
      | _,_=>none
    | _=>pureOp P T o else none
noncomputable def rCall (P:Program) (T:List Value) (h:Hp) (o:Oper) (c:Call):RR :=
  match c.callee with
  | .builtin .len=>match c.args.toList,c.argTypes.toList with
    | [x],[t]=>rLen P T h o x t
    | _,_=>pureOp P T o
  | _=>pureOp P T o
/-- Operations that leave the memory as it is: the value, and the block that was read. -/
noncomputable def iread (P:Program) (T:List Value) (h:Hp) (o:Oper):RR :=
  match o.op with
  | .move x=>if okOpd x then some (evT T x,none) else none
  | .assign x=>if okOpd x then some (evT T x,none) else none
  | .pick c x y=>rPick T c x y
  | .load t x=>rLoad P T h t x
  | .fieldAddr s x f=>rFieldAddr P T s x f
  | .indexAddr t x ix=>rIndexAddr P T t x ix
  | .slice t x lo hi mx=>rSlice P T h o t x lo hi mx
  | .field t x f=>rField P T t x f
  | .build t ps=>rBuild P T t ps
  | .extract x j=>rExtract T x j
  | .makeInterface t x=>rMakeIface P T t x
  | .typeAssert x _ t ok=>rAssert P T x t ok
  | .lookup t x ix false=>rLookup P T h t x ix
  | .convert src dst x=>rConvert P T h o src dst x
  | .binOp op t x y _=>rBin P T o op t x y
  | .unOp op _ x=>rUn P T o op x
  | .index t x ix=>rIndex P T o t x ix
  | .call c=>rCall P T h o c
  | .store _ _ _=>none
  | .alloc _=>none
  | .box _ _=>none
  | .makeSlice _ _ _=>none
  | .buildSlice _ _ _=>none
  | _=>pureOp P T o
abbrev ER:=Option (Value × Hp)
noncomputable def mkRow (P:Program) (h:Hp) (e:TypeId) (cs:List Value) (v:Nat→Value):ER:=if (sizeT P e).isSome && cs.all (·.oneCell') then forceL cs fun cs=>h.new (.row e cs) fun h'=>some (v h.n,h') else none
def ptrTo (b:Nat):Value:=.pointer (some ⟨b,0,none⟩)
noncomputable def eAlloc (P:Program) (h:Hp) (e:TypeId):ER :=
  match (P.info? e).bind (·.zero) with
  | some z=>if z.cells.toList.all flat1 then mkRow P h e z.cells.toList ptrTo else none
  | none=>none
noncomputable def eBox (P:Program) (T:List Value) (h:Hp) (e:TypeId) (x:Operand):ER:=if okOpd x then mkRow P h e (evT T x).cells.toList ptrTo else none
noncomputable def putCells:List Value→Nat→List Value→Option (List Value)
  | cs,0,[]=>some cs
  | [],_,_=>none
  | _ :: cs,0,v :: vs=>(putCells cs 0 vs).map (v :: ·)
  | c :: cs,i + 1,vs=>(putCells cs i vs).map (c :: ·)
noncomputable def eStore (P:Program) (T:List Value) (h:Hp) (t:TypeId) (x y:Operand):ER :=
  if okOpd x && okOpd y then match evT T x with
    | .pointer (some ⟨b,off,none⟩)=>match h.blk b with
      | some (.row e cs)=>if sizeT P t=some (evT T y).cells.toList.length && (evT T y).cells.toList.all (·.oneCell') then
          match putCells cs off (evT T y).cells.toList with
          | some cs'=>forceL cs' fun cs'=>h.upd b (.row e cs') fun h'=>some (undef,h')
          | none=>none
        else none
      | _=>none
    | _=>none else none
def intIn:Value→Option Nat
  | .int _ (.ofNat n)=>some n
  | _=>none
noncomputable def eMake (P:Program) (T:List Value) (h:Hp) (t:TypeId) (l c:Operand):ER :=
  if okOpd l && okOpd c then match intIn (evT T l),intIn (evT T c),elemT P t with
    | some n,some m,some (e,size)=>match P.info? e with
      | some i=>match i.zero with
        | some z=>if n=m && n≤65536 && n * size≤65536 && z.cells.size=size && 0 < size && i.bytes≤65536 && z.cells.toList.all flat1 then
            mkRow P h e (madeCells z.cells (n * size)).toList fun b=>.slice (some ⟨b,0,none⟩) n 0 else none
        | none=>none
      | none=>none
    | _,_,_=>none else none
noncomputable def eBuildSlice (P:Program) (T:List Value) (h:Hp) (t:TypeId) (len:Nat) (ps:Array (Nat × Operand)):ER :=
  if ps.toList.all (fun p=>okOpd p.2 && solid (evT T p.2)) then match elemT P t with
    | some (e,size)=>match (P.info? e).bind (·.zero) with
      | some z=>if len * size≤65536 && 0 < size && z.cells.size=size && z.cells.toList.all flat1 then
          match Instr.fill (fun i=>some (i * size,size)) ((Array.range (len * size)).map (z.cells[· % z.cells.size]!)) (ps.toList.map fun p=>(p.1,evT T p.2)) with
          | some cs=>mkRow P h e cs.toList fun b=>.slice (some ⟨b,0,none⟩) len 0
          | none=>none
        else none
      | none=>none
    | none=>none else none
noncomputable def eMakeMap (P:Program) (h:Hp) (t:TypeId):ER :=
  match P.underlying t with
  | some (.map 9 4)=>h.new (.map []) fun h'=>some (.map (some h.n),h')
  | _=>none
noncomputable def ePut (P:Program) (T:List Value) (h:Hp) (t:TypeId) (m k x:Operand):ER :=
  if okOpd m && okOpd k && okOpd x then match P.underlying t,evT T m,evT T k,evT T x with
    | some (.map 9 4),.map (some b),.string s,.bool true=>match h.blk b with
      | some (.map ks)=>if s.size≤maxLen && ks.length < 65536 && !ks.contains s.data.toList then h.upd b (.map (ks ++ [s.data.toList])) fun h'=>some (undef,h') else none
      | _=>none
    | _,_,_,_=>none else none
noncomputable def growRow (P:Program) (h:Hp) (e size m:Nat) (news:List Value):Value→ER
  | .slice none 0 0=>mkRow P h e news fun b=>.slice (some ⟨b,0,none⟩) (m + 1) 0
  | .slice (some ⟨b,0,none⟩) n 0=>match cellsAt h b 0 (n * size),h.blk b with
    | some old,some (.row e' _)=>if n≤65536 && e'=e then h.upd b .dead fun h'=>mkRow P h' e (old ++ news) fun b=>.slice (some ⟨b,0,none⟩) (n + m + 1) 0 else none
    | _,_=>none
  | _=>none
noncomputable def eAppend (P:Program) (T:List Value) (h:Hp) (s x:Operand) (t t':TypeId):ER :=
  if okOpd s && okOpd x && t=t' then match elemT P t,evT T x with
    | some (e,size),.slice (some ⟨b2,off,none⟩) (m + 1) _=>match P.info? e,cellsAt h b2 off ((m + 1) * size) with
      | some i,some news=>match i.zero with
        | some z=>if z.cells.size=size && 0 < size && i.bytes≤65536 && m≤65536 then growRow P h e size m news (evT T s) else none
        | none=>none
      | _,_=>none
    | _,_=>none else none
abbrev CallT:=FuncId→List Value→Hp→ER
def eCallV (T:List Value) (call:CallT) (h:Hp) (f:Operand) (xs:Array Operand):ER :=
  if okOpd f && xs.toList.all okOpd then match evT T f with
    | .func (.func g) fs cs=>if fs.size=0 && cs.size=0 then call g (xs.toList.map (evT T)) h else none
    | _=>none else none
def isPtr:TypeDesc→Bool
  | .pointer _=>true
  | _=>false
def eInvoke (P:Program) (T:List Value) (call:CallT) (h:Hp) (r:Operand) (name:String) (xs:Array Operand):ER :=
  if okOpd r && xs.toList.all okOpd then match evT T r with
    | .iface t v=>match (P.info? t).bind (fun i=>i.methods.find? (·.name==name)),P.underlying t with
      | some m,some d=>if m.path.size=0 && !isPtr d then match m.func with
        | some (g,false)=>call g (v :: xs.toList.map (evT T)) h
        | _=>none
        else none
      | _,_=>none
    | _=>none else none
noncomputable def eCall (P:Program) (call:CallT) (T:List Value) (h:Hp) (c:Call):ER :=
  match c.callee with
  | .builtin .append=>match c.args.toList,c.argTypes.toList with
    | [s,x],[t,t']=>eAppend P T h s x t t'
    | _,_=>none
  | .value f=>eCallV T call h f c.args
  | .invoke r name=>eInvoke P T call h r name c.args
  | _=>none
/-- Operations that turn the memory. -/
noncomputable def ieff (P:Program) (call:CallT) (T:List Value) (h:Hp) (o:Oper):ER :=
  match o.op with
  | .alloc e=>eAlloc P h e
  | .box e x=>eBox P T h e x
  | .store t x y=>eStore P T h t x y
  | .makeSlice t l c=>eMake P T h t l c
  | .buildSlice t len ps=>eBuildSlice P T h t len ps
  | .makeMap t none=>eMakeMap P h t
  | .mapUpdate t m k x=>ePut P T h t m k x
  | .insert t m k x=>ePut P T h t m k x
  | .call c=>eCall P call T h c
  | _=>none
noncomputable def putT {β:Type} (T:List Value) (d:Option Tmp) (v:Value) (k:List Value→β):β :=
  match d with
  | none=>k T
  | some d=>forceV v fun v=>setL T d v k
/-- Is an operation carried out? none: its guard hangs on what is not known. -/
def wantT (ops:Array Oper) (T:List Value) (o:Oper):Option Bool :=
  match o.guard with
  | none=>some true
  | some (j,b)=>match (ops[j]?).bind (·.dst) with
    | none=>some false
    | some t=>match getL T t with
      | .bool b'=>some (b'==b)
      | .tuple vs=>if vs.size=0 then some false else none
      | _=>some false
noncomputable def istep (P:Program) (call:CallT) (ops:Array Oper) (T:List Value) (h:Hp) (o:Oper):Option (List Value × Hp) :=
  match wantT ops T o with
  | some true=>match iread P T h o with
    | some (v,_)=>putT T o.dst v fun T'=>some (T',h)
    | none=>match ieff P call T h o with
      | some (v,h')=>putT T o.dst v fun T'=>some (T',h')
      | none=>none
  | some false=>putT T o.dst undef fun T'=>some (T',h)
  | none=>none
noncomputable def iops (P:Program) (call:CallT) (ops:Array Oper):List Oper→List Value→Hp→Option (List Value × Hp)
  | [],T,h=>some (T,h)
  | o :: rest,T,h=>match istep P call ops T h o with
    | some (T',h')=>iops P call ops rest T' h'
    | none=>none
/-- May operation o be taken first? Its value. -/
noncomputable def itake (P:Program) (W:List Nat) (n0:Nat) (ops:Array Oper) (T:List Value) (h:Hp) (o:Oper):Option Value :=
  match wantT ops T o with
  | some true=>match iread P T h o with
    | some (v,none)=>some v
    | some (v,some b)=>if b < n0 && !W.contains b && h.live b then some v else none
    | none=>none
  | some false=>some undef
  | none=>none
noncomputable def findTake (P:Program) (W:List Nat) (n0:Nat) (ops:Array Oper) (listed:Array Bool) (T:List Value) (h:Hp):List Nat→Option (Nat × Oper × Value)
  | []=>none
  | i :: rest=>match (if Region.free .any ops listed i then (match ops[i]? with|some o=>(itake P W n0 ops T h o).map fun v=>(i,o,v)|none=>none) else none) with
    | some r=>some r
    | none=>findTake P W n0 ops listed T h rest
/-- An allocation that may wait for the others: its element type, its cells, and its length if it is a slice. -/
noncomputable def prep (P:Program) (T:List Value) (h:Hp) (o:Oper):Option (TypeId × List Value × Option Nat) :=
  match o.op with
  | .buildSlice t len ps=>match eBuildSlice P T h t len ps with
    | some (_,⟨.row e cs :: _,_,_⟩)=>some (e,cs,some len)
    | _=>none
  | .alloc t=>match eAlloc P h t with
    | some (_,⟨.row e cs :: _,_,_⟩)=>some (e,cs,none)
    | _=>none
  | _=>none
def vA (l:Option Nat) (b:Nat):Value :=
  match l with
  | some n=>.slice (some ⟨b,0,none⟩) n 0
  | none=>ptrTo b
def readsT (o:Oper):List Operand :=
  match o.op with
  | .buildSlice _ _ ps=>ps.toList.map (·.2)
  | .load _ x=>[x]
  | _=>[]
def apartW (oj o:Oper) (dj:Tmp):Bool :=
  match o.dst with
  | none=>true
  | some d=>!Nat.beq d dj && (readsT oj).all fun x=>match x with
    | .tmp t=>!Nat.beq t d
    | _=>true
/-- What waits: an allocation, or a read of a block. -/
inductive WK where
  | alloc (e:TypeId) (cs:List Value) (l:Option Nat)
  | read (v:Value) (b:Nat)
structure Wt where
  j:Nat
  oj:Oper
  dj:Tmp
  k:WK
def wkOk (k:WK) (h:Hp):Bool :=
  match k with
  | .alloc _ _ _=>true
  | .read _ b=>!h.wr.contains b
def junk:Value:=.tuple #[.tuple #[]]
abbrev GoT:=Option Wt→Array Bool→List Value→Hp→Option (List Value × Hp)
noncomputable def waitStep (P:Program) (call:CallT) (W:List Nat) (n0:Nat) (ops:Array Oper) (go:GoT) (wt:Wt) (listed:Array Bool) (T:List Value) (h:Hp):Option (List Value × Hp) :=
  if Region.ready .any ops listed=[wt.j] then match wt.k with
    | .alloc e cs l=>h.new (.row e cs) fun h'=>putT T (some wt.dj) (vA l h.n) fun T'=>go none (listed.setIfInBounds wt.j true) T' h'
    | .read v _=>putT T (some wt.dj) v fun T'=>go none (listed.setIfInBounds wt.j true) T' h
  else if Region.ready .any ops (listed.setIfInBounds wt.j true)=(Region.ready .any ops listed).filter (fun i=>!Nat.beq i wt.j) then
    match findTake P W n0 ops listed T h ((Region.ready .any ops listed).filter (fun i=>!Nat.beq i wt.j)) with
    | some (i,o,v)=>if Region.free .any ops (listed.setIfInBounds wt.j true) i && apartW wt.oj o wt.dj then putT T o.dst v fun T'=>go (some wt) (listed.setIfInBounds i true) T' h else none
    | none=>match (Region.ready .any ops listed).filter (fun i=>!Nat.beq i wt.j) with
      | [i]=>match ops[i]? with
        | some o=>if apartW wt.oj o wt.dj then match istep P call ops T h o with
          | some (T',h')=>if h'.wr.all (fun b=>W.contains b || n0≤b) && wkOk wt.k h' then go (some wt) (listed.setIfInBounds i true) T' h' else none
          | none=>none
          else none
        | none=>none
      | _=>none
  else none
/-- Which of those that may come up is to wait? -/
noncomputable def findWait (P:Program) (ops:Array Oper) (listed:Array Bool) (T:List Value) (h:Hp):List Nat→Option Wt
  | []=>none
  | j :: rest=>match findWait P ops listed T h rest with
    | some wt=>some wt
    | none=>if Region.ready .any ops (listed.setIfInBounds j true)=(Region.ready .any ops listed).filter (fun i=>!Nat.beq i j) then match ops[j]? with
      | some oj=>match oj.guard,oj.dst with
        | none,some dj=>match prep P T h oj with
          | some (e,cs,l)=>some ⟨j,oj,dj,.alloc e cs l⟩
          | none=>match oj.op with
            | .load t x=>match iread P T h oj with
              | some (v,some b)=>if h.live b && !h.wr.contains b then some ⟨j,oj,dj,.read v b⟩ else none
              | _=>none
            | _=>none
        | _,_=>none
      | none=>none
      else none
noncomputable def idrawF (P:Program) (call:CallT) (W:List Nat) (n0:Nat) (ops:Array Oper) (go:GoT) (pj:Option Wt) (listed:Array Bool) (T:List Value) (h:Hp):Option (List Value × Hp) :=
  match pj with
  | some wt=>waitStep P call W n0 ops go wt listed T h
  | none=>match Region.ready .any ops listed with
    | []=>some (T,h)
    | rs=>match findTake P W n0 ops listed T h rs with
      | some (i,o,v)=>putT T o.dst v fun T'=>go none (listed.setIfInBounds i true) T' h
      | none=>match rs with
        | [i]=>match ops[i]? with
          | some o=>match istep P call ops T h o with
            | some (T',h')=>if h'.wr.all (fun b=>W.contains b || n0≤b) then go none (listed.setIfInBounds i true) T' h' else none
            | none=>none
          | none=>none
        | _=>match findWait P ops listed T h rs with
          | some wt=>setL T wt.dj junk fun T'=>waitStep P call W n0 ops go wt listed T' h
          | none=>none
noncomputable def idraw (P:Program) (call:CallT) (W:List Nat) (n0:Nat) (ops:Array Oper):Nat→GoT
  | 0=>fun _ _ _ _=>none
  | k + 1=>idrawF P call W n0 ops (idraw P call W n0 ops k)
/-- Where the stores of a region may lead: a guess; nothing hangs on it. -/
def blkOf:Value→List Nat
  | .pointer (some ad)=>[ad.block]
  | .slice (some ad) _ _=>[ad.block]
  | .map (some b)=>[b]
  | _=>[]
noncomputable def guessW (P:Program) (ops:Array Oper):List Oper→List Value→Hp→List Nat
  | [],_,_=>[]
  | o :: rest,T,h =>
    match o.op with
    | .store _ x _=>blkOf (evT T x) ++ guessW P ops rest T h
    | .mapUpdate _ m _ _=>blkOf (evT T m) ++ guessW P ops rest T h
    | .insert _ m _ _=>blkOf (evT T m) ++ guessW P ops rest T h
    | .call { callee:=.builtin .append,args:=xs,argTypes:=_ }=>(match xs.toList with|x :: _=>blkOf (evT T x)|[]=>[]) ++ guessW P ops rest T h
    | _=>match iread P T h o with
      | some (v,_)=>putT T o.dst v fun T'=>guessW P ops rest T' h
      | none=>guessW P ops rest T h
inductive X where
  | normal
  | exit (id:Nat)
  | ret
abbrev CR:=Option (X × List Value × Hp)
noncomputable def cSeq (go:Code→List Value→Hp→CR) (y:Code):CR→CR
  | some (.normal,T,h)=>go y T h
  | r=>r
noncomputable def cBlock (id:Nat):CR→CR
  | some (.exit j,T,h)=>if j=id then some (.normal,T,h) else some (.exit j,T,h)
  | r=>r
noncomputable def cCond (go:Code→List Value→Hp→CR) (c:Operand) (x y:Code) (T:List Value) (h:Hp):CR:=if okOpd c then match evT T c with|.bool true=>go x T h|.bool false=>go y T h|_=>none else none
noncomputable def cOps:Option (List Value × Hp)→CR
  | some (T,h)=>some (.normal,T,h)
  | none=>none
noncomputable def cDraw (P:Program) (call:CallT) (ops:Array Oper) (T:List Value) (h:Hp):CR :=
  match Region.noSelect ops,idraw P call (guessW P ops ops.toList T h) h.n ops (ops.size + 1) none (Array.replicate ops.size false) T ⟨h.heap,h.n,[]⟩ with
  | true,some (T',h')=>some (.normal,T',⟨h'.heap,h'.n,h'.wr ++ h.wr⟩)
  | _,_=>none
noncomputable def codeF (P:Program) (call:CallT) (go:Code→List Value→Hp→CR) (c:Code) (T:List Value) (h:Hp):CR :=
  match c with
  | .skip=>some (.normal,T,h)
  | .region _ ops false=>cOps (iops P call ops ops.toList T h)
  | .region _ ops true=>cDraw P call ops T h
  | .seq x y=>cSeq go y (go x T h)
  | .cond c x y=>cCond go c x y T h
  | .block id x=>cBlock id (go x T h)
  | .loop x=>cSeq go (.loop x) (go x T h)
  | .exit id=>some (.exit id,T,h)
  | .ret=>some (.ret,T,h)
  | _=>none
noncomputable def resCell (P:Program) (h:Hp) (ty:TypeId):Value→Option Value
  | .pointer (some ⟨b,off,none⟩)=>match isAggT P ty,sizeT P ty with
    | some true,some n=>match cellsAt h b off n with|some l=>forceL l fun l=>some (.agg l.toArray)|none=>none
    | some false,_=>match cellsAt h b off 1 with|some [v]=>some v|_=>none
    | _,_=>none
  | _=>none
noncomputable def resOne (P:Program) (T:List Value) (h:Hp):ResultVar→Option Value
  | .tmp t=>some (getL T t)
  | .cell t ty=>resCell P h ty (getL T t)
noncomputable def resL (P:Program) (T:List Value) (h:Hp):List ResultVar→Option (List Value)
  | []=>some []
  | r :: rs=>match resOne P T h r,resL P T h rs with
    | some v,some vs=>some (v :: vs)
    | _,_=>none
noncomputable def resAll (P:Program) (fn:Func) (T:List Value) (h:Hp):Option Value :=
  match resL P T h fn.results.toList with
  | some [v]=>some v
  | some vs=>some (.tuple vs.toArray)
  | none=>none
noncomputable def cResult (P:Program) (fn:Func):CR→ER
  | some (.exit _,_,_)=>none
  | some (_,T,h)=>match resAll P fn T h with|some v=>some (v,h)|none=>none
  | none=>none
noncomputable def callF (P:Program) (tab ext:FuncId→List Value→Option Value) (code:Code→List Value→Hp→CR) (f:FuncId) (args:List Value) (h:Hp):ER :=
  match tab f args with
  | some v=>some (v,h)
  | none=>match P.funcs[f]? with
    | none=>none
    | some fn=>match fn.body with
      | none=>match ext f args with|some v=>some (v,h)|none=>none
      | some c=>forceL (args ++ List.replicate (fn.ntmps - args.length) undef) fun T=>cResult P fn (code c T h)
noncomputable def code (P:Program) (tab ext:FuncId→List Value→Option Value) (k:Nat):Code→List Value→Hp→CR :=
  Nat.rec (motive:=fun _=>Code→List Value→Hp→CR) (fun _ _ _=>none) (fun _ ih=>codeF P (callF P tab ext ih) ih) k
noncomputable def icall (P:Program) (tab ext:FuncId→List Value→Option Value) (k:Nat):CallT:=callF P tab ext (code P tab ext k)
end Go.AI
namespace Go.AI
open Go
structure Meta where
  g:Nat
  sz:Nat
  csz:Nat
abbrev Mp:=Nat→Option Meta
/-- A value of the small machine stands for a value. -/
inductive VR (M:Mp):Value→Value→Prop
  | junk {v:Value}:VR M (.tuple #[.tuple #[]]) v
  | same {v:Value}:flat v=true→VR M v v
  | ptr {b off:Nat} {m:Meta}:M b=some m→VR M (.pointer (some ⟨b,off,none⟩)) (.pointer (some ⟨m.g,off,none⟩))
  | own {b off len c:Nat} {m:Meta}:M b=some m→len≤c→off + c * m.sz=m.csz→c≤maxLen→VR M (.slice (some ⟨b,off,none⟩) len 0) (.slice (some ⟨m.g,off,none⟩) len c)
  | cut {b off len c:Nat} {m:Meta}:M b=some m→len≤c→VR M (.slice (some ⟨b,off,none⟩) len 1) (.slice (some ⟨m.g,off,none⟩) len c)
  | emp {a a':Addr} {c:Nat}:VR M (.slice (some a) 0 2) (.slice (some a') 0 c)
  | map {b:Nat} {m:Meta}:M b=some m→VR M (.map (some b)) (.map (some m.g))
  | iface {t:TypeId} {v v':Value}:VR M v v'→VR M (.iface t v) (.iface t v')
  | agg {cs cs':Array Value}:cs.size=cs'.size→(∀ (i:Nat) (v v':Value),cs[i]?=some v→cs'[i]?=some v'→VR M v v')→VR M (.agg cs) (.agg cs')
  | tuple {cs cs':Array Value}:cs.size=cs'.size→(∀ (i:Nat) (v v':Value),cs[i]?=some v→cs'[i]?=some v'→VR M v v')→VR M (.tuple cs) (.tuple cs')
def Ext (M M':Mp):Prop:=∀ b m,M b=some m→M' b=some m
theorem Ext.refl (M:Mp):Ext M M:=fun _ _ h=>h
theorem Ext.trans {M M' M'':Mp} (h:Ext M M') (k:Ext M' M''):Ext M M'':=fun b m hm=>k b m (h b m hm)
theorem VR.mono {M M':Mp} (hE:Ext M M') {v v':Value} (h:VR M v v'):VR M' v v':=by
  induction h with
  | junk=>exact .junk
  | same h=>exact .same h
  | ptr h=>exact .ptr (hE _ _ h)
  | own h h1 h2 h3=>exact .own (hE _ _ h) h1 h2 h3
  | cut h h1=>exact .cut (hE _ _ h) h1
  | emp=>exact .emp
  | map h=>exact .map (hE _ _ h)
  | iface _ ih=>exact .iface ih
  | agg hs _ ih=>exact .agg hs fun i v v' h h'=>ih i v v' h h'
  | tuple hs _ ih=>exact .tuple hs fun i v v' h h'=>ih i v v' h h'
theorem arr_eq {M:Mp} {fl:Value→Bool} (ih:∀ {v v':Value},fl v=true→VR M v v'→v'=v) {cs cs':Array Value} (hf:cs.toList.all fl=true) (hs:cs.size=cs'.size)
    (h:∀ (i:Nat) (v v':Value),cs[i]?=some v→cs'[i]?=some v'→VR M v v'):cs'=cs:=by
  apply Array.ext_getElem?
  intro i
  by_cases hi:i < cs.size
  · have h1:cs[i]?=some cs[i]:=Array.getElem?_eq_getElem hi
    have h2 : cs'[i]? = some (cs'[i]'(by omega)) := Array.getElem?_eq_getElem (by omega)
    have h3:=List.all_eq_true.1 hf cs[i] (by simp)
    rw[h1,h2,ih h3 (h i _ _ h1 h2)]
  · rw[Array.getElem?_eq_none (by omega),Array.getElem?_eq_none (by omega)]
theorem VR.flat0_eq {M:Mp} {v v':Value} (hf:flat0 v=true) (h:VR M v v'):v'=v:=by
  cases h with
  | same _=>rfl
  | _=>simp[flat0] at hf
theorem VR.flat1_eq {M:Mp} {v v':Value} (hf:flat1 v=true) (h:VR M v v'):v'=v:=by
  cases h with
  | same _=>rfl
  | iface h =>
    congr 1
    cases h with
    | same _=>rfl
    | agg hs h=>congr 1;exact arr_eq (fl:=flat0) VR.flat0_eq hf hs h
    | _=>simp[flat1,flat0] at hf
  | _=>simp[flat1,flat0] at hf
theorem VR.flatA_eq {M:Mp} {v v':Value} (hf:flatA v=true) (h:VR M v v'):v'=v:=by
  cases h with
  | same _=>rfl
  | agg hs h=>congr 1;exact arr_eq (fl:=flat1) VR.flat1_eq hf hs h
  | iface h=>exact VR.flat1_eq (v:=.iface _ _) hf (.iface h)
  | _=>simp[flatA,flat1,flat0] at hf
theorem VR.flat_eq {M:Mp} {v v':Value} (hf:flat v=true) (h:VR M v v'):v'=v:=by
  cases h with
  | same _=>rfl
  | junk=>simp[flat,flatA,flat1,flat0] at hf
  | agg hs h=>congr 1;exact arr_eq (fl:=flat1) VR.flat1_eq hf hs h
  | tuple hs h =>
    congr 1
    exact arr_eq (fl:=flatA) VR.flatA_eq hf hs h
  | iface h=>exact VR.flat1_eq (v:=.iface _ _) hf (.iface h)
  | _=>simp[flat,flat1,flat0] at hf
theorem flat_of1 {v:Value} (h:flat1 v=true):flat v=true:=by
  unfold flat
  split
  · simp[flat1,flat0] at h
  · simp[flat1,flat0] at h
  · exact h
end Go.AI
namespace Go.AI
open Go Go.Proofs.YtjbeoidhbbjcmaaGreat
open Go.RowKit (Below)
variable {P : Program} {M : Mp} {w0 w : World} {h : Hp} {T : List Value} {a : Act}
structure HR (P:Program) (M:Mp) (w0 w:World) (h:Hp):Prop where
  below:Below w0.heap.size w0 w
  len:h.heap.length=h.n
  dom:∀ b m,M b=some m→b < h.n
  row:∀ b e cs,h.blk b=some (.row e cs)→∃ m cur,M b=some m∧w0.heap.size≤m.g∧w.heap[m.g]?=some (.cells cur e (0,0))∧cur.size=m.csz∧sizeT P e=some m.sz ∧
    ∀ (i:Nat) (v:Value),cs[i]?=some v→∃ v',cur[i]?=some v'∧VR M v v'∧v'.oneCell'=true
  map:∀ b ks,h.blk b=some (.map ks)→∃ m,M b=some m∧w0.heap.size≤m.g∧OwnSet P 9 4 w m.g ks
  inj:∀ b b' m m',M b=some m→M b'=some m'→h.blk b≠some .dead→h.blk b'≠some .dead→m.g=m'.g→b=b'
structure TR (M:Mp) (T:List Value) (a:Act):Prop where
  len:T.length=a.tmps.size
  val:∀ i,VR M (getL T i) (a.tmps.getD i undef)
  df:a.defers=[]
theorem forceV_eq {β:Type} (v:Value) (k:Value→β):forceV v k=k v:=by
  unfold forceV
  split
  · rename_i q n
    cases n with
    | ofNat m=>cases m <;> rfl
    | negSucc m=>cases m <;> rfl
  · rfl
theorem forceN_eq {β:Type} (n:Nat) (k:Nat→β):forceN n k=k n:=by cases n <;> rfl
theorem setL_eq {β:Type}:∀ (l:List Value) (i:Nat) (v:Value) (k:List Value→β),setL l i v k=k (l.set i v)
  | [],_,_,_=>by simp[setL]
  | _ :: _,0,_,_=>by simp[setL]
  | _ :: xs,i + 1,v,k=>by simp[setL,setL_eq xs i v]
theorem setB_eq {β:Type}:∀ (l:List Blk) (i:Nat) (v:Blk) (k:List Blk→β),setB l i v k=k (l.set i v)
  | [],_,_,_=>by simp[setB]
  | _ :: _,0,_,_=>by simp[setB]
  | _ :: xs,i + 1,v,k=>by simp[setB,setB_eq xs i v]
theorem forceL_eq {β:Type}:∀ (l:List Value) (k:List Value→β),forceL l k=k l
  | [],_=>by simp[forceL]
  | x :: xs,k=>by simp[forceL,forceV_eq,forceL_eq xs]
theorem putT_eq {β:Type} (T:List Value) (d:Option Tmp) (v:Value) (k:List Value→β):putT T d v k=k (match d with|none=>T|some d=>T.set d v):=by
  unfold putT
  cases d <;> simp[forceV_eq,setL_eq]
theorem getL_eq:∀ (l:List Value) (i:Nat),getL l i=l.getD i undef
  | [],_=>by simp[getL]
  | _ :: _,0=>by simp[getL]
  | _ :: xs,i + 1=>by simp[getL,getL_eq xs i]
theorem nthB_eq:∀ (l:List Blk) (i:Nat),nthB l i=l[i]?
  | [],_=>by simp[nthB]
  | _ :: _,0=>by simp[nthB]
  | _ :: xs,i + 1=>by simp[nthB,nthB_eq xs i]
theorem dropL_eq:∀ (l:List Value) (n:Nat),dropL l n=l.drop n
  | _,0=>by simp[dropL]
  | [],_ + 1=>by simp[dropL]
  | _ :: xs,n + 1=>by simp[dropL,dropL_eq xs n]
theorem takeL_some:∀ {l:List Value} {n:Nat} {r:List Value},takeL l n=some r→r.length=n∧∀ (i:Nat) (v:Value),r[i]?=some v→l[i]?=some v
  | l,0,r,h=>by
    have:r=[]:=by cases l <;> simp[takeL] at h <;> exact h
    subst this
    exact⟨rfl,fun i v hv=>by simp at hv⟩
  | [],_ + 1,_,h=>by simp[takeL] at h
  | x :: xs,n + 1,r,h=>by
    simp only[takeL] at h
    obtain⟨r',h1,rfl⟩:=Option.map_eq_some_iff.1 h
    obtain⟨h2,h3⟩:=takeL_some h1
    refine⟨by simp[h2],fun i v hv=>?_⟩
    cases i with
    | zero=>simpa using hv
    | succ i=>simp only[List.getElem?_cons_succ] at hv ⊢;exact h3 i v hv
theorem cellsAt_some {b off n:Nat} {l:List Value} (hc:cellsAt h b off n=some l):∃ e cs,h.blk b=some (.row e cs)∧l.length=n∧∀ (i:Nat) (v:Value),l[i]?=some v→cs[off + i]?=some v:=by
  unfold cellsAt at hc
  split at hc
  · rename_i e cs hb
    obtain⟨h1,h2⟩:=takeL_some hc
    refine⟨e,cs,hb,h1,fun i v hv=>?_⟩
    have:=h2 i v hv
    rwa [dropL_eq,List.getElem?_drop] at this
  · cases hc
theorem ev_rel (hT:TR M T a) {x:Operand} (hx:okOpd x=true):VR M (evT T x) (a.eval x):=by
  cases x with
  | tmp t=>exact hT.val t
  | const v=>exact .same hx
  | func f=>exact .same rfl
  | global g=>cases hx
/-- The cells as they lie in the program's memory. -/
theorem HR.cells (hR:HR P M w0 w h) {b off n:Nat} {l:List Value} (hc:cellsAt h b off n=some l):∃ m l',M b=some m∧l'.length=n ∧
    (∀ (i:Nat) (v v':Value),l[i]?=some v→l'[i]?=some v'→VR M v v')∧(∀ v∈l',v.oneCell'=true)∧∀ w':World,w'.heap[m.g]?=w.heap[m.g]?→w'.rangeAt m.g off l':=by
  obtain⟨e,cs,hb,hl,hcs⟩:=cellsAt_some hc
  obtain⟨m,cur,hm,_,hcur,_,_,hv⟩:=hR.row b e cs hb
  have hex:∀ i,i < n→∃ v v',l[i]?=some v∧cur[off + i]?=some v'∧VR M v v'∧v'.oneCell'=true:=by
    intro i hi
    have h1:l[i]?=some l[i]:=List.getElem?_eq_getElem (by omega)
    obtain⟨v',h2,h3,h4⟩:=hv _ _ (hcs i _ h1)
    exact⟨_,v',h1,h2,h3,h4⟩
  have hlen:∀ i,i < n→off + i < cur.size:=by
    intro i hi
    obtain⟨_,_,_,h2,_⟩:=hex i hi
    exact (Array.getElem?_eq_some_iff.1 h2).1
  refine⟨m,(cur.toList.drop off).take n,hm,?_,?_,?_,?_⟩
  · rw[List.length_take,List.length_drop,Array.length_toList]
    by_cases hn:n=0
    · omega
    · have:=hlen (n - 1) (by omega);omega
  · intro i v v' h1 h2
    have hi:i < n:=by rw[← hl];exact (List.getElem?_eq_some_iff.1 h1).1
    obtain⟨u,u',h3,h4,h5,_⟩:=hex i hi
    rw[List.getElem?_take_of_lt hi,List.getElem?_drop,Array.getElem?_toList,h4] at h2
    rw[h3] at h1
    cases h1;cases h2
    exact h5
  · intro v hv'
    obtain⟨i,hi⟩:=List.mem_iff_getElem?.1 hv'
    have hin:i < n:=by
      have:=(List.getElem?_eq_some_iff.1 hi).1
      rw[List.length_take] at this;omega
    obtain⟨u,u',h3,h4,_,h6⟩:=hex i hin
    rw[List.getElem?_take_of_lt hin,List.getElem?_drop,Array.getElem?_toList,h4] at hi
    cases hi
    exact h6
  · intro w' hw j v hj
    have hin:j < n:=by
      have:=(List.getElem?_eq_some_iff.1 hj).1
      rw[List.length_take] at this;omega
    rw[List.getElem?_take_of_lt hin,List.getElem?_drop,Array.getElem?_toList] at hj
    unfold World.cell?
    rw[hw,hcur]
    simpa using hj
/-- What an operation that reads answers. -/
def Reads (P:Program) (M:Mp) (w:World) (a:Act) (o:Oper) (r:Value × Option Nat):Prop :=
  ∃ v',VR M r.1 v'∧∀ w':World,(∀ b m,r.2=some b→M b=some m→w'.heap[m.g]?=w.heap[m.g]?)→(execOp a.eval o).run P w'=.ok (.value v') w'
theorem prun_run {α:Type}:∀ (s:Sem α) (v:α),prun P s=some v→∀ w:World,s.run P w=.ok v w:=by
  intro s
  induction s with
  | pure a=>intro v hv w;cases hv;rfl
  | program k ih=>intro v hv w;exact ih P v hv w
  | _=>intro v hv;cases hv
theorem notSel_ne {op:Op} (hs:notSel op=true):∀ cs b,op≠.select cs b:=by
  intro cs b he;subst he;cases hs
theorem pure_reads (hT:TR M T a) {o:Oper} {r:Value × Option Nat} (hp:pureOp P T o=some r):Reads P M w a o r:=by
  unfold pureOp at hp
  split at hp
  · rename_i hc
    simp only[Bool.and_eq_true,List.all_eq_true] at hc
    obtain⟨hs,ho⟩:=hc
    split at hp
    · rename_i v hr
      split at hp
      · rename_i hf
        cases hp
        refine⟨v,.same hf,fun w' _=>?_⟩
        have he:execOp a.eval o=execOp (evT T) o:=execOp_congr o (notSel_ne hs) fun x hx=>by
          have h1:=ho x (by simpa using hx)
          exact VR.flat_eq h1.2 (ev_rel hT h1.1)
        rw[he]
        exact prun_run _ _ hr w'
      · cases hp
    · cases hp
  · cases hp
theorem sizeT_info {t:TypeId} {n:Nat} (h:sizeT P t=some n):∃ i,P.info? t=some i∧i.size=n:=Option.map_eq_some_iff.1 h
theorem isAgg_row {t:TypeId} {b:Bool} (h:isAggT P t=some b):∃ d,P.underlying t=some d∧TypeDesc.isRow d=b:=by
  unfold isAggT at h
  cases hd:P.underlying t with
  | none=>simp[hd] at h
  | some d=>rw[hd] at h;cases d <;> simp at h <;> subst h <;> exact⟨_,rfl,rfl⟩
end Go.AI
namespace Go.AI
open Go Go.Proofs.YtjbeoidhbbjcmaaGreat
open Go.RowKit (Below)
variable {P : Program} {M : Mp} {w0 w : World} {h : Hp} {T : List Value} {a : Act} {o : Oper} {r : Value × Option Nat}
theorem exec_v {s:Sem Value} {v:Value} (hs:s.run P w=.ok v w):(do pure (Next.value (← s)):Sem Next).run P w=.ok (.value v) w:=by
  simp[Sem.run_bind,hs,Result.andThen]
theorem size_run {t:TypeId} {n:Nat} (ht:sizeT P t=some n) (w:World):(sizeOf t).run P w=.ok n w:=by
  obtain⟨i,h1,h2⟩:=sizeT_info ht
  simp[sizeOf,typeInfo,h1,h2]
theorem elemT_some {t:TypeId} {e n:Nat} (ht:elemT P t=some (e,n)):P.underlying t=some (.slice e)∧sizeT P e=some n∧P.elem t=e:=by
  unfold elemT at ht
  split at ht
  · rename_i e' he
    obtain⟨n',h1,h2⟩:=Option.map_eq_some_iff.1 ht
    cases h2
    exact⟨he,h1,by simp[Program.elem,he]⟩
  · cases ht
theorem pick_ok (hT:TR M T a) {c x y:Operand} (hop:o.op=.pick c x y) (hr:rPick T c x y=some r):Reads P M w a o r:=by
  unfold rPick at hr
  split at hr
  · rename_i hc
    simp only[Bool.and_eq_true] at hc
    obtain⟨⟨h1,h2⟩,h3⟩:=hc
    have hb:=ev_rel hT h1
    have hrun:∀ (b:Bool) (w':World),a.eval c=.bool b→(execOp a.eval o).run P w'=.ok (.value (if b then a.eval x else a.eval y)) w':=by
      intro b w' he
      unfold execOp
      simp[hop,he,asBool]
    split at hr
    · rename_i he
      cases hr
      rw[he] at hb
      refine⟨_,ev_rel hT h2,fun w' _=>hrun true w' (VR.flat_eq rfl hb)⟩
    · rename_i he
      cases hr
      rw[he] at hb
      refine⟨_,ev_rel hT h3,fun w' _=>hrun false w' (VR.flat_eq rfl hb)⟩
    · cases hr
  · cases hr
theorem vr_ptr {b off:Nat} {v':Value} (hv:VR M (.pointer (some ⟨b,off,none⟩)) v'):∃ m,M b=some m∧v'=.pointer (some ⟨m.g,off,none⟩):=by
  cases hv with
  | same hf=>simp[flat,flat1,flat0] at hf
  | ptr hm=>exact⟨_,hm,rfl⟩
theorem vr_slice {b off len c:Nat} {v':Value} (hc:c≤1) (hv:VR M (.slice (some ⟨b,off,none⟩) len c) v'):∃ m c',M b=some m∧len≤c'∧(c=0→off + c' * m.sz=m.csz∧c'≤maxLen)∧v'=.slice (some ⟨m.g,off,none⟩) len c':=by
  cases hv with
  | same hf=>simp[flat,flat1,flat0] at hf
  | own hm h1 h2 h3=>exact⟨_,_,hm,h1,fun _=>⟨h2,h3⟩,rfl⟩
  | cut hm h1=>exact⟨_,_,hm,h1,fun h'=>absurd h' (by simp),rfl⟩
  | emp=>omega
theorem vr_slice_pos {b off len c:Nat} {v':Value} (hl:0 < len) (hv:VR M (.slice (some ⟨b,off,none⟩) len c) v'):∃ m c',M b=some m∧v'=.slice (some ⟨m.g,off,none⟩) len c':=by
  cases hv with
  | same hf=>simp[flat,flat1,flat0] at hf
  | own hm h1 h2=>exact⟨_,_,hm,rfl⟩
  | cut hm h1=>exact⟨_,_,hm,rfl⟩
  | emp=>omega
theorem vr_slice_any {a0:Addr} {len c:Nat} {v':Value} (hv:VR M (.slice (some a0) len c) v'):∃ a' c',v'=.slice (some a') len c':=by
  cases hv with
  | same hf=>simp[flat,flat1,flat0] at hf
  | own hm h1 h2=>exact⟨_,_,rfl⟩
  | cut hm h1=>exact⟨_,_,rfl⟩
  | emp=>exact⟨_,_,rfl⟩
theorem vr_int {k:IntKind} {n:Int} {v':Value} (hv:VR M (.int k n) v'):v'=.int k n:=VR.flat_eq rfl hv
theorem vr_bool {b:Bool} {v':Value} (hv:VR M (.bool b) v'):v'=.bool b:=VR.flat_eq rfl hv
theorem vr_str {s:ByteArray} {v':Value} (hv:VR M (.string s) v'):v'=.string s:=VR.flat_eq rfl hv
theorem vr_map {b:Nat} {v':Value} (hv:VR M (.map (some b)) v'):∃ m,M b=some m∧v'=.map (some m.g):=by
  cases hv with
  | same hf=>simp[flat,flat1,flat0] at hf
  | map hm=>exact⟨_,hm,rfl⟩
theorem load_ok (hR:HR P M w0 w h) (hT:TR M T a) {t:TypeId} {x:Operand} (hop:o.op=.load t x) (hr:rLoad P T h t x=some r):Reads P M w a o r:=by
  unfold rLoad at hr
  split at hr
  · rename_i hx
    have hv:=ev_rel hT hx
    split at hr
    · rename_i b off he
      rw[he] at hv
      obtain⟨m,hm,hv⟩:=vr_ptr hv
      split at hr
      · rename_i n ha hs
        obtain⟨d,hd,hrow⟩:=isAgg_row ha
        split at hr
        · rename_i l hc
          rw[forceL_eq] at hr
          cases hr
          obtain⟨m',l',hm',hl',hrel,_,hat⟩:=hR.cells hc
          rw[hm] at hm';cases hm'
          obtain⟨_,_,_,hl,_⟩:=cellsAt_some hc
          refine⟨.agg l'.toArray,.agg (by simp[hl,hl']) (fun i v v' h1 h2=>hrel i v v' (by simpa using h1) (by simpa using h2)),fun w' hw'=>?_⟩
          obtain⟨i0,hi0,hi1⟩:=sizeT_info hs
          unfold execOp
          simp only[hop,hv]
          exact exec_v (run_loadAt_mid w' m.g off t l' d (hat w' (hw' b m rfl hm)) hd hrow (by rw[hi0];simp[hi1,hl']))
        · cases hr
      · rename_i ha
        obtain⟨d,hd,hrow⟩:=isAgg_row ha
        split at hr
        · rename_i v hc
          cases hr
          obtain⟨m',l',hm',hl',hrel,_,hat⟩:=hR.cells hc
          rw[hm] at hm';cases hm'
          obtain⟨v',rfl⟩:∃ v',l'=[v']:=List.length_eq_one_iff.1 hl'
          refine⟨v',hrel 0 v v' rfl rfl,fun w' hw'=>?_⟩
          have hcell:w'.cell? ⟨m.g,off,none⟩=some v':=by simpa using hat w' (hw' b m rfl hm) 0 v' rfl
          have hagg:(isAgg t).run P w'=.ok false w':=by
            unfold isAgg
            rw[Sem.run_bind,run_underlying hd w']
            cases d <;> simp_all [TypeDesc.isRow]
          unfold execOp
          simp only[hop,hv]
          refine exec_v ?_
          simp[Instr.loadAt,Instr.sureAddr,loadVar,Sem.run_bind,hagg,hcell]
        · cases hr
      · cases hr
    · cases hr
  · cases hr
theorem add_none (g off n:Nat):(⟨g,off,none⟩:Addr).add n=⟨g,off + n,none⟩:=Addr.add_mid g off n
theorem fieldAddr_ok (hT:TR M T a) {s:TypeId} {x:Operand} {f:Nat} (hop:o.op=.fieldAddr s x f) (hr:rFieldAddr P T s x f=some r):Reads P M w a o r:=by
  unfold rFieldAddr at hr
  split at hr
  · rename_i hx
    have hv:=ev_rel hT hx
    split at hr
    · rename_i b off fs he hu
      rw[he] at hv
      obtain⟨m,hm,hv⟩:=vr_ptr hv
      split at hr
      · rename_i fd hfd
        split at hr
        · rename_i n hs
          cases hr
          refine⟨_,.ptr hm,fun w' _=>?_⟩
          unfold execOp
          simp only[hop,hv]
          refine exec_v ?_
          simp[Instr.fieldAt,run_underlying hu,hfd,Instr.sureAddr,fieldPlace,size_run hs,add_none,Result.andThen]
        · cases hr
      · cases hr
    · cases hr
  · cases hr
theorem indexAddr_ok (hT:TR M T a) {t:TypeId} {x ix:Operand} (hop:o.op=.indexAddr t x ix) (hr:rIndexAddr P T t x ix=some r):Reads P M w a o r:=by
  unfold rIndexAddr at hr
  split at hr
  · rename_i hx
    simp only[Bool.and_eq_true] at hx
    have hv:=ev_rel hT hx.1
    have hi:=ev_rel hT hx.2
    split at hr
    · rename_i b off len c k i e n he hei helem
      rw[he] at hv
      rw[hei] at hi
      have hi:=vr_int hi
      obtain⟨hu,hs,hel⟩:=elemT_some helem
      split at hr
      · rename_i hlt
        cases hr
        obtain⟨m,c',hm,hv⟩:=vr_slice_pos (by omega) hv
        refine⟨_,.ptr hm,fun w' _=>?_⟩
        unfold execOp
        simp only[hop,hv,hi]
        refine exec_v ?_
        have h1:(0:Int)≤Int.ofNat i:=by simp
        have h2:Int.ofNat i < (len:Int):=by simpa using hlt
        simp[Instr.indexAt,asIntOf,run_underlying hu,size_run hs,add_none,hlt,Result.andThen]
      · cases hr
    · cases hr
  · cases hr
theorem sliced_ok {b off len c l r' n c':Nat} {m:Meta} (hm:M b=some m) (hlr:l≤r') (hr:r'≤len) (hlen:len≤c') (hc1:c≤1) (hend:c=0→off + c' * m.sz=m.csz∧c'≤maxLen) (hn:m.sz=n) :
    VR M (cutSlice b off len c l r' n) (sliced (some ⟨m.g,off,none⟩) l r' c' n):=by
  unfold cutSlice sliced
  subst hn
  split
  · rename_i h0
    have:r' - l=0:=by omega
    rw[this]
    by_cases he:c'=l
    · rw[if_pos he];exact .emp
    · rw[if_neg he];exact .emp
  · rename_i h0
    have hpos:l < r'∨l=0:=by omega
    have haddr:(if c'=l then some (⟨m.g,off,none⟩:Addr) else (some (⟨m.g,off,none⟩:Addr)).map (·.add (l * m.sz)))=some ⟨m.g,off + l * m.sz,none⟩:=by
      by_cases he:c'=l
      · have:l=0:=by omega
        subst this
        rw[if_pos he];simp
      · rw[if_neg he];simp[add_none]
    rw[haddr]
    rcases Nat.le_one_iff_eq_zero_or_eq_one.1 hc1 with rfl|rfl
    · have:=(hend rfl).1
      have hml:=(hend rfl).2
      refine .own hm (by omega) ?_ (by omega)
      have h2:l * m.sz + (c' - l) * m.sz=c' * m.sz:=by rw[← Nat.add_mul];congr 1;omega
      omega
    · exact .cut hm (by omega)
theorem intOf_some {v v':Value} {n:Nat} (hv:VR M v v') (hi:intOf v=some n):∃ k,v'=.int k (n:Int):=by
  unfold intOf at hi
  split at hi
  · rename_i k i
    cases hi
    exact⟨k,vr_int hv⟩
  · cases hi
theorem slice_ok (hT:TR M T a) (hR:HR P M w0 w h) {t:TypeId} {x:Operand} {lo hi mx:Option Operand} (hop:o.op=.slice t x lo hi mx) (hr:rSlice P T h o t x lo hi mx=some r):Reads P M w a o r:=by
  unfold rSlice at hr
  split at hr
  · rename_i hx
    simp only[Bool.and_eq_true,List.all_eq_true,Option.mem_toList] at hx
    obtain⟨⟨⟨hx,hlo⟩,hhi⟩,hmx⟩:=hx
    have hv:=ev_rel hT hx
    split at hr
    · rename_i b off len c he
      rw[he] at hv
      split at hr
      · rename_i e n e' cs helem hb
        obtain⟨hu,hs,hel⟩:=elemT_some helem
        split at hr
        · rename_i hee
          subst hee
          obtain⟨m0,cur,hm0,_,_,_,hsz,_⟩:=hR.row b _ _ hb
          have hn:m0.sz=n:=by rw[hs] at hsz;exact (Option.some.inj hsz).symm
          have hrun:∀ (s:Sem Value) (v':Value) (w':World),Instr.sliceAt t (a.eval x) (lo.map a.eval) (hi.map a.eval) (mx.map a.eval)=s→s.run P w'=.ok v' w'→(execOp a.eval o).run P w'=.ok (.value v') w':=by
            intro s v' w' h1 h2
            unfold execOp
            simp only[hop,h1]
            exact exec_v h2
          have hel':P.underlying t=some (.slice (P.elem t)):=by rw[hel];exact hu
          have hsz':∀ w':World,(sizeOf (P.elem t)).run P w'=.ok n w':=fun w'=>by rw[hel];exact size_run hs w'
          have hint:∀ (q:Option Operand) (i:Nat),(∀ y,q=some y→okOpd y=true)→(q.map fun y=>intOf (evT T y))=some (some i)→∃ k,q.map a.eval=some (.int k (i:Int)):=by
            intro q i hq hi
            cases q with
            | none=>cases hi
            | some y =>
              obtain⟨k,hk⟩:=intOf_some (ev_rel hT (hq y rfl)) (Option.some.inj hi)
              exact⟨k,by simp[hk]⟩
          have hnone:∀ (q:Option Operand),(q.map fun y=>intOf (evT T y))=none→q.map a.eval=none:=by
            intro q hq
            cases q with
            | none=>rfl
            | some y=>cases hq
          unfold cutOf at hr
          split at hr
          · rename_i e1 e2 e3
            split at hr
            · rename_i hc
              cases hr
              obtain⟨m,c',hm,hlen,hend,hv⟩:=vr_slice hc hv
              rw[hm0] at hm;cases hm
              refine⟨_,sliced_ok hm0 (Nat.zero_le _) (Nat.le_refl _) hlen hc hend hn,fun w' _=>hrun _ _ w' rfl ?_⟩
              rw[hnone _ e1,hnone _ e2,hnone _ e3,hv,run_sliceAt_slice w' t _ _ _ _ hel',run_slice_all w' t _ _ _ hel',hsz' w']
              rfl
            · cases hr
          · rename_i l e1 e2 e3
            split at hr
            · rename_i hc
              simp only[Bool.and_eq_true,decide_eq_true_eq] at hc
              cases hr
              obtain⟨m,c',hm,hlen,hend,hv⟩:=vr_slice hc.2 hv
              rw[hm0] at hm;cases hm
              obtain⟨k1,hk1⟩:=hint lo l hlo e1
              refine⟨_,sliced_ok hm0 hc.1 (Nat.le_refl _) hlen hc.2 hend hn,fun w' _=>hrun _ _ w' rfl ?_⟩
              rw[hk1,hnone _ e2,hnone _ e3,hv,run_sliceAt_slice w' t _ _ _ _ hel',run_slice_l w' t _ _ _ hel' k1 _ (by omega) (by omega),hsz' w']
              rfl
            · cases hr
          · rename_i l e1 e2 e3
            split at hr
            · rename_i hc
              simp only[Bool.and_eq_true,decide_eq_true_eq] at hc
              cases hr
              obtain⟨m,c',hm,hlen,hend,hv⟩:=vr_slice hc.2 hv
              rw[hm0] at hm;cases hm
              obtain⟨k1,hk1⟩:=hint hi l hhi e2
              refine⟨_,sliced_ok hm0 (Nat.zero_le _) hc.1 hlen hc.2 hend hn,fun w' _=>hrun _ _ w' rfl ?_⟩
              rw[hk1,hnone _ e1,hnone _ e3,hv,run_sliceAt_slice w' t _ _ _ _ hel',run_slice_h w' t _ _ _ hel' k1 _ (by omega) (by omega),hsz' w']
              rfl
            · cases hr
          · rename_i l l2 e1 e2 e3
            split at hr
            · rename_i hc
              simp only[Bool.and_eq_true,decide_eq_true_eq] at hc
              cases hr
              obtain⟨m,c',hm,hlen,hend,hv⟩:=vr_slice hc.2 hv
              rw[hm0] at hm;cases hm
              obtain⟨k1,hk1⟩:=hint lo l hlo e1
              obtain⟨k2,hk2⟩:=hint hi l2 hhi e2
              refine⟨_,sliced_ok hm0 hc.1.1 hc.1.2 hlen hc.2 hend hn,fun w' _=>hrun _ _ w' rfl ?_⟩
              rw[hk1,hk2,hnone _ e3,hv,run_sliceAt_slice w' t _ _ _ _ hel',run_slice_lh w' t _ _ _ hel' k1 k2 _ _ (by omega) (by omega) (by omega),hsz' w']
              rfl
            · cases hr
          · rename_i l l2 e1 e2 e3
            split at hr
            · rename_i hc
              simp only[Bool.and_eq_true,decide_eq_true_eq] at hc
              cases hr
              obtain⟨m,c',hm,hlen,hend,hv⟩:=vr_slice hc.2 hv
              rw[hm0] at hm;cases hm
              obtain⟨k1,hk1⟩:=hint hi l hhi e2
              obtain⟨k2,hk2⟩:=hint mx l2 hmx e3
              refine⟨sliced (some ⟨m0.g,off,none⟩) 0 l l2 n,?_,fun w' _=>hrun _ _ w' rfl ?_⟩
              · unfold cutSlice sliced
                rw[if_neg (by omega)]
                by_cases h0:l2=0
                · rw[if_pos h0]
                  simp only[Nat.zero_mul,Nat.add_zero,Nat.sub_zero]
                  exact .cut hm0 hc.1.1
                · rw[if_neg h0]
                  simp only[Option.map_some,add_none,Nat.zero_mul,Nat.add_zero,Nat.sub_zero]
                  exact .cut hm0 hc.1.1
              · rw[hnone _ e1,hk1,hk2,hv,run_sliceAt_slice w' t _ _ _ _ hel',run_slice_hm w' t _ _ _ hel' k1 k2 _ _ (by omega) (by omega) (by omega),hsz' w']
                rfl
            · cases hr
          · cases hr
        · cases hr
      · cases hr
    · exact pure_reads hT hr
  · cases hr
end Go.AI
namespace Go.AI
open Go Go.Proofs.YtjbeoidhbbjcmaaGreat
open Go.RowKit (Below)
variable {P : Program} {M : Mp} {w0 w : World} {h : Hp} {T : List Value} {a : Act} {o : Oper} {r : Value × Option Nat}
theorem vr_agg {cs:Array Value} {v':Value} (hv:VR M (.agg cs) v'):∃ cs',v'=.agg cs'∧cs.size=cs'.size∧∀ (i:Nat) (v v':Value),cs[i]?=some v→cs'[i]?=some v'→VR M v v':=by
  cases hv with
  | same hf =>
    refine⟨cs,rfl,rfl,fun i v v' h1 h2=>?_⟩
    rw[h1] at h2;cases h2
    have:v∈cs.toList:=by simpa using Array.mem_of_getElem? h1
    exact .same (flat_of1 (List.all_eq_true.1 hf v this))
  | agg hs h=>exact⟨_,rfl,hs,h⟩
theorem flatA_flat {v:Value} (h:flatA v=true):flat v=true:=by
  unfold flatA at h
  split at h
  · exact h
  · exact flat_of1 h
theorem vr_tuple {cs:Array Value} {v':Value} (hv:VR M (.tuple cs) v') (hn:cs.size≠1):∃ cs',v'=.tuple cs'∧cs.size=cs'.size∧∀ (i:Nat) (v v':Value),cs[i]?=some v→cs'[i]?=some v'→VR M v v':=by
  cases hv with
  | same hf =>
    refine⟨cs,rfl,rfl,fun i v v' h1 h2=>?_⟩
    rw[h1] at h2;cases h2
    have hm:v∈cs.toList:=by simpa using Array.mem_of_getElem? h1
    exact .same (flatA_flat (List.all_eq_true.1 hf v hm))
  | junk=>simp at hn
  | tuple hs h=>exact⟨_,rfl,hs,h⟩
theorem field_ok (hT:TR M T a) {t:TypeId} {x:Operand} {f:Nat} (hop:o.op=.field t x f) (hr:rField P T t x f=some r):Reads P M w a o r:=by
  unfold rField at hr
  split at hr
  · rename_i hx
    have hv:=ev_rel hT hx
    split at hr
    · rename_i cs fs he hu
      rw[he] at hv
      obtain⟨cs',hv,hs,hrel⟩:=vr_agg hv
      split at hr
      · rename_i fd hfd
        have hrun:∀ (v':Value) (w':World),(part fd.type cs' fd.offset).run P w'=.ok v' w'→(execOp a.eval o).run P w'=.ok (.value v') w':=by
          intro v' w' h1
          unfold execOp
          simp only[hop,hv]
          refine exec_v ?_
          simp[Instr.field,run_underlying hu,hfd,asAgg,h1,Result.andThen]
        split at hr
        · rename_i n ha hsz
          obtain⟨d,hd,hrow⟩:=isAgg_row ha
          cases hr
          refine⟨.agg (cs'.extract fd.offset (fd.offset + n)),.agg (by simp[hs]) (fun i v v' h1 h2=>?_),fun w' _=>hrun _ w' ?_⟩
          · rw[Array.getElem?_extract] at h1 h2
            split at h1
            · split at h2
              · exact hrel _ _ _ h1 h2
              · cases h2
            · cases h1
          · have hagg:(isAgg fd.type).run P w'=.ok true w':=by
              unfold isAgg
              rw[Sem.run_bind,run_underlying hd w']
              cases d <;> simp_all [TypeDesc.isRow]
            simp[part,hagg,size_run hsz,Result.andThen]
        · rename_i ha
          obtain⟨d,hd,hrow⟩:=isAgg_row ha
          obtain⟨v,hcv,rfl⟩:=Option.map_eq_some_iff.1 hr
          have hlt:fd.offset < cs'.size:=by rw[← hs];exact (Array.getElem?_eq_some_iff.1 hcv).1
          have hcv':cs'[fd.offset]?=some cs'[fd.offset]:=Array.getElem?_eq_getElem hlt
          refine⟨_,hrel _ _ _ hcv hcv',fun w' _=>hrun _ w' ?_⟩
          have hagg:(isAgg fd.type).run P w'=.ok false w':=by
            unfold isAgg
            rw[Sem.run_bind,run_underlying hd w']
            cases d <;> simp_all [TypeDesc.isRow]
          simp[part,hagg,hcv',Result.andThen]
        · cases hr
      · cases hr
    · cases hr
  · cases hr
theorem extract_ok (hT:TR M T a) {x:Operand} {j:Nat} (hop:o.op=.extract x j) (hr:rExtract T x j=some r):Reads P M w a o r:=by
  unfold rExtract at hr
  split at hr
  · rename_i hx
    have hv:=ev_rel hT hx
    split at hr
    · rename_i vs he
      split at hr
      · cases hr
      · rename_i hn1
        obtain⟨v,hcv,rfl⟩:=Option.map_eq_some_iff.1 hr
        have hj:j < vs.size:=(Array.getElem?_eq_some_iff.1 hcv).1
        rw[he] at hv
        obtain⟨cs',hv,hs,hrel⟩:=vr_tuple hv hn1
        have hcv' : cs'[j]? = some (cs'[j]'(by omega)) := Array.getElem?_eq_getElem (by omega)
        refine⟨_,hrel _ _ _ hcv hcv',fun w' _=>?_⟩
        unfold execOp
        simp only[hop,hv]
        refine exec_v ?_
        simp[Instr.extract,hcv']
    · cases hr
  · cases hr
theorem iface_ok (hT:TR M T a) {t:TypeId} {x:Operand} (hop:o.op=.makeInterface t x) (hr:rMakeIface P T t x=some r):Reads P M w a o r:=by
  unfold rMakeIface at hr
  split at hr
  · rename_i hx
    have hv:=ev_rel hT hx
    split at hr
    · cases hr
    · rename_i d hni hd
      cases hr
      refine⟨_,.iface hv,fun w' _=>?_⟩
      unfold execOp
      simp only[hop]
      refine exec_v ?_
      unfold Instr.makeInterface
      rw[Sem.run_bind,run_underlying hd w']
      cases d <;> first|(exact absurd rfl (hni _))|rfl
    · cases hr
  · cases hr
theorem vr_iface {t:TypeId} {u v':Value} (hv:VR M (.iface t u) v'):∃ u',v'=.iface t u'∧VR M u u':=by
  cases hv with
  | same hf =>
    refine⟨u,rfl,.same ?_⟩
    have h1:flat1 (.iface t u)=true:=hf
    cases u <;> first|exact h1|(simp only[flat1,flat0] at h1;cases h1)|skip
    rename_i cs
    show cs.toList.all flat1=true
    have h2:cs.toList.all flat0=true:=h1
    rw[List.all_eq_true] at h2 ⊢
    intro x hx
    have h3:=h2 x hx
    cases x <;> first|exact h3|(simp[flat0] at h3)
  | iface h=>exact⟨_,rfl,h⟩
theorem assert_ok (hT:TR M T a) {x:Operand} {xt t:TypeId} {ok:Bool} (hop:o.op=.typeAssert x xt t ok) (hr:rAssert P T x t ok=some r):Reads P M w a o r:=by
  unfold rAssert at hr
  split at hr
  · rename_i hx
    have hv:=ev_rel hT hx
    split at hr
    · cases hr
    · rename_i d u v hd hni he
      rw[he] at hv
      obtain⟨v',hv,hvv⟩:=vr_iface hv
      have hrun:∀ (v1:Value) (w':World),(Instr.typeAssert (.iface u v') xt t ok).run P w'=.ok v1 w'→(execOp a.eval o).run P w'=.ok (.value v1) w':=by
        intro v1 w' h1
        unfold execOp
        simp only[hop,hv]
        exact exec_v h1
      have hbase : ∀ w' : World, (Instr.typeAssert (.iface u v') xt t ok).run P w' = (if u = t then (pure (if ok then Value.tuple #[v', .bool true] else v') : Sem Value) else (if ok then do pure (.tuple #[← zeroValue t, .bool false]) else runtimePanic (.typeAssertion (some xt) (some u) t ""))).run P w' := by
        intro w'
        unfold Instr.typeAssert
        rw[Sem.run_bind,run_underlying hni w']
        cases d <;> first|(exact absurd rfl (hd _))|rfl
      split at hr
      · rename_i hut
        cases hr
        refine⟨if ok then .tuple #[v',.bool true] else v',?_,fun w' _=>hrun _ w' (by rw[hbase,if_pos hut];rfl)⟩
        cases ok
        · exact hvv
        · refine .tuple rfl fun i x x' h1 h2=>?_
          match i,h1,h2 with
          | 0,h1,h2=>cases h1;cases h2;exact hvv
          | 1,h1,h2=>cases h1;cases h2;exact .same rfl
      · rename_i hut
        split at hr
        · rename_i hok
          split at hr
          · rename_i z hz
            split at hr
            · rename_i hf
              cases hr
              obtain⟨i,hi,hiz⟩:=Option.bind_eq_some_iff.1 hz
              refine⟨.tuple #[z,.bool false],.tuple rfl fun i x x' h1 h2=>?_,fun w' _=>hrun _ w' ?_⟩
              · match i,h1,h2 with
                | 0,h1,h2=>cases h1;cases h2;exact .same hf
                | 1,h1,h2=>cases h1;cases h2;exact .same rfl
              · rw[hbase,if_neg hut,if_pos hok]
                simp[zeroValue,typeInfo,hi,hiz,Result.andThen]
            · cases hr
          · cases hr
        · cases hr
    · cases hr
  · cases hr
theorem blk_map_eq (hR:HR P M w0 w h) {b:Nat} {ks:List (List UInt8)} {m:Meta} (hb:h.blk b=some (.map ks)) (hm:M b=some m) {w':World} (hw:w'.heap[m.g]?=w.heap[m.g]?):OwnSet P 9 4 w' m.g ks:=by
  obtain⟨m',hm',_,hown⟩:=hR.map b ks hb
  rw[hm] at hm';cases hm'
  obtain⟨es,clock,hblk,hr⟩:=hown.2
  exact⟨hown.1,es,clock,by rw[hw];exact hblk,hr⟩
theorem lookup_ok (hR:HR P M w0 w h) (hT:TR M T a) (hz:∀ w:World,(zeroValue 4).run P w=.ok (.bool false) w) (ht9:P.underlying 9=some .string) (he4:P.underlying 4=some .bool)
    {t:TypeId} {x ix:Operand} (hop:o.op=.lookup t x ix false) (hr:rLookup P T h t x ix=some r):Reads P M w a o r:=by
  unfold rLookup at hr
  split at hr
  · rename_i hx
    simp only[Bool.and_eq_true] at hx
    have hv:=ev_rel hT hx.1
    have hi:=ev_rel hT hx.2
    split at hr
    · rename_i b s he hei
      rw[he] at hv
      rw[hei] at hi
      have hi:=vr_str hi
      obtain⟨m,hm,hv⟩:=vr_map hv
      split at hr
      · rename_i ks hb hu
        split at hr
        · rename_i hs
          cases hr
          refine⟨_,.same rfl,fun w' hw'=>?_⟩
          unfold execOp
          simp only[hop,hv,hi]
          exact exec_v (own_look (blk_map_eq hR hb hm (hw' b m rfl hm)) hu ht9 he4 (hz w') hs)
        · cases hr
      · cases hr
    · cases hr
  · cases hr
theorem bytesOf_some:∀ {l:List Value} {bs:List UInt8},bytesOf l=some bs→l=bs.map fun b=>.int .u8 (b.toNat:Int)
  | [],bs,h=>by cases h;rfl
  | v :: r,bs,h=>by
    unfold bytesOf at h
    split at h
    · rename_i heq;cases heq
    · rename_i n r' heq
      cases heq
      split at h
      · rename_i hn
        obtain⟨bs',h1,rfl⟩:=Option.map_eq_some_iff.1 h
        rw[List.map_cons,← bytesOf_some h1]
        congr 2
        rw[UInt8.toNat_ofNat_of_lt' (by show _ < 256;omega)]
        omega
      · cases h
    · cases h
theorem wrapF_eq (k:IntKind) (n:Int):wrapF k n=k.wrap n:=by
  unfold wrapF
  cases n with
  | negSucc m=>rfl
  | ofNat m =>
    cases k <;> try rfl
    · show (match Nat.blt m 9223372036854775808 with|true=>Int.ofNat m|false=>IntKind.i64.wrap (.ofNat m))=_
      split
      · rename_i hb
        have:m≤9223372036854775807:=by simpa [Nat.blt] using hb
        have hw:=Go.IntKind.wrap_i64 (Int.ofNat m)
        rw[hw]
        simp only[Int.ofNat_eq_natCast]
        omega
      · rfl
    all_goals simp[IntKind.wrap,IntKind.bits,IntKind.signed]
theorem convert_ok (hR:HR P M w0 w h) (hT:TR M T a) {src dst:TypeId} {x:Operand} (hop:o.op=.convert src dst x) (hr:rConvert P T h o src dst x=some r):Reads P M w a o r:=by
  unfold rConvert at hr
  split at hr
  · rename_i hx
    have hv:=ev_rel hT hx
    split at hr
    · rename_i b off len c he
      rw[he] at hv
      unfold rConvB at hr
      split at hr
      · rename_i e hs hd
        split at hr
        · rename_i l hu hc
          split at hr
          · obtain⟨bs,hbs,rfl⟩:=Option.map_eq_some_iff.1 hr
            have hl:=bytesOf_some hbs
            obtain⟨_,_,_,hlen,_⟩:=cellsAt_some hc
            have hlen':bs.length=len:=by rw[← hlen,hl,List.length_map]
            by_cases hl0:len=0
            · obtain⟨a',c',hv⟩:=vr_slice_any hv
              refine⟨.string ⟨bs.toArray⟩,.same rfl,fun w' _=>?_⟩
              unfold execOp
              simp only[hop,hv]
              refine exec_v ?_
              rw[← hlen']
              exact run_convert_bytes_back w' src dst e a' c' bs hs hu hd (fun j hj=>by omega)
            · obtain⟨m,c',hm,hv⟩:=vr_slice_pos (by omega) hv
              obtain⟨m',l',hm',hl',hrel,_,hat⟩:=hR.cells hc
              rw[hm] at hm';cases hm'
              refine⟨.string ⟨bs.toArray⟩,.same rfl,fun w' hw'=>?_⟩
              unfold execOp
              simp only[hop,hv]
              refine exec_v ?_
              rw[← hlen']
              refine run_convert_bytes_back w' src dst e _ c' bs hs hu hd (fun j hj=>?_)
              have h1:l[j]?=some (.int .u8 (bs[j].toNat:Int)):=by rw[hl,List.getElem?_map,List.getElem?_eq_getElem hj];rfl
              have h2 : l'[j]? = some (l'[j]'(by omega)) := List.getElem?_eq_getElem (by omega)
              have h3:=vr_int (hrel j _ _ h1 h2)
              rw[add_none]
              rw[h3] at h2
              exact hat w' (hw' b m rfl hm) j _ h2
          · cases hr
        · cases hr
      · cases hr
    · rename_i k n he
      rw[he] at hv
      have hv:=vr_int hv
      split at hr
      · rename_i k1 k2 hs hd
        cases hr
        refine⟨_,.same rfl,fun w' _=>?_⟩
        unfold execOp
        simp only[hop,hv]
        refine exec_v ?_
        rw[wrapF_eq]
        simp[convert,run_underlying hs,run_underlying hd,Conv.intToInt,Result.andThen]
      · exact pure_reads hT hr
    · exact pure_reads hT hr
  · cases hr
theorem len_ok (hR:HR P M w0 w h) (hT:TR M T a) {x:Operand} {t:TypeId} (hop:o.op=.call { callee:=.builtin .len,args:=#[x],argTypes:=#[t] }) (hr:rLen P T h o x t=some r):Reads P M w a o r:=by
  have hrun:∀ (v:Value) (w':World),(Builtin.len_ #[t] o.type #[a.eval x]).run P w'=.ok v w'→(execOp a.eval o).run P w'=.ok (.value v) w':=by
    intro v w' h1
    unfold execOp
    simp[hop,resolve,invoke,builtin,h1,Result.andThen]
  unfold rLen at hr
  split at hr
  · rename_i hx
    have hv:=ev_rel hT hx
    split at hr
    · rename_i b off len c he
      rw[he] at hv
      obtain⟨a',c',hv⟩:=vr_slice_any hv
      split at hr
      · rename_i e hu
        cases hr
        refine⟨_,.same rfl,fun w' _=>hrun _ w' ?_⟩
        rw[hv]
        exact run_len_slice w' t o.type (some a') len c' (by simp[Program.elem,hu])
      · cases hr
    · rename_i b he
      rw[he] at hv
      obtain⟨m,hm,hv⟩:=vr_map hv
      split at hr
      · rename_i ks hb hu
        cases hr
        refine⟨_,.same rfl,fun w' hw'=>hrun _ w' ?_⟩
        rw[hv]
        exact own_len (blk_map_eq hR hb hm (hw' b m rfl hm)) hu o.type
      · cases hr
    · exact pure_reads hT hr
  · cases hr
theorem bin_run {op:BinOp} {t t':TypeId} {x y:Operand} (hop:o.op=.binOp op t x y t') (v:Value) (w':World) (h1:(do eqGuard op t x y (a.eval x) (a.eval y);binOp op t (a.eval x) (a.eval y)).run P w'=.ok v w'):(execOp a.eval o).run P w'=.ok (.value v) w':=by
  unfold execOp
  simp only[hop]
  exact exec_v h1
theorem ishift_run {op:BinOp} {k k':IntKind} {m n:Int} {v:Value} (hv:ishift op k m n=some v) (t:TypeId) (x y:Operand) (ho:op=.shl∨op=.shr) :
    flat v=true∧∀ w':World,(do eqGuard op t x y (.int k m) (.int k' n);binOp op t (.int k m) (.int k' n)).run P w'=.ok v w':=by
  unfold ishift at hv
  split at hv
  · rename_i m n
    have hn:¬ (Int.ofNat n < 0):=by simp
    rcases ho with rfl|rfl
    · simp only at hv
      cases hv
      refine⟨rfl,fun w'=>?_⟩
      have:(eqGuard .shl t x y (.int k (Int.ofNat m)) (.int k' (Int.ofNat n))).run P w'=.ok () w':=rfl
      rw[Sem.run_bind,this]
      simp only[Result.andThen_ok,binOp,Op.shift,if_neg hn,wrapF_eq]
      simp[Int.toNat]
    · simp only at hv
      cases hv
      refine⟨rfl,fun w'=>?_⟩
      have:(eqGuard .shr t x y (.int k (Int.ofNat m)) (.int k' (Int.ofNat n))).run P w'=.ok () w':=rfl
      rw[Sem.run_bind,this]
      simp only[Result.andThen_ok,binOp,Op.shift,if_neg hn]
      have h2:(Int.ofNat m).fdiv (2 ^ min (Int.ofNat n).toNat k.bits)=Int.ofNat (m / Nat.pow 2 (min n k.bits)):=by
        rw[Int.fdiv_eq_ediv_of_nonneg _ (Int.le_of_lt (Int.pow_pos (by omega)))]
        simp
      rw[h2]
      rfl
  · cases hv
theorem ibin_run {op:BinOp} {k:IntKind} {m n:Int} {v:Value} (hv:ibin op k m n=some v) (t:TypeId) (x y:Operand) :
    flat v=true∧∀ w':World,(do eqGuard op t x y (.int k m) (.int k n);binOp op t (.int k m) (.int k n)).run P w'=.ok v w':=by
  have hg:∀ w':World,(eqGuard op t x y (.int k m) (.int k n)).run P w'=.ok () w':=by intro w';cases op <;> rfl
  have hb:∀ {s:Sem Value},binOp op t (.int k m) (.int k n)=s→(∀ w':World,s.run P w'=.ok v w')→∀ w':World,(do eqGuard op t x y (.int k m) (.int k n);binOp op t (.int k m) (.int k n)).run P w'=.ok v w':=by
    intro s hs h w'
    rw[Sem.run_bind,hg,hs]
    exact h w'
  cases op <;> simp only[ibin] at hv
  case add=>cases hv;exact⟨rfl,hb (by simp[binOp];rfl) (fun w'=>by rw[wrapF_eq];rfl)⟩
  case sub=>cases hv;exact⟨rfl,hb (by simp[binOp];rfl) (fun w'=>by rw[wrapF_eq];rfl)⟩
  case mul=>cases hv;exact⟨rfl,hb (by simp[binOp];rfl) (fun w'=>by rw[wrapF_eq];rfl)⟩
  case eql=>cases hv;exact⟨rfl,hb (by simp[binOp];rfl) (fun w'=>rfl)⟩
  case neq=>cases hv;exact⟨rfl,hb (by simp[binOp];rfl) (fun w'=>rfl)⟩
  case lss=>cases hv;exact⟨rfl,hb (by simp[binOp];rfl) (fun w'=>rfl)⟩
  case leq=>cases hv;exact⟨rfl,hb (by simp[binOp];rfl) (fun w'=>rfl)⟩
  case gtr=>cases hv;exact⟨rfl,hb (by simp[binOp];rfl) (fun w'=>rfl)⟩
  case geq=>cases hv;exact⟨rfl,hb (by simp[binOp];rfl) (fun w'=>rfl)⟩
  case quo =>
    split at hv
    · cases hv
    · rename_i hnz
      cases hv
      exact⟨rfl,hb (by simp[binOp,Op.intDiv,hnz];rfl) (fun w'=>by rw[wrapF_eq];rfl)⟩
  case rem =>
    split at hv
    · cases hv
    · rename_i hnz
      cases hv
      exact⟨rfl,hb (by simp[binOp,Op.intDiv,hnz];rfl) (fun w'=>rfl)⟩
  all_goals cases hv
theorem bin_ok (hT:TR M T a) {op:BinOp} {t t':TypeId} {x y:Operand} (hop:o.op=.binOp op t x y t') (hr:rBin P T o op t x y=some r):Reads P M w a o r:=by
  unfold rBin at hr
  split at hr
  · rename_i hx
    simp only[Bool.and_eq_true] at hx
    have hvx:=ev_rel hT hx.1
    have hvy:=ev_rel hT hx.2
    split at hr
    · rename_i k m he
      rw[he] at hvx
      have hvx:=vr_int hvx
      unfold rBinI at hr
      split at hr
      · rename_i k' n hey
        rw[hey] at hvy
        have hvy:=vr_int hvy
        split at hr
        · rename_i v hv
          cases hr
          have hfin:flat v=true∧∀ w':World,(do eqGuard op t x y (.int k m) (.int k' n);binOp op t (.int k m) (.int k' n)).run P w'=.ok v w':=by
            split at hv
            · exact ishift_run hv t x y (.inl rfl)
            · exact ishift_run hv t x y (.inr rfl)
            · split at hv
              · rename_i hkk
                subst hkk
                exact ibin_run hv t x y
              · cases hv
          refine⟨v,.same hfin.1,fun w' _=>bin_run hop v w' (by rw[hvx,hvy];exact hfin.2 w')⟩
        · exact pure_reads hT hr
      · exact pure_reads hT hr
    · rename_i s he
      rw[he] at hvx
      have hvx:=vr_str hvx
      unfold rBinS at hr
      split at hr
      · rename_i s' hey
        rw[hey] at hvy
        have hvy:=vr_str hvy
        split at hr
        · rename_i v hv
          cases hr
          have hfin:flat v=true∧∀ w':World,(do eqGuard op t x y (.string s) (.string s');binOp op t (.string s) (.string s')).run P w'=.ok v w':=by
            cases op <;> simp only[istr] at hv <;> first|(cases hv;done)|skip
            all_goals (cases hv;refine⟨rfl,fun w'=>?_⟩;simp[eqGuard,binOp,Op.stringOp,Sem.run_bind,Result.andThen])
          refine⟨v,.same hfin.1,fun w' _=>bin_run hop v w' (by rw[hvx,hvy];exact hfin.2 w')⟩
        · exact pure_reads hT hr
      · exact pure_reads hT hr
    · rename_i u v he
      rw[he] at hvx
      obtain⟨v1,hvx,_⟩:=vr_iface hvx
      unfold rBinN at hr
      split at hr
      · rename_i hey
        rw[hey] at hvy
        have hvy:a.eval y=.nilIface:=VR.flat_eq rfl hvy
        split at hr
        · rename_i hu
          cases hr
          refine⟨_,.same rfl,fun w' _=>bin_run hop _ w' ?_⟩
          rw[hvx,hvy]
          have h1:(Op.equal t (.iface u v1) .nilIface).run P w'=.ok false w':=by
            unfold Op.equal Op.maxDepth Op.equalIn
            rw[Sem.run_bind,run_underlying hu w']
            rfl
          have h2:(eqGuard .eql t x y (.iface u v1) .nilIface).run P w'=.ok () w':=rfl
          rw[Sem.run_bind,h2]
          simp[binOp,h1,Result.andThen]
        · exact pure_reads hT hr
      · exact pure_reads hT hr
    · exact pure_reads hT hr
  · cases hr
theorem un_ok (hT:TR M T a) {op:UnOp} {t:TypeId} {x:Operand} (hop:o.op=.unOp op t x) (hr:rUn P T o op x=some r):Reads P M w a o r:=by
  unfold rUn at hr
  split at hr
  · rename_i hx
    have hv:=ev_rel hT hx
    split at hr
    · rename_i b he
      rw[he] at hv
      have hv:=vr_bool hv
      split at hr
      · cases hr
        refine⟨_,.same rfl,fun w' _=>?_⟩
        unfold execOp
        simp only[hop,hv]
        exact exec_v rfl
      · exact pure_reads hT hr
    · exact pure_reads hT hr
  · cases hr
theorem index_ok (hT:TR M T a) {t:TypeId} {x ix:Operand} (hop:o.op=.index t x ix) (hr:rIndex P T o t x ix=some r):Reads P M w a o r:=by
  unfold rIndex at hr
  split at hr
  · rename_i hx
    simp only[Bool.and_eq_true] at hx
    have hv:=ev_rel hT hx.1
    have hi:=ev_rel hT hx.2
    split at hr
    · rename_i s he
      rw[he] at hv
      have hv:=vr_str hv
      split at hr
      · rename_i hu
        split at hr
        · rename_i k i hei
          rw[hei] at hi
          have hi:=vr_int hi
          split at hr
          · rename_i b hb
            cases hr
            refine⟨_,.same rfl,fun w' _=>?_⟩
            unfold execOp
            simp only[hop,hv,hi]
            refine exec_v ?_
            unfold Instr.index
            simp[asIntOf,run_underlying hu,hb,Result.andThen]
          · cases hr
        · cases hr
      · cases hr
    · exact pure_reads hT hr
  · cases hr
/-- A row's cells: those of the one stand for those of the other. -/
def VRA (M:Mp) (cs cs':Array Value):Prop:=cs.size=cs'.size∧∀ (i:Nat) (v v':Value),cs[i]?=some v→cs'[i]?=some v'→VR M v v'
theorem vra_set {cs cs':Array Value} (h:VRA M cs cs') (j:Nat) {v v':Value} (hv:VR M v v'):VRA M (cs.setIfInBounds j v) (cs'.setIfInBounds j v'):=by
  refine⟨by simp[h.1],fun i u u' h1 h2=>?_⟩
  rw[Array.getElem?_setIfInBounds] at h1 h2
  by_cases hij:j=i
  · subst hij
    simp only[if_true] at h1 h2
    split at h1
    · split at h2
      · cases h1;cases h2;exact hv
      · cases h2
    · cases h1
  · simp only[hij,if_false] at h1 h2
    exact h.2 i u u' h1 h2
theorem vr_cells {v v':Value} (h:VR M v v') (hj:solid v=true):VRA M v.cells v'.cells:=by
  cases h with
  | junk=>cases hj
  | same hf =>
    cases v with
    | agg cs =>
      refine⟨rfl,fun i u u' h1 h2=>?_⟩
      rw[h1] at h2;cases h2
      have hm:u∈cs.toList:=by
        have:=Array.mem_of_getElem? h1
        simpa [Value.cells] using this
      exact .same (flat_of1 (List.all_eq_true.1 hf u hm))
    | _ =>
      refine⟨rfl,fun i u u' h1 h2=>?_⟩
      rw[h1] at h2;cases h2
      match i,h1 with
      | 0,h1=>cases h1;exact .same hf
  | agg hs h=>exact⟨hs,h⟩
  | ptr hm=>refine⟨rfl,fun i u u' h1 h2=>?_⟩;match i,h1,h2 with|0,h1,h2=>cases h1;cases h2;exact .ptr hm
  | own hm q1 q2 q3=>refine⟨rfl,fun i u u' h1 h2=>?_⟩;match i,h1,h2 with|0,h1,h2=>cases h1;cases h2;exact .own hm q1 q2 q3
  | cut hm q1=>refine⟨rfl,fun i u u' h1 h2=>?_⟩;match i,h1,h2 with|0,h1,h2=>cases h1;cases h2;exact .cut hm q1
  | emp=>refine⟨rfl,fun i u u' h1 h2=>?_⟩;match i,h1,h2 with|0,h1,h2=>cases h1;cases h2;exact .emp
  | map hm=>refine⟨rfl,fun i u u' h1 h2=>?_⟩;match i,h1,h2 with|0,h1,h2=>cases h1;cases h2;exact .map hm
  | iface hm=>refine⟨rfl,fun i u u' h1 h2=>?_⟩;match i,h1,h2 with|0,h1,h2=>cases h1;cases h2;exact .iface hm
  | tuple hs hm=>refine⟨rfl,fun i u u' h1 h2=>?_⟩;match i,h1,h2 with|0,h1,h2=>cases h1;cases h2;exact .tuple hs hm
theorem fold_rel (off:Nat):∀ (l l':List Value) (k:Nat) (cs cs':Array Value),l.length=l'.length→(∀ (i:Nat) (v v':Value),l[i]?=some v→l'[i]?=some v'→VR M v v')→VRA M cs cs' →
    VRA M ((l.zipIdx k).foldl (fun cs p=>cs.setIfInBounds (off + p.2) p.1) cs) ((l'.zipIdx k).foldl (fun cs p=>cs.setIfInBounds (off + p.2) p.1) cs')
  | [],[],_,_,_,_,_,h=>h
  | [],_ :: _,_,_,_,hl,_,_=>by simp at hl
  | _ :: _,[],_,_,_,hl,_,_=>by simp at hl
  | v :: l,v' :: l',k,cs,cs',hl,hr,h=>by
    simp only[List.zipIdx_cons,List.foldl_cons]
    exact fold_rel off l l' (k + 1) _ _ (by simpa using hl) (fun i u u' h1 h2=>hr (i + 1) u u' (by simpa using h1) (by simpa using h2)) (vra_set h _ (hr 0 v v' rfl rfl))
theorem fill_rel {place:Nat→Option (Nat × Nat)}:∀ (ps ps':List (Nat × Value)) (cs cs' r:Array Value),ps.length=ps'.length→(∀ (i:Nat) (p p':Nat × Value),ps[i]?=some p→ps'[i]?=some p'→p.1=p'.1∧VR M p.2 p'.2∧solid p.2=true)→VRA M cs cs' →
    Instr.fill place cs ps=some r→∃ r',Instr.fill place cs' ps'=some r'∧VRA M r r'
  | [],[],cs,cs',r,_,_,h,hf=>by cases hf;exact⟨cs',rfl,h⟩
  | [],_ :: _,_,_,_,hl,_,_,_=>by simp at hl
  | _ :: _,[],_,_,_,hl,_,_,_=>by simp at hl
  | (i,v) :: ps,(i',v') :: ps',cs,cs',r,hl,hr,h,hf=>by
    obtain⟨hi,hv,hs⟩:=hr 0 (i,v) (i',v') rfl rfl
    simp only at hi hv hs
    subst hi
    have hc:=vr_cells hv hs
    unfold Instr.fill at hf ⊢
    cases hp:place i with
    | none=>simp[hp] at hf
    | some q =>
      obtain⟨off,size⟩:=q
      simp only[hp] at hf ⊢
      split at hf
      · cases hf
      · rename_i hcond
        rw[if_neg (by rw[← hc.1,← h.1];exact hcond)]
        refine fill_rel ps ps' _ _ r (by simpa using hl) (fun j p p' h1 h2=>hr (j + 1) p p' (by simpa using h1) (by simpa using h2)) ?_ hf
        have e1:∀ (u:Value) (c:Array Value),u.cells.zipIdx.foldl (fun cs (x:Value × Nat)=>cs.setIfInBounds (off + x.2) x.1) c=(u.cells.toList.zipIdx 0).foldl (fun cs p=>cs.setIfInBounds (off + p.2) p.1) c:=by
          intro u c
          rw[← Array.foldl_toList,Array.toList_zipIdx]
        have:=fold_rel off v.cells.toList v'.cells.toList 0 cs cs' (by simpa using hc.1) (fun j u u' h1 h2=>hc.2 j u u' (by simpa using h1) (by simpa using h2)) h
        rw[← e1,← e1] at this
        exact this
theorem fill_size {place:Nat→Option (Nat × Nat)}:∀ {ps:List (Nat × Value)} {cs r:Array Value},Instr.fill place cs ps=some r→r.size=cs.size
  | [],cs,r,hf=>by cases hf;rfl
  | (i,v) :: ps,cs,r,hf=>by
    unfold Instr.fill at hf
    cases hp:place i with
    | none=>simp[hp] at hf
    | some q =>
      obtain⟨off,size⟩:=q
      simp only[hp] at hf
      split at hf
      · cases hf
      · rw[fill_size hf,← Array.foldl_toList]
        have:∀ (l:List (Value × Nat)) (c:Array Value),(l.foldl (fun cs x=>cs.setIfInBounds (off + x.2) x.1) c).size=c.size:=by
          intro l
          induction l with
          | nil=>intro c;rfl
          | cons x l ih=>intro c;rw[List.foldl_cons,ih];simp
        exact this _ _
theorem flat_vra {cs:Array Value} (h:cs.toList.all flat1=true):VRA M cs cs:=by
  refine⟨rfl,fun i v v' h1 h2=>?_⟩
  rw[h1] at h2;cases h2
  exact .same (flat_of1 (List.all_eq_true.1 h v (by simpa using Array.mem_of_getElem? h1)))
theorem places_run:∀ (fs:List Field) (pl:List (Nat × Nat)),fs.mapM (fun f=>(sizeT P f.type).map fun n=>(f.offset,n))=some pl→∀ w':World,(fs.mapM (m:=Sem) fun f=>do pure (f.offset,← sizeOf f.type)).run P w'=.ok pl w'
  | [],pl,h,w'=>by cases h;rfl
  | f :: fs,pl,h,w'=>by
    rw[List.mapM_cons] at h ⊢
    obtain⟨q,h1,h2⟩:=Option.bind_eq_some_iff.1 h
    obtain⟨qs,h3,h4⟩:=Option.bind_eq_some_iff.1 h2
    obtain⟨n,h5,rfl⟩:=Option.map_eq_some_iff.1 h1
    cases h4
    have:=places_run fs qs h3 w'
    simp only[Sem.run_bind,size_run h5,Result.andThen_ok,Sem.run_pure,this]
theorem pairs_rel (hT:TR M T a) {ps:Array (Nat × Operand)} (ho:∀ p∈ps.toList,(okOpd p.2 && solid (evT T p.2))=true) :
    ∀ (i:Nat) (p p':Nat × Value),(ps.toList.map fun p=>(p.1,evT T p.2))[i]?=some p→((ps.map fun x=>(x.1,a.eval x.2)).toList)[i]?=some p'→p.1=p'.1∧VR M p.2 p'.2∧solid p.2=true:=by
  intro i p p' h1 h2
  rw[List.getElem?_map] at h1
  rw[Array.toList_map,List.getElem?_map] at h2
  obtain⟨q,hq,rfl⟩:=Option.map_eq_some_iff.1 h1
  rw[hq] at h2
  cases h2
  have:=ho q (List.mem_of_getElem? hq)
  simp only[Bool.and_eq_true] at this
  exact⟨rfl,ev_rel hT this.1,this.2⟩
theorem build_ok (hT:TR M T a) {t:TypeId} {ps:Array (Nat × Operand)} (hop:o.op=.build t ps) (hr:rBuild P T t ps=some r):Reads P M w a o r:=by
  unfold rBuild at hr
  split at hr
  · rename_i ho
    rw[List.all_eq_true] at ho
    split at hr
    · rename_i fs i hu hi
      split at hr
      · rename_i z pl hz hpl
        split at hr
        · rename_i hf
          split at hr
          · rename_i cs hfill
            rw[forceL_eq] at hr
            cases hr
            obtain⟨cs',h1,h2⟩:=fill_rel _ _ z.cells z.cells cs (by simp) (pairs_rel hT ho) (flat_vra hf) hfill
            refine⟨.agg cs',.agg (by simpa using h2.1) (fun j v v' q1 q2=>h2.2 j v v' (by simpa using q1) q2),fun w' _=>?_⟩
            unfold execOp
            simp only[hop]
            refine exec_v ?_
            unfold Instr.build
            have hzv:(zeroValue t).run P w'=.ok z w':=by simp[zeroValue,typeInfo,hi,hz,Result.andThen]
            have hpl':(fs.mapM (m:=Sem) fun f=>do pure (f.offset,← sizeOf f.type)).run P w'=.ok pl.toArray w':=by
              rw[Array.mapM_eq_mapM_toList,Sem.run_map,places_run fs.toList pl hpl w']
              rfl
            have h1':Instr.fill (fun x=>pl.toArray[x]?) z.cells (ps.map fun x=>(x.1,a.eval x.2)).toList=some cs':=by
              rw[← h1]
              congr 1
              funext j
              simp
            simp only[Sem.run_bind,hzv,Result.andThen_ok,run_underlying hu,hpl',h1']
            rfl
          · cases hr
        · cases hr
      · cases hr
    · cases hr
  · cases hr
end Go.AI
namespace Go.AI
open Go Go.Proofs.YtjbeoidhbbjcmaaGreat
open Go.RowKit (Below)
variable {P : Program} {M : Mp} {w0 w : World} {h : Hp} {T : List Value} {a : Act} {o : Oper} {r : Value × Option Nat}
/-- What the maps of this program are like. -/
structure MapsOk (P:Program):Prop where
  z4:∀ w:World,(zeroValue 4).run P w=.ok (.bool false) w
  t9:P.underlying 9=some .string
  e4:P.underlying 4=some .bool
theorem iread_ok (hK:MapsOk P) (hR:HR P M w0 w h) (hT:TR M T a) (hr:iread P T h o=some r):Reads P M w a o r:=by
  unfold iread at hr
  split at hr
  · rename_i x hop
    split at hr
    · rename_i hx
      cases hr
      refine⟨_,ev_rel hT hx,fun w' _=>?_⟩
      unfold execOp
      simp only[hop]
      rfl
    · cases hr
  · rename_i x hop
    split at hr
    · rename_i hx
      cases hr
      refine⟨_,ev_rel hT hx,fun w' _=>?_⟩
      unfold execOp
      simp only[hop]
      rfl
    · cases hr
  · rename_i hop;exact pick_ok hT hop hr
  · rename_i hop;exact load_ok hR hT hop hr
  · rename_i hop;exact fieldAddr_ok hT hop hr
  · rename_i hop;exact indexAddr_ok hT hop hr
  · rename_i hop;exact slice_ok hT hR hop hr
  · rename_i hop;exact field_ok hT hop hr
  · rename_i hop;exact build_ok hT hop hr
  · rename_i hop;exact extract_ok hT hop hr
  · rename_i hop;exact iface_ok hT hop hr
  · rename_i hop;exact assert_ok hT hop hr
  · rename_i hop;exact lookup_ok hR hT hK.z4 hK.t9 hK.e4 hop hr
  · rename_i hop;exact convert_ok hR hT hop hr
  · rename_i hop;exact bin_ok hT hop hr
  · rename_i hop;exact un_ok hT hop hr
  · rename_i hop;exact index_ok hT hop hr
  · rename_i c hop
    unfold rCall at hr
    split at hr
    · rename_i hc
      split at hr
      · rename_i x t hx ht
        obtain⟨ca,xs,ts⟩:=c
        obtain rfl:xs=#[x]:=Array.toList_inj.1 hx
        obtain rfl:ts=#[t]:=Array.toList_inj.1 ht
        cases hc
        exact len_ok hR hT hop hr
      · exact pure_reads hT hr
    · exact pure_reads hT hr
  · cases hr
  · cases hr
  · cases hr
  · cases hr
  · cases hr
  · exact pure_reads hT hr
def ins (M:Mp) (b:Nat) (m:Meta):Mp:=fun x=>if x=b then some m else M x
theorem ext_ins {b:Nat} {m:Meta} (hn:M b=none):Ext M (ins M b m):=by
  intro x mx hx
  unfold ins
  by_cases he:x=b
  · subst he;rw[hn] at hx;cases hx
  · rw[if_neg he];exact hx
theorem HR.none_at (hR:HR P M w0 w h):M h.n=none:=by
  cases hm:M h.n with
  | none=>rfl
  | some m=>have:=hR.dom _ _ hm;omega
theorem blk_new (x:Blk) (hl:h.heap.length=h.n) (b:Nat):(Hp.mk (x :: h.heap) (h.n + 1) h.wr).blk b=if b=h.n then some x else h.blk b:=by
  unfold Hp.blk
  simp only[nthB_eq]
  by_cases h1:b=h.n
  · subst h1
    rw[if_pos (by omega),if_pos rfl]
    have:h.n + 1 - 1 - h.n=0:=by omega
    rw[this];rfl
  · rw[if_neg h1]
    by_cases h2:b < h.n
    · rw[if_pos (by omega),if_pos h2]
      obtain⟨i,hi⟩:∃ i,h.n + 1 - 1 - b=i + 1:=⟨h.n - b - 1,by omega⟩
      rw[hi,List.getElem?_cons_succ]
      congr 1;omega
    · rw[if_neg (by omega),if_neg h2]
theorem blk_upd (x:Blk) (hl:h.heap.length=h.n) {b:Nat} (hb:b < h.n) (wr:List Nat) (c:Nat):(Hp.mk (h.heap.set (h.n - 1 - b) x) h.n wr).blk c=if c=b then some x else h.blk c:=by
  unfold Hp.blk
  simp only[nthB_eq]
  by_cases h1:c=b
  · subst h1
    rw[if_pos hb,if_pos rfl,List.getElem?_set_self (by omega)]
  · rw[if_neg h1]
    by_cases h2:c < h.n
    · rw[if_pos h2,if_pos h2,List.getElem?_set_ne (by omega)]
    · rw[if_neg h2,if_neg h2]
theorem blk_lt {b:Nat} {x:Blk} (hb:h.blk b=some x):b < h.n:=by
  unfold Hp.blk at hb
  split at hb
  · assumption
  · cases hb
/-- Blocks that were there: none of them is the new one. -/
theorem HR.old (hR:HR P M w0 w h) {b:Nat} {x:Blk} (hb:h.blk b=some x) (hx:x≠.dead) {m:Meta} (hm:M b=some m):m.g < w.heap.size:=by
  cases x with
  | dead=>exact absurd rfl hx
  | row e cs =>
    obtain⟨m',cur,h1,_,h2,_⟩:=hR.row b e cs hb
    rw[hm] at h1;cases h1
    exact (Array.getElem?_eq_some_iff.1 h2).1
  | map ks =>
    obtain⟨m',h1,_,h2⟩:=hR.map b ks hb
    rw[hm] at h1;cases h1
    exact h2.lt
/-- A new row of cells: in a world that has turned nothing that was there. -/
theorem HR.add (hR:HR P M w0 w h) {w':World} {g e sz:Nat} {cur:Array Value} {cs:List Value} (hB:Below w.heap.size w w') (hg:w.heap.size≤g) (hcur:w'.heap[g]?=some (.cells cur e (0,0))) (hs:sizeT P e=some sz)
    (hv:∀ (i:Nat) (v:Value),cs[i]?=some v→∃ v',cur[i]?=some v'∧VR M v v'∧v'.oneCell'=true) :
    HR P (ins M h.n ⟨g,sz,cur.size⟩) w0 w' ⟨.row e cs :: h.heap,h.n + 1,h.wr⟩:=by
  have hE:=ext_ins (m:=⟨g,sz,cur.size⟩) hR.none_at
  have hsz:w0.heap.size≤w.heap.size:=hR.below.size
  refine⟨?_,by simp[hR.len],?_,?_,?_,?_⟩
  · exact hR.below.trans ⟨hB.os,hB.tape,hB.output,hB.size,fun i hi=>hB.block i (Nat.lt_of_lt_of_le hi hsz)⟩
  · intro b m hm
    unfold ins at hm
    split at hm
    · show b < h.n + 1;omega
    · have:=hR.dom b m hm;show b < h.n + 1;omega
  · intro b e' cs' hb
    rw[blk_new _ hR.len] at hb
    split at hb
    · rename_i hbn
      cases hb
      subst hbn
      refine⟨_,cur,by unfold ins;rw[if_pos rfl],Nat.le_trans hsz hg,hcur,rfl,hs,fun i v hi=>?_⟩
      obtain⟨v',h1,h2,h3⟩:=hv i v hi
      exact⟨v',h1,h2.mono hE,h3⟩
    · obtain⟨m,cur',h1,h2,h3,h4,h5,h6⟩:=hR.row b e' cs' hb
      refine⟨m,cur',hE _ _ h1,h2,by rw[hB.block m.g (Array.getElem?_eq_some_iff.1 h3).1];exact h3,h4,h5,fun i v hi=>?_⟩
      obtain⟨v',q1,q2,q3⟩:=h6 i v hi
      exact⟨v',q1,q2.mono hE,q3⟩
  · intro b ks hb
    rw[blk_new _ hR.len] at hb
    split at hb
    · cases hb
    · obtain⟨m,h1,h2,h3⟩:=hR.map b ks hb
      exact⟨m,hE _ _ h1,h2,h3.below hB⟩
  · intro b b' m m' hb hb' hd hd' hgg
    rw[blk_new _ hR.len] at hd hd'
    unfold ins at hb hb'
    have hlive:∀ {c:Nat} {mc:Meta},c≠h.n→M c=some mc→h.blk c≠some .dead→mc.g < w.heap.size:=by
      intro c mc hc hmc hdc
      have hlt:=hR.dom c mc hmc
      cases hbc:h.blk c with
      | none =>
        unfold Hp.blk at hbc
        rw[if_pos hlt,nthB_eq,List.getElem?_eq_none_iff] at hbc
        have:=hR.len;omega
      | some x=>exact hR.old hbc (fun he=>hdc (by rw[hbc,he])) hmc
    by_cases h1:b=h.n
    · by_cases h2:b'=h.n
      · omega
      · rw[if_pos h1] at hb
        rw[if_neg h2] at hb' hd'
        cases hb
        have:=hlive h2 hb' hd'
        simp only at hgg
        omega
    · rw[if_neg h1] at hb hd
      by_cases h2:b'=h.n
      · rw[if_pos h2] at hb'
        cases hb'
        have:=hlive h1 hb hd
        simp only at hgg
        omega
      · rw[if_neg h2] at hb' hd'
        exact hR.inj b b' m m' hb hb' hd hd' hgg
/-- A block that no living block of the small machine stands for. -/
def Strange (M:Mp) (h:Hp) (g:Nat):Prop:=∀ b m,M b=some m→h.blk b≠some .dead→m.g≠g
/-- From one state of the run to another. -/
structure Step (M:Mp) (w:World) (h:Hp) (M':Mp) (w':World) (h':Hp):Prop where
  ext:Ext M M'
  n:h.n≤h'.n
  wr:∀ b∈h.wr,b∈h'.wr
  blk:∀ b,b < h.n→b∉h'.wr→h'.blk b=h.blk b
  frame:∀ b m,M b=some m→b < h.n→h.blk b≠some .dead→b∉h'.wr→w'.heap[m.g]?=w.heap[m.g]?
  size:w.heap.size≤w'.heap.size
  str:∀ g,g < w.heap.size→Strange M h g→w'.heap[g]?=w.heap[g]?∧Strange M' h' g
theorem Step.refl (M:Mp) (w:World) (h:Hp):Step M w h M w h:=⟨Ext.refl M,Nat.le_refl _,fun _ h=>h,fun _ _ _=>rfl,fun _ _ _ _ _ _=>rfl,Nat.le_refl _,fun _ _ h=>⟨rfl,h⟩⟩
theorem Step.trans {M' M'':Mp} {w' w'':World} {h' h'':Hp} (s:Step M w h M' w' h') (t:Step M' w' h' M'' w'' h''):Step M w h M'' w'' h'' where
  ext:=s.ext.trans t.ext
  n:=Nat.le_trans s.n t.n
  wr:=fun b hb=>t.wr b (s.wr b hb)
  blk:=fun b hb hn=>by rw[t.blk b (Nat.lt_of_lt_of_le hb s.n) hn,s.blk b hb (fun h=>hn (t.wr b h))]
  frame:=fun b m hm hb hd hn=>by
    have hn':b∉h'.wr:=fun h=>hn (t.wr b h)
    rw[t.frame b m (s.ext b m hm) (Nat.lt_of_lt_of_le hb s.n) (by rw[s.blk b hb hn'];exact hd) hn,s.frame b m hm hb hd hn']
  size:=Nat.le_trans s.size t.size
  str:=fun g hg hs=>by
    obtain⟨s1,s2⟩:=s.str g hg hs
    obtain⟨t1,t2⟩:=t.str g (Nat.lt_of_lt_of_le hg s.size) s2
    exact⟨t1.trans s1,t2⟩
theorem HR.live_lt (hR:HR P M w0 w h) {b:Nat} {m:Meta} (hm:M b=some m) (hd:h.blk b≠some .dead):m.g < w.heap.size:=by
  have hlt:=hR.dom b m hm
  cases hbc:h.blk b with
  | none =>
    unfold Hp.blk at hbc
    rw[if_pos hlt,nthB_eq,List.getElem?_eq_none_iff] at hbc
    have:=hR.len;omega
  | some x=>exact hR.old hbc (fun he=>hd (by rw[hbc,he])) hm
theorem Step.add (hR:HR P M w0 w h) {w':World} {x:Blk} {m:Meta} (hB:Below w.heap.size w w') (hmg:w.heap.size≤m.g):Step M w h (ins M h.n m) w' ⟨x :: h.heap,h.n + 1,h.wr⟩ where
  ext:=ext_ins hR.none_at
  n:=Nat.le_succ _
  wr:=fun _ h=>h
  blk:=fun b hb _=>by rw[blk_new _ hR.len,if_neg (by omega)]
  frame:=fun b mb hm _ hd _=>hB.block _ (hR.live_lt hm hd)
  size:=hB.size
  str:=fun g hg hs=>⟨hB.block _ hg,fun b mb hm hd=>by
    rw[blk_new _ hR.len] at hd
    unfold ins at hm
    split at hm
    · cases hm;omega
    · rename_i hne
      rw[if_neg hne] at hd
      exact hs b mb hm hd⟩
/-- A new map. -/
theorem HR.addMap (hR:HR P M w0 w h):HR P (ins M h.n ⟨w.heap.size,0,0⟩) w0 (w.alloc (.map #[] 0)) ⟨.map [] :: h.heap,h.n + 1,h.wr⟩:=by
  have hB:Below w.heap.size w (w.alloc (.map #[] 0)):=(Below.refl _ _).alloc (Nat.le_refl _) _
  have hE:=ext_ins (m:=⟨w.heap.size,0,0⟩) hR.none_at
  have hsz:w0.heap.size≤w.heap.size:=hR.below.size
  refine⟨?_,by simp[hR.len],?_,?_,?_,?_⟩
  · exact hR.below.trans ⟨hB.os,hB.tape,hB.output,hB.size,fun i hi=>hB.block i (Nat.lt_of_lt_of_le hi hsz)⟩
  · intro b m hm
    unfold ins at hm
    split at hm
    · show b < h.n + 1;omega
    · have:=hR.dom b m hm;show b < h.n + 1;omega
  · intro b e' cs' hb
    rw[blk_new _ hR.len] at hb
    split at hb
    · cases hb
    · obtain⟨m,cur',h1,h2,h3,h4,h5,h6⟩:=hR.row b e' cs' hb
      refine⟨m,cur',hE _ _ h1,h2,by rw[hB.block m.g (Array.getElem?_eq_some_iff.1 h3).1];exact h3,h4,h5,fun i v hi=>?_⟩
      obtain⟨v',q1,q2,q3⟩:=h6 i v hi
      exact⟨v',q1,q2.mono hE,q3⟩
  · intro b ks hb
    rw[blk_new _ hR.len] at hb
    split at hb
    · rename_i hbn
      cases hb
      subst hbn
      exact⟨_,by unfold ins;rw[if_pos rfl],hsz,own_new w⟩
    · obtain⟨m,h1,h2,h3⟩:=hR.map b ks hb
      exact⟨m,hE _ _ h1,h2,h3.below hB⟩
  · intro b b' m m' hb hb' hd hd' hgg
    rw[blk_new _ hR.len] at hd hd'
    unfold ins at hb hb'
    by_cases h1:b=h.n
    · by_cases h2:b'=h.n
      · omega
      · rw[if_pos h1] at hb
        rw[if_neg h2] at hb' hd'
        cases hb
        have:=hR.live_lt hb' hd'
        simp only at hgg
        omega
    · rw[if_neg h1] at hb hd
      by_cases h2:b'=h.n
      · rw[if_pos h2] at hb'
        cases hb'
        have:=hR.live_lt hb hd
        simp only at hgg
        omega
      · rw[if_neg h2] at hb' hd'
        exact hR.inj b b' m m' hb hb' hd hd' hgg
/-- What an operation that turns the memory does. -/
def Turns (P:Program) (M:Mp) (w0 w:World) (h:Hp) (a:Act) (o:Oper) (r:Value × Hp):Prop :=
  ∃ M' v' w',HR P M' w0 w' r.2∧Step M w h M' w' r.2∧VR M' r.1 v'∧((execOp a.eval o).run P w=.ok (.value v') w'∨(execOp a.eval o).run P w=.ok .skip w'∧v'=undef)
theorem mkRow_some {e:TypeId} {cs:List Value} {vf:Nat→Value} {q:Value × Hp} (hm:mkRow P h e cs vf=some q):(∃ sz,sizeT P e=some sz)∧(∀ v∈cs,v.oneCell'=true)∧q=(vf h.n,⟨.row e cs :: h.heap,h.n + 1,h.wr⟩):=by
  unfold mkRow at hm
  split at hm
  · rename_i hc
    simp only[Bool.and_eq_true,List.all_eq_true] at hc
    rw[forceL_eq] at hm
    unfold Hp.new at hm
    rw[forceN_eq] at hm
    cases hm
    exact⟨Option.isSome_iff_exists.1 hc.1,hc.2,rfl⟩
  · cases hm
theorem one_rel {v v':Value} (hv:VR M v v') (h1:v.oneCell'=true):v'.oneCell'=true:=by
  cases hv with
  | same _=>exact h1
  | junk=>cases h1
  | agg _ _=>cases h1
  | tuple _ _=>cases h1
  | _=>rfl
theorem alloc_below (w:World) (x:Obj):Below w.heap.size w (w.alloc x):=(Below.refl _ _).alloc (Nat.le_refl _) x
/-- A new row of these cells. -/
theorem alloc_ok (hR:HR P M w0 w h) {e sz:Nat} {cs:List Value} {cur:Array Value} (hs:sizeT P e=some sz) (h1:∀ v∈cs,v.oneCell'=true) (hl:cs.length=cur.size)
    (hv:∀ (i:Nat) (v v':Value),cs[i]?=some v→cur[i]?=some v'→VR M v v') :
    HR P (ins M h.n ⟨w.heap.size,sz,cur.size⟩) w0 (w.alloc (.cells cur e)) ⟨.row e cs :: h.heap,h.n + 1,h.wr⟩:=by
  refine hR.add (alloc_below w _) (Nat.le_refl _) (heap_alloc_new w _) hs fun i v hi=>?_
  have hlt:i < cur.size:=by rw[← hl];exact (List.getElem?_eq_some_iff.1 hi).1
  have h2:cur[i]?=some cur[i]:=Array.getElem?_eq_getElem hlt
  exact⟨_,h2,hv i v _ hi h2,one_rel (hv i v _ hi h2) (h1 v (List.mem_of_getElem? hi))⟩
theorem exec_v2 {s:Sem Value} {v:Value} {w':World} (hs:s.run P w=.ok v w'):(do pure (Next.value (← s)):Sem Next).run P w=.ok (.value v) w':=by
  simp[Sem.run_bind,hs,Result.andThen]
theorem eAlloc_ok (hR:HR P M w0 w h) {e:TypeId} {q:Value × Hp} (hop:o.op=.alloc e) (hq:eAlloc P h e=some q):Turns P M w0 w h a o q:=by
  unfold eAlloc at hq
  split at hq
  · rename_i z hz
    split at hq
    · rename_i hf
      obtain⟨⟨sz,hs⟩,h1,rfl⟩:=mkRow_some hq
      obtain⟨i,hi,hiz⟩:=Option.bind_eq_some_iff.1 hz
      have hvr:=flat_vra (M:=M) hf
      refine⟨_,.pointer (some ⟨w.heap.size,0,none⟩),_,alloc_ok hR (cur:=z.cells) hs h1 (by simp) (fun i v v' q1 q2=>hvr.2 i v v' (by simpa using q1) q2),Step.add hR (alloc_below w _) (Nat.le_refl _),.ptr (m:=⟨w.heap.size,sz,z.cells.size⟩) (by unfold ins;rw[if_pos rfl]),.inl ?_⟩
      unfold execOp
      simp only[hop]
      have hzv:(zeroValue e).run P w=.ok z w:=by simp[zeroValue,typeInfo,hi,hiz,Result.andThen]
      refine exec_v2 ?_
      unfold Instr.alloc
      rw[Sem.run_bind,hzv]
      rfl
    · cases hq
  · cases hq
theorem cells_solid {v:Value} (h1:∀ u∈v.cells.toList,u.oneCell'=true):solid v=true:=by
  cases v with
  | tuple vs=>have:=h1 (.tuple vs) (by simp[Value.cells]);cases this
  | _=>rfl
theorem eBox_ok (hR:HR P M w0 w h) (hT:TR M T a) {e:TypeId} {x:Operand} {q:Value × Hp} (hop:o.op=.box e x) (hq:eBox P T h e x=some q):Turns P M w0 w h a o q:=by
  unfold eBox at hq
  split at hq
  · rename_i hx
    obtain⟨⟨sz,hs⟩,h1,rfl⟩:=mkRow_some hq
    have hvr:=vr_cells (ev_rel hT hx) (cells_solid h1)
    refine⟨_,.pointer (some ⟨w.heap.size,0,none⟩),_,alloc_ok hR (cur:=(a.eval x).cells) hs h1 (by simpa using hvr.1) (fun i v v' q1 q2=>hvr.2 i v v' (by simpa using q1) q2),Step.add hR (alloc_below w _) (Nat.le_refl _),.ptr (m:=⟨w.heap.size,sz,(a.eval x).cells.size⟩) (by unfold ins;rw[if_pos rfl]),.inl ?_⟩
    unfold execOp
    simp only[hop]
    exact exec_v2 rfl
  · cases hq
/-- What lies in a block behind a store of several cells. -/
theorem setCells_blk {g e:Nat} {fr:Nat × Nat}:∀ (vs:List Value) (k:Nat) (w:World) (cur:Array Value),w.heap[g]?=some (.cells cur e fr)→k + vs.length≤cur.size →
    ∃ cur':Array Value,(w.setCells g k vs).heap[g]?=some (.cells cur' e fr)∧cur'.size=cur.size∧(∀ i:Nat,cur'[i]?=if k≤i∧i < k + vs.length then vs[i - k]? else cur[i]?) ∧
      (∀ j,j≠g→(w.setCells g k vs).heap[j]?=w.heap[j]?)∧(w.setCells g k vs).os=w.os∧(w.setCells g k vs).tape=w.tape∧(w.setCells g k vs).output=w.output∧(w.setCells g k vs).heap.size=w.heap.size
  | [],k,w,cur,hb,_=>⟨cur,hb,rfl,fun i=>by rw[if_neg (by simp)],fun _ _=>rfl,rfl,rfl,rfl,rfl⟩
  | v :: vs,k,w,cur,hb,hl=>by
    have hb':(w.setCell ⟨g,k,none⟩ v).heap[g]?=some (.cells (cur.setIfInBounds k v) e fr):=by
      show (w.heap.modify g _)[g]?=_
      rw[Array.getElem?_modify,if_pos rfl,hb]
      rfl
    simp only[List.length_cons] at hl
    obtain⟨cur',h1,h2,h3,h4,h5,h6,h7,h8⟩:=setCells_blk vs (k + 1) (w.setCell ⟨g,k,none⟩ v) _ hb' (by simp;omega)
    refine⟨cur',h1,by rw[h2];simp,fun i=>?_,fun j hj=>?_,h5,h6,h7,?_⟩
    · rw[h3,Array.getElem?_setIfInBounds]
      by_cases hik:i=k
      · subst hik
        rw[if_neg (by omega),if_pos rfl,if_pos (by omega),if_pos (by simp)]
        simp
      · by_cases hin:k + 1≤i∧i < k + 1 + vs.length
        · rw[if_pos hin,if_pos (by simp;omega)]
          obtain⟨d,hd⟩:∃ d,i - k=d + 1:=⟨i - k - 1,by omega⟩
          rw[hd,List.getElem?_cons_succ]
          congr 1;omega
        · rw[if_neg hin,if_neg (by omega),if_neg (by simp;omega)]
    · rw[World.setCells,h4 j hj]
      show (w.heap.modify g _)[j]?=_
      rw[Array.getElem?_modify,if_neg (by omega)]
    · rw[World.setCells,h8]
      show (w.heap.modify g _).size=_
      simp
theorem putCells_some:∀ (cs:List Value) (k:Nat) (vs cs':List Value),putCells cs k vs=some cs'→k + vs.length≤cs.length∧cs'.length=cs.length∧∀ i:Nat,cs'[i]?=if k≤i∧i < k + vs.length then vs[i - k]? else cs[i]?
  | cs,0,[],cs',hp=>by
    have:cs'=cs:=by cases cs <;> simp[putCells] at hp <;> first|exact hp.symm|exact hp
    subst this
    exact⟨by simp,rfl,fun i=>by rw[if_neg (by simp)]⟩
  | [],0,_ :: _,_,hp=>by simp[putCells] at hp
  | [],_ + 1,_,_,hp=>by simp[putCells] at hp
  | c :: cs,0,v :: vs,cs',hp=>by
    simp only[putCells] at hp
    obtain⟨r,h1,rfl⟩:=Option.map_eq_some_iff.1 hp
    obtain⟨h2,h3,h4⟩:=putCells_some cs 0 vs r h1
    refine⟨by simp at h2 ⊢;omega,by simp[h3],fun i=>?_⟩
    cases i with
    | zero=>rw[if_pos (by simp)];rfl
    | succ i =>
      rw[List.getElem?_cons_succ,h4]
      by_cases hi:i < vs.length
      · rw[if_pos (by omega),if_pos (by simp;omega)];rfl
      · rw[if_neg (by omega),if_neg (by simp;omega)];rfl
  | c :: cs,k + 1,vs,cs',hp=>by
    simp only[putCells] at hp
    obtain⟨r,h1,rfl⟩:=Option.map_eq_some_iff.1 hp
    obtain⟨h2,h3,h4⟩:=putCells_some cs k vs r h1
    refine⟨by simp;omega,by simp[h3],fun i=>?_⟩
    cases i with
    | zero=>rw[if_neg (by omega)];rfl
    | succ i =>
      rw[List.getElem?_cons_succ,h4]
      by_cases hi:k≤i∧i < k + vs.length
      · rw[if_pos hi,if_pos (by omega)];congr 1;omega
      · rw[if_neg hi,if_neg (by omega)];rfl
theorem eStore_ok (hR:HR P M w0 w h) (hT:TR M T a) {t:TypeId} {x y:Operand} {q:Value × Hp} (hop:o.op=.store t x y) (hq:eStore P T h t x y=some q):Turns P M w0 w h a o q:=by
  unfold eStore at hq
  split at hq
  · rename_i hxy
    simp only[Bool.and_eq_true] at hxy
    have hvx:=ev_rel hT hxy.1
    have hvy:=ev_rel hT hxy.2
    split at hq
    · rename_i b off he
      rw[he] at hvx
      obtain⟨m,hm,hvx⟩:=vr_ptr hvx
      split at hq
      · rename_i e cs hb
        split at hq
        · rename_i hc
          simp only[Bool.and_eq_true,decide_eq_true_eq,List.all_eq_true] at hc
          obtain⟨hsz,h1⟩:=hc
          split at hq
          · rename_i cs' hp
            rw[forceL_eq] at hq
            unfold Hp.upd at hq
            rw[setB_eq] at hq
            cases hq
            have hvr:=vr_cells hvy (cells_solid h1)
            obtain⟨hp1,hp2,hp3⟩:=putCells_some _ _ _ _ hp
            obtain⟨m',cur,hm',hbase,hcur,hcsz,hesz,hcell⟩:=hR.row b e cs hb
            rw[hm] at hm';cases hm'
            have hblt:=blk_lt hb
            have hcl:cs.length≤cur.size:=by
              rcases Nat.eq_zero_or_pos cs.length with h0|h0
              · omega
              · obtain⟨v',q1,_⟩:=hcell (cs.length - 1) cs[cs.length - 1] (List.getElem?_eq_getElem (by omega))
                have:=(Array.getElem?_eq_some_iff.1 q1).1
                omega
            have hvl:(a.eval y).cells.toList.length=(evT T y).cells.toList.length:=by simp[hvr.1]
            have h1':∀ u∈(a.eval y).cells.toList,u.oneCell'=true:=by
              intro u hu
              obtain⟨i,hi⟩:=List.mem_iff_getElem?.1 hu
              have hlt:i < (evT T y).cells.size:=by
                have:=(List.getElem?_eq_some_iff.1 hi).1
                rw[Array.length_toList,← hvr.1] at this;exact this
              have h2:(evT T y).cells[i]?=some (evT T y).cells[i]:=Array.getElem?_eq_getElem hlt
              exact one_rel (hvr.2 i _ u h2 (by simpa using hi)) (h1 _ (by simp))
            obtain⟨cur',s1,s2,s3,s4,s5,s6,s7,s8⟩:=setCells_blk (a.eval y).cells.toList off w cur hcur (by rw[hvl];omega)
            have hcell?:∀ j:Nat,w.cell? ⟨m.g,j,none⟩=cur[j]?:=by
              intro j
              unfold World.cell?
              rw[hcur];rfl
            have hrun:(Instr.storeAt t (.pointer (some ⟨m.g,off,none⟩)) (a.eval y)).run P w=.ok () (w.setCells m.g off (a.eval y).cells.toList):=by
              have hst:=run_storeCells_cells (P:=P) m.g off (a.eval y).cells.toList 0 w (fun j hj=>by rw[hcell?,Array.getElem?_eq_getElem (by omega)];rfl)
                (fun j hj=>by unfold World.frozen?;rw[hcur];simp) h1'
              obtain⟨i,hi,his⟩:=sizeT_info hsz
              simp only[Nat.add_zero] at hst
              simp only[Instr.storeAt,Instr.sureAddr,storeVar,sizeOf,typeInfo,Sem.run_bind,Sem.run_pure,Result.andThen_ok,run_program,hi,his]
              rw[if_neg (by rw[← hvl];simp)]
              exact hst
            refine⟨M,undef,w.setCells m.g off (a.eval y).cells.toList,?_,?_,.same rfl,.inr ⟨?_,rfl⟩⟩
            · refine⟨?_,by simp[hR.len],hR.dom,?_,?_,?_⟩
              · have hb0:=hR.below
                refine⟨s5.trans hb0.os,s6.trans hb0.tape,s7.trans hb0.output,by rw[s8];exact hb0.size,fun i hi=>?_⟩
                rw[s4 i (by omega)];exact hb0.block i hi
              · intro c e' cs2 hc2
                rw[blk_upd _ hR.len hblt] at hc2
                split at hc2
                · rename_i hcb
                  subst hcb
                  cases hc2
                  refine⟨m,cur',hm,hbase,s1,by rw[s2];exact hcsz,hesz,fun i v hi=>?_⟩
                  rw[hp3] at hi
                  rw[s3,hvl]
                  split at hi
                  · rename_i hin
                    rw[if_pos hin]
                    have hlt:i - off < (evT T y).cells.size:=by
                      have:=(List.getElem?_eq_some_iff.1 hi).1;simpa using this
                    have hlt':i - off < (a.eval y).cells.size:=by rw[← hvr.1];exact hlt
                    have q2:(a.eval y).cells[i - off]?=some (a.eval y).cells[i - off]:=Array.getElem?_eq_getElem hlt'
                    have q3:=hvr.2 (i - off) v _ (by simpa using hi) q2
                    exact⟨_,by simp,q3,one_rel q3 (h1 v (List.mem_of_getElem? hi))⟩
                  · rename_i hin
                    rw[if_neg hin]
                    exact hcell i v hi
                · rename_i hcb
                  obtain⟨mc,curc,k1,k2,k3,k4,k5,k6⟩:=hR.row c e' cs2 hc2
                  have hne:mc.g≠m.g:=fun heq=>hcb (hR.inj c b mc m k1 hm (by rw[hc2];simp) (by rw[hb];simp) heq)
                  exact⟨mc,curc,k1,k2,by rw[s4 _ hne];exact k3,k4,k5,k6⟩
              · intro c ks hc2
                rw[blk_upd _ hR.len hblt] at hc2
                split at hc2
                · cases hc2
                · rename_i hcb
                  obtain⟨mc,k1,k2,k3⟩:=hR.map c ks hc2
                  have hne:mc.g≠m.g:=fun heq=>hcb (hR.inj c b mc m k1 hm (by rw[hc2];simp) (by rw[hb];simp) heq)
                  refine⟨mc,k1,k2,k3.kept (row:=some m.g) ⟨s5,s6,s7,by rw[s8];exact Nat.le_refl _,fun i _ hi=>s4 i (fun he=>hi (by rw[he]))⟩ (by simpa using hne)⟩
              · intro c c' mc mc' k1 k2 k3 k4 k5
                rw[blk_upd _ hR.len hblt] at k3 k4
                refine hR.inj c c' mc mc' k1 k2 ?_ ?_ k5
                · split at k3
                  · rename_i hcb;subst hcb;rw[hb];simp
                  · exact k3
                · split at k4
                  · rename_i hcb;subst hcb;rw[hb];simp
                  · exact k4
            · refine⟨Ext.refl _,Nat.le_refl _,fun c hc=>List.mem_cons_of_mem _ hc,fun c hc hn=>?_,fun c mc k1 _ k3 hn=>?_,by rw[s8];exact Nat.le_refl _,fun j hj hs=>?_⟩
              · rw[blk_upd _ hR.len hblt,if_neg (fun he=>hn (by rw[he];exact List.mem_cons_self))]
              · refine s4 _ (fun heq=>hn ?_)
                rw[hR.inj c b mc m k1 hm k3 (by rw[hb];simp) heq]
                exact List.mem_cons_self
              · refine⟨s4 j (Ne.symm (hs b m hm (by rw[hb];simp))),fun c mc k1 k3=>?_⟩
                rw[blk_upd _ hR.len hblt] at k3
                split at k3
                · rename_i hcb;subst hcb;exact hs _ mc k1 (by rw[hb];simp)
                · exact hs c mc k1 k3
            · unfold execOp
              simp only[hop,hvx]
              simp[Sem.run_bind,hrun,Result.andThen]
          · cases hq
        · cases hq
      · cases hq
    · cases hq
  · cases hq
end Go.AI
namespace Go.AI
open Go Go.Proofs.YtjbeoidhbbjcmaaGreat
open Go.RowKit (Below)
variable {P : Program} {M : Mp} {w0 w : World} {h : Hp} {T : List Value} {a : Act} {o : Oper} {r : Value × Option Nat}
theorem grown_below {w':World} {row:Option Nat} (hg:w.grownBy w' row) (hr:∀ k,row=some k→w.heap.size≤k):Below w.heap.size w w' :=
  ⟨hg.os,hg.tape,hg.output,hg.size,fun i hi=>hg.block i hi (fun he=>by have:=hr i he.symm;omega)⟩
theorem intIn_some {v v':Value} {n:Nat} (hv:VR M v v') (hi:intIn v=some n):∃ k,v'=.int k (n:Int):=intOf_some hv hi
theorem made_flat {z:Array Value} {n:Nat} (hz:z.toList.all flat1=true) (h0:0 < z.size):(madeCells z n).toList.all flat1=true:=by
  rw[List.all_eq_true] at hz ⊢
  intro x hx
  simp only[madeCells,Array.toList_map,Array.toList_range,List.mem_map] at hx
  obtain⟨i,_,rfl⟩:=hx
  have hlt:i % z.size < z.size:=Nat.mod_lt _ h0
  rw[getElem!_pos z _ hlt]
  exact hz _ (by simp)
theorem own_cells {v:Value} {base e size n:Nat} {xs:List Value} {g c:Nat} (ho:w.ownsRow base e size v n xs) (hv:v=.slice (some ⟨g,0,none⟩) n c) :
    ∃ cur,base≤g∧w.heap[g]?=some (.cells cur e (0,0))∧n≤c∧c≤maxLen∧cur.size=c * size∧cur.toList.take (n * size)=xs∧xs.length=n * size:=by
  obtain⟨hl,ho⟩:=ho
  rcases ho with ⟨h1,_⟩|⟨g',cap,cur,h1,h2,h3,h4,h7,h5,h6⟩
  · rw[hv] at h1;cases h1
  · rw[hv] at h1;cases h1
    exact⟨cur,h2,h3,h4,h7,h5,h6,hl⟩
theorem eMake_ok (hR:HR P M w0 w h) (hT:TR M T a) {t:TypeId} {l c:Operand} {q:Value × Hp} (hop:o.op=.makeSlice t l c) (hq:eMake P T h t l c=some q):Turns P M w0 w h a o q:=by
  unfold eMake at hq
  split at hq
  · rename_i hlc
    simp only[Bool.and_eq_true] at hlc
    split at hq
    · rename_i n m e size hn hm helem
      obtain⟨k1,hk1⟩:=intIn_some (ev_rel hT hlc.1) hn
      obtain⟨k2,hk2⟩:=intIn_some (ev_rel hT hlc.2) hm
      obtain⟨hu,hs,hel⟩:=elemT_some helem
      split at hq
      · rename_i i hi
        split at hq
        · rename_i z hz
          split at hq
          · rename_i hc
            simp only[Bool.and_eq_true,decide_eq_true_eq] at hc
            obtain⟨⟨⟨⟨⟨⟨c1,c2⟩,c3⟩,c4⟩,c5⟩,c6⟩,c7⟩:=hc
            subst c1
            obtain⟨⟨sz,hsz⟩,h1,rfl⟩:=mkRow_some hq
            have hsize:i.size=size:=by
              obtain⟨i',q1,q2⟩:=sizeT_info hs
              rw[hi] at q1;cases q1;exact q2
            obtain⟨w',hrun,hown,hgr⟩:=run_makeSlice_full (P:=P) (w:=w) w.heap.size t e i z size hu hi hz hsize k1 k2 n (by omega)
              (by have:i.bytes * n≤65536 * 65536:=Nat.mul_le_mul c6 c2;omega) (by show n≤9223372036854775807;omega) (Nat.le_refl _)
            obtain⟨cur,o1,o2,o3,_,o4,o5,o6⟩:=own_cells hown rfl
            have hB:=grown_below hgr (fun k hk=>by cases hk)
            have hcur:cur.toList=(madeCells z.cells (n * size)).toList:=by
              rw[← o5,List.take_of_length_le (by rw[Array.length_toList,o4];exact Nat.le_refl _)]
            have hfl:=made_flat (n:=n * size) c7 (by omega)
            rw[hs] at hsz;cases hsz
            refine⟨_,.slice (some ⟨w.heap.size,0,none⟩) n n,w',hR.add hB (Nat.le_refl _) o2 hs (fun j v hj=>?_),Step.add hR hB (Nat.le_refl _),.own (m:=⟨w.heap.size,size,cur.size⟩) (by unfold ins;rw[if_pos rfl]) (Nat.le_refl _) (by simp[o4]) (by show n≤9223372036854775807;omega),.inl ?_⟩
            · rw[← hcur] at hj
              have hm:=List.mem_of_getElem? hj
              rw[hcur] at hm
              exact⟨v,by simpa using hj,.same (flat_of1 (List.all_eq_true.1 hfl v hm)),h1 v hm⟩
            · unfold execOp
              simp only[hop,hk1,hk2]
              exact exec_v2 hrun
          · cases hq
        · cases hq
      · cases hq
    · cases hq
  · cases hq
theorem eBuildSlice_ok (hR:HR P M w0 w h) (hT:TR M T a) {t:TypeId} {len:Nat} {ps:Array (Nat × Operand)} {q:Value × Hp} (hop:o.op=.buildSlice t len ps) (hq:eBuildSlice P T h t len ps=some q):Turns P M w0 w h a o q:=by
  unfold eBuildSlice at hq
  split at hq
  · rename_i ho
    rw[List.all_eq_true] at ho
    split at hq
    · rename_i e size helem
      obtain⟨hu,hs,hel⟩:=elemT_some helem
      split at hq
      · rename_i z hz
        split at hq
        · rename_i hc
          simp only[Bool.and_eq_true,decide_eq_true_eq] at hc
          obtain⟨⟨⟨c1,c2⟩,c3⟩,c4⟩:=hc
          split at hq
          · rename_i cs hfill
            obtain⟨⟨sz,hsz⟩,h1,rfl⟩:=mkRow_some hq
            rw[hs] at hsz;cases hsz
            obtain⟨i,hi,hiz⟩:=Option.bind_eq_some_iff.1 hz
            have hfl:VRA M ((Array.range (len * size)).map (z.cells[· % z.cells.size]!)) ((Array.range (len * size)).map (z.cells[· % z.cells.size]!)):=flat_vra (made_flat (n:=len * size) c4 (by omega))
            obtain⟨cs',f1,f2⟩:=fill_rel _ _ _ _ cs (by simp) (pairs_rel hT ho) hfl hfill
            refine⟨_,.slice (some ⟨w.heap.size,0,none⟩) len len,_,alloc_ok hR (cur:=cs') hs h1 (by simpa using f2.1) (fun j v v' q1 q2=>f2.2 j v v' (by simpa using q1) q2),Step.add hR (alloc_below w _) (Nat.le_refl _),.own (m:=⟨w.heap.size,size,cs'.size⟩) (by unfold ins;rw[if_pos rfl]) (Nat.le_refl _) ?_ (by have:=Nat.le_mul_of_pos_right len c2;show len≤9223372036854775807;omega),.inl ?_⟩
            · have hsz1:=fill_size f1
              simp only[Nat.zero_add]
              rw[hsz1];simp
            · unfold execOp
              simp only[hop]
              refine exec_v2 ?_
              unfold Instr.buildSlice
              have hzv:(zeroValue e).run P w=.ok z w:=by simp[zeroValue,typeInfo,hi,hiz,Result.andThen]
              rw[Sem.run_bind,run_underlying hu w]
              simp only[Result.andThen_ok,Sem.run_bind,size_run hs w]
              rw[if_neg (by omega)]
              by_cases h0:len * size=0
              · have hl0:len=0:=by rcases Nat.mul_eq_zero.1 h0 with q|q <;> omega
                subst hl0
                simp only[Nat.zero_mul,if_true,Sem.run_pure,Result.andThen_ok]
                simp only[Nat.zero_mul] at f1
                have he:∀ zz:Array Value,(Array.range 0).map (zz[· % zz.size]!)=#[]:=fun zz=>by simp
                rw[he] at f1
                simp only[Sem.run_bind,Sem.run_pure,Result.andThen_ok,he,f1]
                rfl
              · simp only[if_neg h0,Sem.run_bind,hzv,Result.andThen_ok,Sem.run_pure]
                rw[f1]
                rfl
          · cases hq
        · cases hq
      · cases hq
    · cases hq
  · cases hq
/-- The value of an allocation, in the program. -/
def vC (l:Option Nat) (g:Nat):Value :=
  match l with
  | some n=>.slice (some ⟨g,0,none⟩) n n
  | none=>.pointer (some ⟨g,0,none⟩)
theorem vA_rel {l:Option Nat} {b:Nat} {m:Meta} (hm:M b=some m) (hl:∀ n,l=some n→n * m.sz=m.csz∧n≤maxLen):VR M (vA l b) (vC l m.g):=by
  cases l with
  | none=>exact .ptr hm
  | some n=>exact .own hm (Nat.le_refl _) (by rw[Nat.zero_add];exact (hl n rfl).1) (hl n rfl).2
/-- An allocation that may wait. -/
theorem prep_ok (hT:TR M T a) {e:TypeId} {cs:List Value} {l:Option Nat} (hp:prep P T h o=some (e,cs,l)) :
    ∃ (sz:Nat) (cs':Array Value),sizeT P e=some sz∧(∀ v∈cs,v.oneCell'=true)∧cs.length=cs'.size∧(∀ (i:Nat) (v v':Value),cs[i]?=some v→cs'[i]?=some v'→VR M v v') ∧
      (∀ n,l=some n→n * sz=cs'.size∧n≤maxLen)∧∀ a':Act,(∀ x∈readsT o,a'.eval x=a.eval x)→∀ w:World,(execOp a'.eval o).run P w=.ok (.value (vC l w.heap.size)) (w.alloc (.cells cs' e)):=by
  unfold prep at hp
  split at hp
  · rename_i t len ps hop
    split at hp
    · rename_i q e' cs0 _ _ _ hq
      cases hp
      unfold eBuildSlice at hq
      split at hq
      · rename_i ho
        rw[List.all_eq_true] at ho
        split at hq
        · rename_i e1 size helem
          obtain⟨hu,hs,hel⟩:=elemT_some helem
          split at hq
          · rename_i z hz
            split at hq
            · rename_i hc
              simp only[Bool.and_eq_true,decide_eq_true_eq] at hc
              obtain⟨⟨⟨c1,c2⟩,c3⟩,c4⟩:=hc
              split at hq
              · rename_i cs2 hfill
                obtain⟨⟨sz,hsz⟩,h1,he⟩:=mkRow_some hq
                cases he
                obtain⟨i,hi,hiz⟩:=Option.bind_eq_some_iff.1 hz
                have hfl:VRA M ((Array.range (len * size)).map (z.cells[· % z.cells.size]!)) ((Array.range (len * size)).map (z.cells[· % z.cells.size]!)):=flat_vra (made_flat (n:=len * size) c4 (by omega))
                obtain⟨cs',f1,f2⟩:=fill_rel _ _ _ _ cs2 (by simp) (pairs_rel hT ho) hfl hfill
                refine⟨size,cs',hs,h1,by simpa using f2.1,fun j v v' q1 q2=>f2.2 j v v' (by simpa using q1) q2,fun n hn=>?_,fun a' ha w=>?_⟩
                · cases hn
                  have hsz1:=fill_size f1
                  refine⟨by rw[hsz1];simp,?_⟩
                  have:=Nat.le_mul_of_pos_right len c2;show len≤9223372036854775807;omega
                · have hev:(ps.toList.map fun p=>(p.1,a'.eval p.2))=(ps.toList.map fun p=>(p.1,a.eval p.2)) :=
                    List.map_congr_left fun p hp=>by rw[ha p.2 (by unfold readsT;rw[hop];exact List.mem_map_of_mem hp)]
                  have hev2:(ps.map fun p=>(p.1,a'.eval p.2))=(ps.map fun p=>(p.1,a.eval p.2)):=by
                    apply Array.ext';simpa using hev
                  unfold execOp
                  simp only[hop]
                  refine exec_v2 ?_
                  rw[hev2]
                  unfold Instr.buildSlice
                  have hzv:(zeroValue e).run P w=.ok z w:=by simp[zeroValue,typeInfo,hi,hiz,Result.andThen]
                  rw[Sem.run_bind,run_underlying hu w]
                  simp only[Result.andThen_ok,Sem.run_bind,size_run hs w]
                  rw[if_neg (by omega)]
                  by_cases h0:len * size=0
                  · have hl0:len=0:=by rcases Nat.mul_eq_zero.1 h0 with q|q <;> omega
                    subst hl0
                    simp only[Nat.zero_mul,if_true,Sem.run_pure,Result.andThen_ok]
                    simp only[Nat.zero_mul] at f1
                    have he:∀ zz:Array Value,(Array.range 0).map (zz[· % zz.size]!)=#[]:=fun zz=>by simp
                    rw[he] at f1
                    simp only[Sem.run_bind,Sem.run_pure,Result.andThen_ok,he,f1]
                    rfl
                  · simp only[if_neg h0,Sem.run_bind,hzv,Result.andThen_ok,Sem.run_pure]
                    rw[f1]
                    rfl
              · cases hq
            · cases hq
          · cases hq
        · cases hq
      · cases hq
    · cases hp
  · rename_i t hop
    split at hp
    · rename_i q e' cs0 _ _ _ hq
      cases hp
      unfold eAlloc at hq
      split at hq
      · rename_i z hz
        split at hq
        · rename_i hf
          obtain⟨⟨sz,hs⟩,h1,he⟩:=mkRow_some hq
          cases he
          obtain⟨i,hi,hiz⟩:=Option.bind_eq_some_iff.1 hz
          have hvr:=flat_vra (M:=M) hf
          refine⟨sz,z.cells,hs,h1,by simp,fun j v v' q1 q2=>hvr.2 j v v' (by simpa using q1) q2,fun n hn=>(by cases hn),fun a' _ w=>?_⟩
          unfold execOp
          simp only[hop]
          have hzv:(zeroValue e).run P w=.ok z w:=by simp[zeroValue,typeInfo,hi,hiz,Result.andThen]
          refine exec_v2 ?_
          unfold Instr.alloc
          rw[Sem.run_bind,hzv]
          rfl
        · cases hq
      · cases hq
    · cases hp
  · cases hp
theorem eMakeMap_ok (hR:HR P M w0 w h) {t:TypeId} {q:Value × Hp} (hop:o.op=.makeMap t none) (hq:eMakeMap P h t=some q):Turns P M w0 w h a o q:=by
  unfold eMakeMap at hq
  split at hq
  · unfold Hp.new at hq
    rw[forceN_eq] at hq
    cases hq
    refine⟨_,.map (some w.heap.size),_,hR.addMap,Step.add hR (alloc_below w _) (Nat.le_refl _),.map (m:=⟨w.heap.size,0,0⟩) (by unfold ins;rw[if_pos rfl]),.inl ?_⟩
    unfold execOp
    simp only[hop]
    exact exec_v2 rfl
  · cases hq
theorem own_put (hK:MapsOk P) {t:TypeId} {b:Nat} {ks:List (List UInt8)} {s:ByteArray} (hm:P.underlying t=some (.map 9 4)) (hown:OwnSet P 9 4 w b ks) (hs:s.size≤maxLen) (hn:s.data.toList∉ks) (hl:ks.length < maxLen) :
    ∃ w',(Instr.mapUpdate t (.map (some b)) (.string s) (.bool true)).run P w=.ok () w'∧OwnSet P 9 4 w' b (ks ++ [s.data.toList])∧w.grownBy w' (some b):=by
  obtain⟨w',hrun,r1,r2⟩:=hown.2.update (Maps.string_keyed hK.t9) hm hl (Go.WideMaps.keyOf_string_mk hK.t9 hs) (plainElem_bool (H:=Unit) hK.e4 true)
  refine⟨w',hrun,⟨?_,?_⟩,r2⟩
  · rw[List.nodup_append]
    exact⟨hown.1,by simp,fun x hx y hy he=>by simp at hy;subst hy;subst he;exact hn hx⟩
  · rw[List.map_append,List.map_cons,List.map_nil,Maps.setOf_snoc,List.length_append]
    exact r1
theorem ePut_ok (hK:MapsOk P) (hR:HR P M w0 w h) (hT:TR M T a) {t:TypeId} {m k x:Operand} {q:Value × Hp} (hop:o.op=.mapUpdate t m k x∨o.op=.insert t m k x) (hq:ePut P T h t m k x=some q):Turns P M w0 w h a o q:=by
  unfold ePut at hq
  split at hq
  · rename_i hc
    simp only[Bool.and_eq_true] at hc
    have hvm:=ev_rel hT hc.1.1
    have hvk:=ev_rel hT hc.1.2
    have hvx:=ev_rel hT hc.2
    split at hq
    · rename_i b s hu hem hek hex
      rw[hem] at hvm
      rw[hek] at hvk
      rw[hex] at hvx
      obtain⟨mm,hmm,hvm⟩:=vr_map hvm
      have hvk:=vr_str hvk
      have hvx:=vr_bool hvx
      split at hq
      · rename_i ks hb
        split at hq
        · rename_i hcond
          simp only[Bool.and_eq_true,decide_eq_true_eq,Bool.not_eq_true',List.contains_eq_mem,decide_eq_false_iff_not] at hcond
          obtain⟨⟨c1,c2⟩,c3⟩:=hcond
          unfold Hp.upd at hq
          rw[setB_eq] at hq
          cases hq
          obtain⟨m',hm',hbase,hown⟩:=hR.map b ks hb
          rw[hmm] at hm';cases hm'
          have hblt:=blk_lt hb
          obtain⟨w',hrun,hset,hg⟩:=own_put hK hu hown c1 c3 (by show ks.length < 9223372036854775807;omega)
          have hold:∀ j,j < w.heap.size→j≠mm.g→w'.heap[j]?=w.heap[j]?:=fun j hj hne=>hg.block j hj (fun he=>hne (by injection he))
          refine⟨M,undef,w',?_,?_,.same rfl,.inr ⟨?_,rfl⟩⟩
          · refine⟨?_,by simp[hR.len],hR.dom,?_,?_,?_⟩
            · have hb0:=hR.below
              refine⟨hg.os.trans hb0.os,hg.tape.trans hb0.tape,hg.output.trans hb0.output,Nat.le_trans hb0.size hg.size,fun i hi=>?_⟩
              rw[hold i (Nat.lt_of_lt_of_le hi hb0.size) (by omega)];exact hb0.block i hi
            · intro c e' cs2 hc2
              rw[blk_upd _ hR.len hblt] at hc2
              split at hc2
              · cases hc2
              · rename_i hcb
                obtain⟨mc,curc,k1,k2,k3,k4,k5,k6⟩:=hR.row c e' cs2 hc2
                have hne:mc.g≠mm.g:=fun heq=>hcb (hR.inj c b mc mm k1 hmm (by rw[hc2];simp) (by rw[hb];simp) heq)
                exact⟨mc,curc,k1,k2,by rw[hold _ (Array.getElem?_eq_some_iff.1 k3).1 hne];exact k3,k4,k5,k6⟩
            · intro c ks2 hc2
              rw[blk_upd _ hR.len hblt] at hc2
              split at hc2
              · rename_i hcb
                subst hcb
                cases hc2
                exact⟨mm,hmm,hbase,hset⟩
              · rename_i hcb
                obtain⟨mc,k1,k2,k3⟩:=hR.map c ks2 hc2
                have hne:mc.g≠mm.g:=fun heq=>hcb (hR.inj c b mc mm k1 hmm (by rw[hc2];simp) (by rw[hb];simp) heq)
                exact⟨mc,k1,k2,k3.kept hg (by simpa using hne)⟩
            · intro c c' mc mc' k1 k2 k3 k4 k5
              rw[blk_upd _ hR.len hblt] at k3 k4
              refine hR.inj c c' mc mc' k1 k2 ?_ ?_ k5
              · split at k3
                · rename_i hcb;subst hcb;rw[hb];simp
                · exact k3
              · split at k4
                · rename_i hcb;subst hcb;rw[hb];simp
                · exact k4
          · refine⟨Ext.refl _,Nat.le_refl _,fun c hc=>List.mem_cons_of_mem _ hc,fun c hc hn=>?_,fun c mc k1 _ k3 hn=>?_,hg.size,fun j hj hs=>?_⟩
            · rw[blk_upd _ hR.len hblt,if_neg (fun he=>hn (by rw[he];exact List.mem_cons_self))]
            · refine hold _ (hR.live_lt k1 k3) (fun heq=>hn ?_)
              rw[hR.inj c b mc mm k1 hmm k3 (by rw[hb];simp) heq]
              exact List.mem_cons_self
            · refine⟨hold j hj (Ne.symm (hs b mm hmm (by rw[hb];simp))),fun c mc k1 k3=>?_⟩
              rw[blk_upd _ hR.len hblt] at k3
              split at k3
              · rename_i hcb;subst hcb;exact hs _ mc k1 (by rw[hb];simp)
              · exact hs c mc k1 k3
          · have:(do Instr.mapUpdate t (.map (some mm.g)) (.string s) (.bool true);pure .skip:Sem Next).run P w=.ok .skip w':=by simp[Sem.run_bind,hrun,Result.andThen]
            unfold execOp
            rcases hop with hop|hop <;> simp only[hop,hvm,hvk,hvx] <;> exact this
        · cases hq
      · cases hq
    · cases hq
  · cases hq
/-- A row that is given up for another: behind an append. -/
theorem HR.grow (hR:HR P M w0 w h) {w':World} {b g e sz:Nat} {m:Meta} {cur:Array Value} {cs old:List Value} (hb:h.blk b=some (.row e old)) (hm:M b=some m) (hg:w.grownBy w' (some m.g)) (hgg:g=m.g∨w.heap.size≤g)
    (hcur:w'.heap[g]?=some (.cells cur e (0,0))) (hs:sizeT P e=some sz) (hv:∀ (i:Nat) (v:Value),cs[i]?=some v→∃ v',cur[i]?=some v'∧VR M v v'∧v'.oneCell'=true) (wr:List Nat) (hwr:∀ x∈h.wr,x∈wr) (hbw:b∈wr) :
    HR P (ins M h.n ⟨g,sz,cur.size⟩) w0 w' ⟨.row e cs :: h.heap.set (h.n - 1 - b) .dead,h.n + 1,wr⟩∧Step M w h (ins M h.n ⟨g,sz,cur.size⟩) w' ⟨.row e cs :: h.heap.set (h.n - 1 - b) .dead,h.n + 1,wr⟩:=by
  have hblt:=blk_lt hb
  obtain⟨m',cur0,hm',hbase,hcur0,_⟩:=hR.row b e old hb
  rw[hm] at hm';cases hm'
  have hmlt:m.g < w.heap.size:=(Array.getElem?_eq_some_iff.1 hcur0).1
  have hsz:w0.heap.size≤w.heap.size:=hR.below.size
  have hold:∀ j,j < w.heap.size→j≠m.g→w'.heap[j]?=w.heap[j]?:=fun j hj hne=>hg.block j hj (fun he=>hne (by injection he))
  have hE:=ext_ins (m:=⟨g,sz,cur.size⟩) hR.none_at
  have hblk:∀ c,(Hp.mk (.row e cs :: h.heap.set (h.n - 1 - b) .dead) (h.n + 1) wr).blk c=if c=h.n then some (.row e cs) else if c=b then some .dead else h.blk c:=by
    intro c
    have h1:=blk_new (h:=⟨h.heap.set (h.n - 1 - b) .dead,h.n,wr⟩) (.row e cs) (by simp[hR.len]) c
    rw[h1]
    split
    · rfl
    · rw[blk_upd _ hR.len hblt]
  have hne_of:∀ {c:Nat} {x:Blk} {mc:Meta},c≠b→h.blk c=some x→x≠.dead→M c=some mc→mc.g≠m.g:=by
    intro c x mc hcb hc hx hmc heq
    exact hcb (hR.inj c b mc m hmc hm (by rw[hc];intro he;injection he with he;exact hx he) (by rw[hb];simp) heq)
  refine⟨⟨?_,by simp[hR.len],?_,?_,?_,?_⟩,⟨hE,Nat.le_succ _,hwr,?_,?_,hg.size,?_⟩⟩
  · have hb0:=hR.below
    refine⟨hg.os.trans hb0.os,hg.tape.trans hb0.tape,hg.output.trans hb0.output,Nat.le_trans hb0.size hg.size,fun i hi=>?_⟩
    rw[hold i (by omega) (by omega)];exact hb0.block i hi
  · intro c mc hmc
    unfold ins at hmc
    show c < h.n + 1
    split at hmc
    · omega
    · have:=hR.dom c mc hmc;omega
  · intro c e' cs' hc
    rw[hblk] at hc
    split at hc
    · rename_i hcn
      cases hc
      subst hcn
      refine⟨_,cur,by unfold ins;rw[if_pos rfl],by show w0.heap.size≤g;rcases hgg with q|q <;> omega,hcur,rfl,hs,fun i v hi=>?_⟩
      obtain⟨v',q1,q2,q3⟩:=hv i v hi
      exact⟨v',q1,q2.mono hE,q3⟩
    · split at hc
      · cases hc
      · rename_i hcb
        obtain⟨mc,curc,k1,k2,k3,k4,k5,k6⟩:=hR.row c e' cs' hc
        refine⟨mc,curc,hE _ _ k1,k2,by rw[hold _ (Array.getElem?_eq_some_iff.1 k3).1 (hne_of hcb hc (by simp) k1)];exact k3,k4,k5,fun i v hi=>?_⟩
        obtain⟨v',q1,q2,q3⟩:=k6 i v hi
        exact⟨v',q1,q2.mono hE,q3⟩
  · intro c ks hc
    rw[hblk] at hc
    split at hc
    · cases hc
    · split at hc
      · cases hc
      · rename_i hcb
        obtain⟨mc,k1,k2,k3⟩:=hR.map c ks hc
        exact⟨mc,hE _ _ k1,k2,k3.kept hg (by simpa using hne_of hcb hc (by simp) k1)⟩
  · intro c c' mc mc' k1 k2 k3 k4 k5
    rw[hblk] at k3 k4
    unfold ins at k1 k2
    have hlive:∀ {d:Nat} {md:Meta},d≠h.n→M d=some md→(if d=b then some Blk.dead else h.blk d)≠some .dead→md.g < w.heap.size∧md.g≠m.g∧h.blk d≠some .dead:=by
      intro d md hd hmd hdd
      have hdb:d≠b:=fun he=>hdd (by rw[if_pos he])
      rw[if_neg hdb] at hdd
      refine⟨hR.live_lt hmd hdd,?_,hdd⟩
      intro heq
      exact hdb (hR.inj d b md m hmd hm hdd (by rw[hb];simp) heq)
    by_cases h1:c=h.n
    · by_cases h2:c'=h.n
      · omega
      · rw[if_pos h1] at k1
        rw[if_neg h2] at k2 k4
        cases k1
        obtain⟨q1,q2,_⟩:=hlive h2 k2 k4
        simp only at k5
        rcases hgg with q|q <;> omega
    · rw[if_neg h1] at k1 k3
      by_cases h2:c'=h.n
      · rw[if_pos h2] at k2
        cases k2
        obtain⟨q1,q2,_⟩:=hlive h1 k1 k3
        simp only at k5
        rcases hgg with q|q <;> omega
      · rw[if_neg h2] at k2 k4
        exact hR.inj c c' mc mc' k1 k2 (hlive h1 k1 k3).2.2 (hlive h2 k2 k4).2.2 k5
  · intro c hc hn
    rw[hblk,if_neg (by omega),if_neg (fun he=>hn (by rw[he];exact hbw))]
  · intro c mc k1 hc k3 hn
    exact hold _ (hR.live_lt k1 k3) (fun heq=>hn (by rw[hR.inj c b mc m k1 hm k3 (by rw[hb];simp) heq];exact hbw))
  · intro j hj hs
    have hjm:m.g≠j:=hs b m hm (by rw[hb];simp)
    refine⟨hold j hj (Ne.symm hjm),fun c mc k1 k3=>?_⟩
    rw[hblk] at k3
    unfold ins at k1
    split at k1
    · cases k1
      show g≠j
      rcases hgg with q|q
      · rw[q];exact hjm
      · omega
    · rename_i hcn
      rw[if_neg hcn] at k3
      split at k3
      · exact absurd rfl k3
      · exact hs c mc k1 k3
theorem own_pos {v:Value} {base e size n:Nat} {xs:List Value} (ho:w.ownsRow base e size v n xs) (hn:0 < n):∃ g c,v=.slice (some ⟨g,0,none⟩) n c:=by
  rcases ho.2 with ⟨_,h1⟩|⟨g,cap,cur,h1,_⟩
  · omega
  · exact⟨g,cap,h1⟩
theorem eAppend_ok (hR:HR P M w0 w h) (hT:TR M T a) {s x:Operand} {t t':TypeId} {q:Value × Hp} (hop:o.op=.call { callee:=.builtin .append,args:=#[s,x],argTypes:=#[t,t'] }) (hq:eAppend P T h s x t t'=some q):Turns P M w0 w h a o q:=by
  unfold eAppend at hq
  split at hq
  · rename_i hc
    simp only[Bool.and_eq_true,decide_eq_true_eq] at hc
    obtain⟨⟨hs,hx⟩,htt⟩:=hc
    subst htt
    have hvs:=ev_rel hT hs
    have hvx:=ev_rel hT hx
    split at hq
    · rename_i e size b2 off m cx helem hex
      rw[hex] at hvx
      obtain⟨m2,c2,hm2,hvx⟩:=vr_slice_pos (by omega) hvx
      obtain⟨hu,hsz,hel⟩:=elemT_some helem
      split at hq
      · rename_i i news hi hcells
        obtain⟨m2',l',hm2',hl',hrel,hone,hat⟩:=hR.cells hcells
        rw[hm2] at hm2';cases hm2'
        obtain⟨_,_,_,hnl,_⟩:=cellsAt_some hcells
        split at hq
        · rename_i z hz
          split at hq
          · rename_i hcond
            simp only[Bool.and_eq_true,decide_eq_true_eq] at hcond
            obtain⟨⟨⟨c1,c3⟩,c4⟩,c5⟩:=hcond
            have hisz:i.size=size:=by
              obtain⟨i',q1,q2⟩:=sizeT_info hsz
              rw[hi] at q1;cases q1;exact q2
            have hnews:∀ (j:Nat) (u:Value),l'[j]?=some u→w.cell? ((⟨m2.g,off,none⟩:Addr).add j)=some u:=by
              intro j u hj
              rw[add_none]
              exact hat w rfl j u hj
            have hexec:∀ (v':Value) (w':World),(Builtin.append_ #[t,t] o.type #[a.eval s,a.eval x]).run P w=.ok v' w'→(execOp a.eval o).run P w=.ok (.value v') w':=by
              intro v' w' h1
              unfold execOp
              simp[hop,resolve,invoke,builtin,h1,Result.andThen]
            have hnr:∀ (j:Nat) (v:Value),news[j]?=some v→∃ v':Value,l'[j]?=some v'∧VR M v v'∧v'.oneCell'=true:=by
              intro j v hj
              have hlt:j < l'.length:=by rw[hl',← hnl];exact (List.getElem?_eq_some_iff.1 hj).1
              have h2:l'[j]?=some l'[j]:=List.getElem?_eq_getElem hlt
              exact⟨_,h2,hrel j v _ hj h2,hone _ (List.getElem_mem hlt)⟩
            unfold growRow at hq
            split at hq
            · rename_i hes
              rw[hes] at hvs
              have hvs:a.eval s=.slice none 0 0:=VR.flat_eq rfl hvs
              obtain⟨⟨sz,hsz'⟩,h1,rfl⟩:=mkRow_some hq
              rw[hsz] at hsz';cases hsz'
              have hb1:(0 + (m + 1)) * i.bytes≤65537 * 65536:=Nat.mul_le_mul (by omega) c4
              obtain⟨v',w',hrun,hown,hg,_,_⟩:=run_append_own_at (P:=P) w w.heap.size t o.type e i z size i.bytes hu hi hz hisz rfl c1 c3 (.slice none 0 0) 0 [] (World.ownsRow_nil _ _ _ _) ⟨m2.g,off,none⟩ (m + 1) c2 l' hl' hnews hone
                (by show 0 + (m + 1)≤9223372036854775807;omega) (by omega) (Nat.le_refl _)
              obtain⟨g,c,rfl⟩:=own_pos hown (by omega)
              obtain⟨cur,o1,o2,o3,o7,o4,o5,o6⟩:=own_cells hown rfl
              have hB:=grown_below hg (fun k hk=>by cases hk)
              have hcur:∀ (j:Nat) (u:Value),l'[j]?=some u→cur[j]?=some u:=by
                intro j u hj
                simp only[List.nil_append] at o5
                rw[← o5] at hj
                have hlt:j < (0 + (m + 1)) * size:=by
                  have:=(List.getElem?_eq_some_iff.1 hj).1
                  rw[List.length_take] at this;omega
                rw[List.getElem?_take_of_lt hlt] at hj
                simpa using hj
              refine⟨_,.slice (some ⟨g,0,none⟩) (0 + (m + 1)) c,w',hR.add hB o1 o2 hsz (fun j v hj=>?_),Step.add hR hB o1,?_,.inl (hexec _ _ (by rw[hvs,hvx];exact hrun))⟩
              · obtain⟨v',p1,p2,p3⟩:=hnr j v hj
                exact⟨v',hcur j v' p1,p2,p3⟩
              · rw[Nat.zero_add]
                rw[Nat.zero_add] at o3
                exact .own (m:=⟨g,size,cur.size⟩) (by unfold ins;rw[if_pos rfl]) o3 (by simp[o4]) o7
            · rename_i b n hes
              rw[hes] at hvs
              obtain⟨mb,cb,hmb,hlen,hend,hvs⟩:=vr_slice (by omega) hvs
              obtain⟨hend,hcm⟩:=hend rfl
              split at hq
              · rename_i old e' cs0 hold hb
                split at hq
                · rename_i hc2
                  simp only[Bool.and_eq_true,decide_eq_true_eq] at hc2
                  obtain⟨c6,rfl⟩:=hc2
                  unfold Hp.upd at hq
                  rw[setB_eq] at hq
                  obtain⟨⟨sz,hsz'⟩,h1,rfl⟩:=mkRow_some hq
                  rw[hsz] at hsz';cases hsz'
                  obtain⟨mb',cur0,hmb',hbase,hcur0,hcsz0,hesz0,hcell0⟩:=hR.row b e' cs0 hb
                  rw[hmb] at hmb';cases hmb'
                  rw[hsz] at hesz0
                  have hsize:mb.sz=size:=(Option.some.inj hesz0).symm
                  obtain⟨e2,cs2,hb2,hol,hoc⟩:=cellsAt_some hold
                  rw[hb] at hb2;cases hb2
                  have hcs:cur0.size=cb * size:=by rw[hcsz0,← hend,hsize];omega
                  have hown0:w.ownsRow w0.heap.size e' size (.slice (some ⟨mb.g,0,none⟩) n cb) n (cur0.toList.take (n * size)):=by
                    refine⟨?_,.inr ⟨mb.g,cb,cur0,rfl,hbase,hcur0,hlen,hcm,hcs,rfl⟩⟩
                    rw[List.length_take,Array.length_toList,hcs]
                    have:=Nat.mul_le_mul_right size hlen
                    omega
                  have hb1:(n + (m + 1)) * i.bytes≤131073 * 65536:=Nat.mul_le_mul (by omega) c4
                  obtain⟨v',w',hrun,hown,hg,_,hblk⟩:=run_append_own_at (P:=P) w w0.heap.size t o.type e' i z size i.bytes hu hi hz hisz rfl c1 c3 _ n _ hown0 ⟨m2.g,off,none⟩ (m + 1) c2 l' hl' hnews hone
                    (by show n + (m + 1)≤9223372036854775807;omega) (by omega) hR.below.size
                  obtain⟨g,c,rfl⟩:=own_pos hown (by omega)
                  obtain⟨cur,o1,o2,o3,o7,o4,o5,o6⟩:=own_cells hown rfl
                  have hgg:g=mb.g∨w.heap.size≤g:=by
                    rcases hblk with q|q <;> simp[Value.ownBlock] at q <;> omega
                  have hcurAll:∀ (j:Nat) (u:Value),(cur0.toList.take (n * size) ++ l')[j]?=some u→cur[j]?=some u:=by
                    intro j u hj
                    have hlt:j < (n + (m + 1)) * size:=by
                      have:=(List.getElem?_eq_some_iff.1 hj).1
                      rw[o6] at this;exact this
                    rw[← o5,List.getElem?_take_of_lt hlt] at hj
                    simpa using hj
                  have hl0:(cur0.toList.take (n * size)).length=n * size:=hown0.1
                  obtain⟨G1,G2⟩:=HR.grow hR (cs:=old ++ news) hb hmb hg hgg o2 hsz (fun j v hj=>by
                    by_cases hjn:j < n * size
                    · rw[List.getElem?_append_left (by omega)] at hj
                      have hj0:=hoc j v hj
                      rw[Nat.zero_add] at hj0
                      obtain⟨v',p1,p2,p3⟩:=hcell0 j v hj0
                      refine⟨v',hcurAll j v' ?_,p2,p3⟩
                      rw[List.getElem?_append_left (by omega),List.getElem?_take_of_lt hjn]
                      simpa using p1
                    · rw[List.getElem?_append_right (by omega),hol] at hj
                      obtain⟨v',p1,p2,p3⟩:=hnr _ v hj
                      refine⟨v',hcurAll j v' ?_,p2,p3⟩
                      rw[List.getElem?_append_right (by omega),hl0]
                      exact p1) (b :: h.wr) (fun x hx=>List.mem_cons_of_mem _ hx) List.mem_cons_self
                  refine⟨_,.slice (some ⟨g,0,none⟩) (n + (m + 1)) c,w',G1,G2,?_,.inl (hexec _ _ (by rw[hvs,hvx];exact hrun))⟩
                  exact .own (m:=⟨g,size,cur.size⟩) (by unfold ins;rw[if_pos rfl]) (by omega) (by simp[o4]) o7
                · cases hq
              · cases hq
            · cases hq
          · cases hq
        · cases hq
      · cases hq
    · cases hq
  · cases hq
theorem HR.lift (hR:HR P M w0 w h) {w':World} (hB:Below w.heap.size w w'):HR P M w0 w' h∧Step M w h M w' h:=by
  have hsz:w0.heap.size≤w.heap.size:=hR.below.size
  refine⟨⟨hR.below.trans ⟨hB.os,hB.tape,hB.output,hB.size,fun i hi=>hB.block i (Nat.lt_of_lt_of_le hi hsz)⟩,hR.len,hR.dom,?_,?_,hR.inj⟩,Ext.refl _,Nat.le_refl _,fun _ h=>h,fun _ _ _=>rfl,fun b m hm _ hd _=>hB.block _ (hR.live_lt hm hd),hB.size,fun g hg hs=>⟨hB.block _ hg,hs⟩⟩
  · intro b e cs hb
    obtain⟨m,cur,h1,h2,h3,h4⟩:=hR.row b e cs hb
    exact⟨m,cur,h1,h2,by rw[hB.block _ (Array.getElem?_eq_some_iff.1 h3).1];exact h3,h4⟩
  · intro b ks hb
    obtain⟨m,h1,h2,h3⟩:=hR.map b ks hb
    exact⟨m,h1,h2,h3.below hB⟩
/-- A block that was there already is taken for the new row. -/
theorem HR.link (hR:HR P M w0 w h) {g e sz:Nat} {cur:Array Value} {cs:List Value} (hg:w0.heap.size≤g) (hst:Strange M h g) (hcur:w.heap[g]?=some (.cells cur e (0,0))) (hs:sizeT P e=some sz)
    (hv:∀ (i:Nat) (v:Value),cs[i]?=some v→∃ v',cur[i]?=some v'∧VR M v v'∧v'.oneCell'=true) :
    HR P (ins M h.n ⟨g,sz,cur.size⟩) w0 w ⟨.row e cs :: h.heap,h.n + 1,h.wr⟩:=by
  have hE:=ext_ins (m:=⟨g,sz,cur.size⟩) hR.none_at
  refine⟨hR.below,by simp[hR.len],?_,?_,?_,?_⟩
  · intro b m hm
    unfold ins at hm
    split at hm
    · show b < h.n + 1;omega
    · have:=hR.dom b m hm;show b < h.n + 1;omega
  · intro b e' cs' hb
    rw[blk_new _ hR.len] at hb
    split at hb
    · rename_i hbn
      cases hb
      subst hbn
      refine⟨_,cur,by unfold ins;rw[if_pos rfl],hg,hcur,rfl,hs,fun i v hi=>?_⟩
      obtain⟨v',h1,h2,h3⟩:=hv i v hi
      exact⟨v',h1,h2.mono hE,h3⟩
    · obtain⟨m,cur',h1,h2,h3,h4,h5,h6⟩:=hR.row b e' cs' hb
      refine⟨m,cur',hE _ _ h1,h2,h3,h4,h5,fun i v hi=>?_⟩
      obtain⟨v',q1,q2,q3⟩:=h6 i v hi
      exact⟨v',q1,q2.mono hE,q3⟩
  · intro b ks hb
    rw[blk_new _ hR.len] at hb
    split at hb
    · cases hb
    · obtain⟨m,h1,h2,h3⟩:=hR.map b ks hb
      exact⟨m,hE _ _ h1,h2,h3⟩
  · intro b b' m m' hb hb' hd hd' hgg
    rw[blk_new _ hR.len] at hd hd'
    unfold ins at hb hb'
    by_cases h1:b=h.n
    · by_cases h2:b'=h.n
      · omega
      · rw[if_pos h1] at hb
        rw[if_neg h2] at hb' hd'
        cases hb
        exact absurd hgg.symm (hst b' m' hb' hd')
    · rw[if_neg h1] at hb hd
      by_cases h2:b'=h.n
      · rw[if_pos h2] at hb'
        cases hb'
        exact absurd hgg (hst b m hb hd)
      · rw[if_neg h2] at hb' hd'
        exact hR.inj b b' m m' hb hb' hd hd' hgg
theorem Step.link {M':Mp} {w':World} {h':Hp} (s:Step M w h M' w' h') (hR:HR P M' w0 w' h') {g e sz c:Nat} {cs:List Value} (hg:w.heap.size≤g) :
    Step M w h (ins M' h'.n ⟨g,sz,c⟩) w' ⟨.row e cs :: h'.heap,h'.n + 1,h'.wr⟩ where
  ext:=s.ext.trans (ext_ins hR.none_at)
  n:=Nat.le_trans s.n (Nat.le_succ _)
  wr:=s.wr
  blk:=fun b hb hn=>by rw[blk_new _ hR.len,if_neg (by have:=s.n;omega),s.blk b hb hn]
  frame:=s.frame
  size:=s.size
  str:=fun i hi hst=>by
    obtain⟨h1,h2⟩:=s.str i hi hst
    refine⟨h1,fun b m hm hd=>?_⟩
    rw[blk_new _ hR.len] at hd
    unfold ins at hm
    split at hm
    · cases hm;show g≠i;omega
    · rename_i hne
      rw[if_neg hne] at hd
      exact h2 b m hm hd
end Go.AI
