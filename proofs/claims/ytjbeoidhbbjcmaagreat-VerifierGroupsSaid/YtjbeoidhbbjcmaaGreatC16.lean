/- A small machine that runs closed calls, with the proof that the program does what it does. -/
import Derived.Test.YtjbeoidhbbjcmaaGreatC15
namespace Go.AI
open Go Go.Proofs
set_option maxRecDepth 1000000
def t1:List Ent:=⟨257,[.string (bs [2]),.string (bs [1])],.string (bs [1])⟩ ::
  ⟨255,[.agg #[.bool true,.string (bs [2])]],.bool true⟩ ::
  ⟨29,[.int .i64 1],.agg #[.bool false,.string (bs [1]),.string (bs [1])]⟩ ::
  ⟨73,[.int .i64 1],.agg #[.bool false,.string (bs [1])]⟩ ::
  ⟨127,[.int .u64 1],.string (bs [1])⟩ ::
  ⟨29,[.int .i64 0],.agg #[.bool false,.string (bs []),.string (bs [1])]⟩ ::
  ⟨73,[.int .i64 0],.agg #[.bool false,.string (bs [])]⟩ ::
  ⟨127,[.int .u64 0],.string (bs [])⟩ ::
  ⟨29,[.int .i64 (-2)],.agg #[.bool true,.string (bs [2]),.string (bs [1])]⟩ ::
  ⟨73,[.int .i64 (-2)],.agg #[.bool true,.string (bs [2])]⟩ ::
  ⟨127,[.int .u64 2],.string (bs [2])⟩ ::
  []
theorem c1:checkN 11 t1=true:=by kernel_rfl
theorem g1:Good t1:=good_check 11 t1 c1 good_nil
end Go.AI
namespace Go.AI
open Go Go.Proofs
set_option maxRecDepth 1000000
def t2:List Ent:=⟨243,[.agg #[.bool false,.string (bs []),.string (bs [1])]],.bool true⟩ ::
  ⟨257,[.string (bs []),.string (bs [1])],.string (bs [1])⟩ ::
  ⟨255,[.agg #[.bool false,.string (bs [])]],.bool true⟩ ::
  ⟨243,[.agg #[.bool true,.string (bs [2]),.string (bs [1])]],.bool true⟩ ::
  ⟨258,[.int .u64 1],.string (bs [1])⟩ ::
  t1
theorem c2:checkN 5 t2=true:=by kernel_rfl
theorem g2:Good t2:=good_check 5 t2 c2 g1
end Go.AI
namespace Go.AI
open Go Go.Proofs
set_option maxRecDepth 1000000
def t3:List Ent:=⟨306,[.int .u64 1,.int .u64 1],.tuple #[.int .u64 0,.int .u64 1]⟩ ::
  ⟨259,[.string (bs [1]),.string (bs [1])],.tuple #[.string (bs [1]),.string (bs [])]⟩ ::
  ⟨257,[.string (bs []),.string (bs [2])],.string (bs [2])⟩ ::
  ⟨243,[.agg #[.bool false,.string (bs [1]),.string (bs [1])]],.bool true⟩ ::
  ⟨257,[.string (bs [1]),.string (bs [1])],.string (bs [1])⟩ ::
  t2
theorem c3:checkN 5 t3=true:=by kernel_rfl
theorem g3:Good t3:=good_check 5 t3 c3 g2
end Go.AI
namespace Go.AI
open Go Go.Proofs
set_option maxRecDepth 1000000
def t4:List Ent:=⟨267,[.agg #[.bool true,.string (bs [2])],.agg #[.bool false,.string (bs [1])]],.agg #[.bool true,.string (bs [2])]⟩ ::
  ⟨260,[.string (bs [2]),.string (bs [1])],.string (bs [2])⟩ ::
  ⟨306,[.int .u64 2,.int .u64 1],.tuple #[.int .u64 0,.int .u64 2]⟩ ::
  ⟨261,[.agg #[.bool false,.string (bs [1])],.agg #[.bool false,.string (bs [1])]],.agg #[.bool false,.string (bs [1]),.string (bs [1])]⟩ ::
  ⟨257,[.string (bs [2]),.string (bs [])],.string (bs [2])⟩ ::
  ⟨260,[.string (bs [1]),.string (bs [1])],.string (bs [1])⟩ ::
  t3
theorem c4:checkN 6 t4=true:=by kernel_rfl
theorem g4:Good t4:=good_check 6 t4 c4 g3
end Go.AI
