/- A small machine that runs closed calls, with the proof that the program does what it does. -/
import Derived.Test.YtjbeoidhbbjcmaaGreatC17
namespace Go.AI
open Go Go.Proofs
set_option maxRecDepth 1000000
def t9:List Ent:=⟨306,[.int .u64 4,.int .u64 1],.tuple #[.int .u64 0,.int .u64 4]⟩ ::
  ⟨257,[.string (bs [4]),.string (bs [])],.string (bs [4])⟩ ::
  ⟨257,[.string (bs []),.string (bs [4])],.string (bs [4])⟩ ::
  ⟨243,[.agg #[.bool true,.string (bs [4]),.string (bs [1])]],.bool true⟩ ::
  ⟨257,[.string (bs [4]),.string (bs [1])],.string (bs [1])⟩ ::
  t8
theorem c9:checkN 5 t9=true:=by kernel_rfl
theorem g9:Good t9:=good_check 5 t9 c9 g8
end Go.AI
namespace Go.AI
open Go Go.Proofs
set_option maxRecDepth 1000000
def t10:List Ent:=⟨262,[.agg #[.bool true,.string (bs [4]),.string (bs [1])],.agg #[.bool false,.string (bs [1]),.string (bs [1])]],.agg #[.bool true,.string (bs [4]),.string (bs [1])]⟩ ::
  ⟨273,[.agg #[.bool true,.string (bs [4]),.string (bs [1])],.agg #[.bool false,.string (bs [1]),.string (bs [1])]],.agg #[.bool true,.string (bs [4]),.string (bs [1])]⟩ ::
  ⟨267,[.agg #[.bool true,.string (bs [4])],.agg #[.bool false,.string (bs [1])]],.agg #[.bool true,.string (bs [4])]⟩ ::
  ⟨260,[.string (bs [4]),.string (bs [1])],.string (bs [4])⟩ ::
  t9
theorem c10:checkN 4 t10=true:=by kernel_rfl
theorem g10:Good t10:=good_check 4 t10 c10 g9
end Go.AI
namespace Go.AI
open Go Go.Proofs
set_option maxRecDepth 1000000
def t11:List Ent:=⟨283,[.string (bs [1]),.string (bs [])],.string (bs [1])⟩ ::
  ⟨262,[.agg #[.bool true,.string (bs [1]),.string (bs [1])],.agg #[.bool false,.string (bs [1]),.string (bs [1])]],.agg #[.bool true,.string (bs [1]),.string (bs [1])]⟩ ::
  ⟨273,[.agg #[.bool true,.string (bs [1]),.string (bs [1])],.agg #[.bool false,.string (bs [1]),.string (bs [1])]],.agg #[.bool true,.string (bs [1]),.string (bs [1])]⟩ ::
  ⟨267,[.agg #[.bool true,.string (bs [1])],.agg #[.bool false,.string (bs [1])]],.agg #[.bool true,.string (bs [1])]⟩ ::
  ⟨243,[.agg #[.bool true,.string (bs [1]),.string (bs [1])]],.bool true⟩ ::
  ⟨259,[.string (bs [4]),.string (bs [2])],.tuple #[.string (bs [2]),.string (bs [])]⟩ ::
  ⟨348,[.agg #[.bool false,.string (bs []),.string (bs [1])],.agg #[.bool true,.string (bs [4]),.string (bs [1])]],.agg #[.bool true,.string (bs [4]),.string (bs [1])]⟩ ::
  ⟨266,[.agg #[.bool false,.string (bs [])],.agg #[.bool true,.string (bs [4])]],.agg #[.bool true,.string (bs [4])]⟩ ::
  ⟨283,[.string (bs [4]),.string (bs [])],.string (bs [4])⟩ ::
  t10
theorem c11:checkN 9 t11=true:=by kernel_rfl
theorem g11:Good t11:=good_check 9 t11 c11 g10
end Go.AI
namespace Go.AI
open Go Go.Proofs
set_option maxRecDepth 1000000
def t12:List Ent:=⟨97,[.agg #[.bool false,.string (bs [1])],.agg #[.bool true,.string (bs [1])]],.agg #[.bool true,.string (bs [1])]⟩ ::
  ⟨156,[.string (bs [1]),.string (bs [1])],.string (bs [1])⟩ ::
  ⟨77,[.agg #[.bool false,.string (bs []),.string (bs [1])],.agg #[.bool true,.string (bs [1]),.string (bs [1])]],.agg #[.bool false,.string (bs []),.string (bs [1])]⟩ ::
  ⟨97,[.agg #[.bool false,.string (bs [])],.agg #[.bool true,.string (bs [1])]],.agg #[.bool false,.string (bs [])]⟩ ::
  ⟨156,[.string (bs []),.string (bs [1])],.string (bs [])⟩ ::
  ⟨378,[.agg #[.int .i64 3,.slice none 0 0]],.bool true⟩ ::
  ⟨266,[.agg #[.bool true,.string (bs [1])],.agg #[.bool false,.string (bs [1])]],.agg #[.bool false,.string (bs [])]⟩ ::
  ⟨283,[.string (bs [1]),.string (bs [1])],.string (bs [])⟩ ::
  ⟨281,[.string (bs [1]),.string (bs [1])],.int .i64 0⟩ ::
  ⟨266,[.agg #[.bool false,.string (bs [])],.agg #[.bool true,.string (bs [1])]],.agg #[.bool true,.string (bs [1])]⟩ ::
  t11
theorem c12:checkN 10 t12=true:=by kernel_rfl
theorem g12:Good t12:=good_check 10 t12 c12 g11
end Go.AI
