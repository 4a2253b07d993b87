/- A small machine that runs closed calls, with the proof that the program does what it does. -/
import Derived.Test.YtjbeoidhbbjcmaaGreatC18
namespace Go.AI
open Go Go.Proofs
set_option maxRecDepth 1000000
def t13:List Ent:=⟨273,[.agg #[.bool false,.string (bs [1]),.string (bs [1])],.agg #[.bool false,.string (bs [2]),.string (bs [1])]],.agg #[.bool false,.string (bs [2]),.string (bs [1])]⟩ ::
  ⟨267,[.agg #[.bool false,.string (bs [1])],.agg #[.bool false,.string (bs [2])]],.agg #[.bool false,.string (bs [2])]⟩ ::
  ⟨260,[.string (bs [1]),.string (bs [2])],.string (bs [2])⟩ ::
  ⟨306,[.int .u64 1,.int .u64 2],.tuple #[.int .u64 0,.int .u64 2]⟩ ::
  ⟨273,[.agg #[.bool true,.string (bs [1]),.string (bs [1])],.agg #[.bool true,.string (bs [1]),.string (bs [1])]],.agg #[.bool false,.string (bs [1]),.string (bs [1])]⟩ ::
  ⟨273,[.agg #[.bool true,.string (bs [1]),.string (bs [1])],.agg #[.bool false,.string (bs []),.string (bs [1])]],.agg #[.bool false,.string (bs []),.string (bs [1])]⟩ ::
  ⟨243,[.agg #[.bool false,.string (bs [2]),.string (bs [1])]],.bool true⟩ ::
  ⟨77,[.agg #[.bool false,.string (bs [1]),.string (bs [1])],.agg #[.bool true,.string (bs [1]),.string (bs [1])]],.agg #[.bool true,.string (bs [1]),.string (bs [1])]⟩ ::
  t12
theorem c13:checkN 8 t13=true:=by kernel_rfl
theorem g13:Good t13:=good_check 8 t13 c13 g12
end Go.AI
namespace Go.AI
open Go Go.Proofs
set_option maxRecDepth 1000000
def t14:List Ent:=⟨17,[.agg #[.int .i64 6,.slice none 0 0,.bool false,.string (bs []),.string (bs []),.slice none 0 0,.slice none 0 0,.int .i64 0,.slice none 0 0,.int .i64 0,.slice none 0 0,.slice none 0 0,.slice none 0 0,.slice none 0 0,.slice none 0 0,.int .i64 0,.slice none 0 0,.slice none 0 0,.int .i64 0,.slice none 0 0]],.string (bs [102,105,103,117,114,101])⟩ ::
  ⟨273,[.agg #[.bool true,.string (bs [1]),.string (bs [1])],.agg #[.bool false,.string (bs [2]),.string (bs [1])]],.agg #[.bool true,.string (bs [2]),.string (bs [1])]⟩ ::
  ⟨348,[.agg #[.bool false,.string (bs []),.string (bs [1])],.agg #[.bool false,.string (bs [2]),.string (bs [1])]],.agg #[.bool false,.string (bs [2]),.string (bs [1])]⟩ ::
  ⟨266,[.agg #[.bool false,.string (bs [])],.agg #[.bool false,.string (bs [2])]],.agg #[.bool false,.string (bs [2])]⟩ ::
  ⟨282,[.string (bs []),.string (bs [2])],.string (bs [2])⟩ ::
  t13
theorem c14:checkN 5 t14=true:=by kernel_rfl
theorem g14:Good t14:=good_check 5 t14 c14 g13
end Go.AI
