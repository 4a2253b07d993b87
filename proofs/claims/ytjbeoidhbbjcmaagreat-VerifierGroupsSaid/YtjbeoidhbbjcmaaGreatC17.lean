/- A small machine that runs closed calls, with the proof that the program does what it does. -/
import Derived.Test.YtjbeoidhbbjcmaaGreatC16
namespace Go.AI
open Go Go.Proofs
set_option maxRecDepth 1000000
def t5:List Ent:=⟨247,[.int .i64 0],.agg #[.bool false,.string (bs []),.string (bs [1])]⟩ ::
  ⟨249,[.int .i64 0],.agg #[.bool false,.string (bs [])]⟩ ::
  ⟨258,[.int .u64 0],.string (bs [])⟩ ::
  ⟨284,[.agg #[.int .i64 1,.int .i64 2,.int .i64 0,.int .i64 0,.slice none 0 0,.slice none 0 0]],.bool true⟩ ::
  ⟨262,[.agg #[.bool false,.string (bs [1]),.string (bs [1])],.agg #[.bool false,.string (bs [1]),.string (bs [1])]],.agg #[.bool false,.string (bs [1]),.string (bs [1])]⟩ ::
  ⟨273,[.agg #[.bool false,.string (bs [1]),.string (bs [1])],.agg #[.bool false,.string (bs [1]),.string (bs [1])]],.agg #[.bool false,.string (bs [1]),.string (bs [1])]⟩ ::
  ⟨262,[.agg #[.bool false,.string (bs []),.string (bs [1])],.agg #[.bool false,.string (bs [1]),.string (bs [1])]],.agg #[.bool false,.string (bs []),.string (bs [1])]⟩ ::
  ⟨273,[.agg #[.bool false,.string (bs []),.string (bs [1])],.agg #[.bool false,.string (bs [1]),.string (bs [1])]],.agg #[.bool false,.string (bs []),.string (bs [1])]⟩ ::
  ⟨267,[.agg #[.bool false,.string (bs [])],.agg #[.bool false,.string (bs [1])]],.agg #[.bool false,.string (bs [])]⟩ ::
  ⟨260,[.string (bs []),.string (bs [1])],.string (bs [])⟩ ::
  ⟨262,[.agg #[.bool true,.string (bs [2]),.string (bs [1])],.agg #[.bool false,.string (bs [1]),.string (bs [1])]],.agg #[.bool true,.string (bs [2]),.string (bs [1])]⟩ ::
  ⟨273,[.agg #[.bool true,.string (bs [2]),.string (bs [1])],.agg #[.bool false,.string (bs [1]),.string (bs [1])]],.agg #[.bool true,.string (bs [2]),.string (bs [1])]⟩ ::
  t4
theorem c5:checkN 12 t5=true:=by kernel_rfl
theorem g5:Good t5:=good_check 12 t5 c5 g4
end Go.AI
namespace Go.AI
open Go Go.Proofs
set_option maxRecDepth 1000000
def t6:List Ent:=⟨348,[.agg #[.bool false,.string (bs []),.string (bs [1])],.agg #[.bool false,.string (bs []),.string (bs [1])]],.agg #[.bool false,.string (bs []),.string (bs [1])]⟩ ::
  ⟨266,[.agg #[.bool false,.string (bs [])],.agg #[.bool false,.string (bs [])]],.agg #[.bool false,.string (bs [])]⟩ ::
  ⟨282,[.string (bs []),.string (bs [])],.string (bs [])⟩ ::
  ⟨273,[.agg #[.bool false,.string (bs [1]),.string (bs [1])],.agg #[.bool false,.string (bs []),.string (bs [1])]],.agg #[.bool false,.string (bs []),.string (bs [1])]⟩ ::
  ⟨267,[.agg #[.bool false,.string (bs [1])],.agg #[.bool false,.string (bs [])]],.agg #[.bool false,.string (bs [])]⟩ ::
  ⟨260,[.string (bs [1]),.string (bs [])],.string (bs [])⟩ ::
  ⟨348,[.agg #[.bool false,.string (bs []),.string (bs [1])],.agg #[.bool false,.string (bs [1]),.string (bs [1])]],.agg #[.bool false,.string (bs [1]),.string (bs [1])]⟩ ::
  ⟨266,[.agg #[.bool false,.string (bs [])],.agg #[.bool false,.string (bs [1])]],.agg #[.bool false,.string (bs [1])]⟩ ::
  ⟨282,[.string (bs []),.string (bs [1])],.string (bs [1])⟩ ::
  t5
theorem c6:checkN 9 t6=true:=by kernel_rfl
theorem g6:Good t6:=good_check 9 t6 c6 g5
end Go.AI
namespace Go.AI
open Go Go.Proofs
set_option maxRecDepth 1000000
def t7:List Ent:=⟨266,[.agg #[.bool false,.string (bs [])],.agg #[.bool true,.string (bs [2])]],.agg #[.bool true,.string (bs [2])]⟩ ::
  ⟨283,[.string (bs [2]),.string (bs [])],.string (bs [2])⟩ ::
  ⟨348,[.agg #[.bool false,.string (bs [1]),.string (bs [1])],.agg #[.bool false,.string (bs []),.string (bs [1])]],.agg #[.bool false,.string (bs [1]),.string (bs [1])]⟩ ::
  ⟨266,[.agg #[.bool false,.string (bs [1])],.agg #[.bool false,.string (bs [])]],.agg #[.bool false,.string (bs [1])]⟩ ::
  ⟨282,[.string (bs [1]),.string (bs [])],.string (bs [1])⟩ ::
  t6
theorem c7:checkN 5 t7=true:=by kernel_rfl
theorem g7:Good t7:=good_check 5 t7 c7 g6
end Go.AI
namespace Go.AI
open Go Go.Proofs
set_option maxRecDepth 1000000
def t8:List Ent:=⟨255,[.agg #[.bool true,.string (bs [4])]],.bool true⟩ ::
  ⟨29,[.int .i64 (-4)],.agg #[.bool true,.string (bs [4]),.string (bs [1])]⟩ ::
  ⟨73,[.int .i64 (-4)],.agg #[.bool true,.string (bs [4])]⟩ ::
  ⟨127,[.int .u64 4],.string (bs [4])⟩ ::
  ⟨259,[.string (bs [1]),.string (bs [2])],.tuple #[.string (bs []),.string (bs [1])]⟩ ::
  ⟨277,[.slice none 0 0],.string (bs [])⟩ ::
  ⟨259,[.string (bs [2]),.string (bs [2])],.tuple #[.string (bs [1]),.string (bs [])]⟩ ::
  ⟨258,[.int .u64 2],.string (bs [2])⟩ ::
  ⟨348,[.agg #[.bool false,.string (bs []),.string (bs [1])],.agg #[.bool true,.string (bs [2]),.string (bs [1])]],.agg #[.bool true,.string (bs [2]),.string (bs [1])]⟩ ::
  t7
theorem c8:checkN 9 t8=true:=by kernel_rfl
theorem g8:Good t8:=good_check 9 t8 c8 g7
end Go.AI
