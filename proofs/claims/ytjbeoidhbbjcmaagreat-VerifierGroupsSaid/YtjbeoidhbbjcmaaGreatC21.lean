/- A small machine that runs closed calls, with the proof that the program does what it does. -/
import Derived.Test.YtjbeoidhbbjcmaaGreatC20
namespace Go.AI
open Go Go.Proofs
set_option maxRecDepth 1000000
noncomputable def aw1:Bool:=match Tryz.f10.body with
  | some b=>seg [pc 0 b,pc 1 b] (List.replicate 99 undef) 99 [(0,.bool false),(1,.int .i64 0)]
  | none=>false
theorem aw1_runs:aw1=true:=by kernel_rfl
end Go.AI
