/- A small machine that runs closed calls, with the proof that the program does what it does. -/
import Derived.Test.YtjbeoidhbbjcmaaGreatC20
namespace Go.AI
open Go Go.Proofs
set_option maxRecDepth 1000000
noncomputable def aw2:Bool:=match Tryz.f10.body with
  | some b=>seg [pc 2 b] (toT 99 [(0,.bool false),(1,.int .i64 0)]) 99 [(0,.bool false),(1,.int .i64 0),(2,.int .i64 14)]
  | none=>false
theorem aw2_runs:aw2=true:=by kernel_rfl
end Go.AI
