
/- The laws' toSwitch. -/
import Derived.Test.YtbhhapbocnlblaaRowM
namespace Go.Proofs.Ytbhhapbocnlblaa
open Go.RowKit

set_option maxHeartbeats 1000000 in
theorem toSwitch_any (A B C D : Int) (w : World) :
    Calls Try.prog 38 #[.agg #[.int .i64 A, .int .i64 B, .int .i64 C, .int .i64 D]] w fun e w' => e = .returned (.agg #[.int .i64 A, .int .i64 B, .int .i64 C, .int .i64 D]) ∧ Below w.heap.size w w' := by
  go_enter Try.func38, Try.ntmps38
  go_wp2
  refine bodyPost_ret (v := .agg #[.int .i64 A, .int .i64 B, .int .i64 C, .int .i64 D]) (by simp [results, Try.results38, go_sem]) rfl ⟨rfl, below_tr' (below_alloc2 w _ _) (below_alloc _ _)⟩

end Go.Proofs.Ytbhhapbocnlblaa
