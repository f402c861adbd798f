/- Part of a proof of pruneShows_holds. -/
import Derived.Test.YthhbkabdhkdafaaGreatUAoQ
namespace Go.Proofs.YthhbkabdhkdafaaGreat
def chkA (x : Int) : Bool := (vecs 2).all fun r => (vecs 3).all fun b => (flowsU [x :: r, b] 3).all (okFlow [x :: r, b] 3)
theorem chk23a : chkA (-2) = true := by kernel_rfl
theorem chk23b : chkA (-1) = true := by kernel_rfl
theorem chk23c : chkA 0 = true := by kernel_rfl
theorem chk23d : chkA 1 = true := by kernel_rfl
theorem chk23e : chkA 2 = true := by kernel_rfl
end Go.Proofs.YthhbkabdhkdafaaGreat
