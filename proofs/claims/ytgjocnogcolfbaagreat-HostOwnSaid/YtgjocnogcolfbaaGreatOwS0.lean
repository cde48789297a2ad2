/- The law of function 3: from station to station. -/
import Derived.Test.YtgjocnogcolfbaaGreatOwD
namespace Go.Proofs.YtgjocnogcolfbaaGreat.law3
open Go Go.Ns
set_option maxRecDepth 100000 in
theorem t0 : stageB Tryz.prog call 77 body 4 400 s0 [s1] = true := by kernel_rfl
set_option maxRecDepth 100000 in
theorem t1 : stageB Tryz.prog call 77 body 4 400 s1 [s2] = true := by kernel_rfl
set_option maxRecDepth 100000 in
theorem t2 : stageB Tryz.prog call 77 body 4 400 s2 [s3] = true := by kernel_rfl
end Go.Proofs.YtgjocnogcolfbaaGreat.law3
