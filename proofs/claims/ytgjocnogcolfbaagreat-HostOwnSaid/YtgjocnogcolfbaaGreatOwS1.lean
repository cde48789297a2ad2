/- The law of function 3: from station to station. -/
import Derived.Test.YtgjocnogcolfbaaGreatOwD
namespace Go.Proofs.YtgjocnogcolfbaaGreat.law3
open Go Go.Ns
set_option maxRecDepth 100000 in
theorem t3 : stageB Tryz.prog call 77 body 4 400 s3 [s4] = true := by kernel_rfl
set_option maxRecDepth 100000 in
theorem t4 : stageB Tryz.prog call 77 body 4 400 s4 [s5] = true := by kernel_rfl
set_option maxRecDepth 100000 in
theorem t5 : stageB Tryz.prog call 77 body 4 400 s5 [s6] = true := by kernel_rfl
end Go.Proofs.YtgjocnogcolfbaaGreat.law3
