/- The law of function 3: from station to station. -/
import Derived.Test.YtgjocnogcolfbaaGreatOwD
namespace Go.Proofs.YtgjocnogcolfbaaGreat.law3
open Go Go.Ns
set_option maxRecDepth 100000 in
theorem t6 : stageB Tryz.prog call 77 body 4 400 s6 [s7] = true := by kernel_rfl
set_option maxRecDepth 100000 in
theorem t7 : stageB Tryz.prog call 77 body 4 400 s7 [s8] = true := by kernel_rfl
set_option maxRecDepth 100000 in
theorem t8 : stageB Tryz.prog call 77 body 4 400 s8 [s9] = true := by kernel_rfl
end Go.Proofs.YtgjocnogcolfbaaGreat.law3
