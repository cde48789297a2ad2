/- The law of function 3: from station to station. -/
import Derived.Test.YtgjocnogcolfbaaGreatOwD
namespace Go.Proofs.YtgjocnogcolfbaaGreat.law3
open Go Go.Ns
set_option maxRecDepth 100000 in
theorem t9 : stageB Tryz.prog call 77 body 4 400 s9 [s10] = true := by kernel_rfl
set_option maxRecDepth 100000 in
theorem t10 : stageB Tryz.prog call 77 body 4 400 s10 [s11] = true := by kernel_rfl
set_option maxRecDepth 100000 in
theorem t11 : stageB Tryz.prog call 77 body 4 400 s11 [] = true := by kernel_rfl
end Go.Proofs.YtgjocnogcolfbaaGreat.law3
