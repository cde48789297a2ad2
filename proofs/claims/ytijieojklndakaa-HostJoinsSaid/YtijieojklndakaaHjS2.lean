/- The law of function 6: from station to station. -/
import Derived.Test.YtijieojklndakaaHjD
namespace Go.Proofs.Ytijieojklndakaa.law6
open Go Go.Ns
set_option maxRecDepth 100000 in
theorem t6 : stageB Try.prog call3 240 body 8 400 s6 [s7] = true := by kernel_rfl
set_option maxRecDepth 100000 in
theorem t7 : stageB Try.prog call3 240 body 8 400 s7 [s8] = true := by kernel_rfl
set_option maxRecDepth 100000 in
theorem t8 : stageB Try.prog call3 240 body 8 400 s8 [s9] = true := by kernel_rfl
end Go.Proofs.Ytijieojklndakaa.law6
