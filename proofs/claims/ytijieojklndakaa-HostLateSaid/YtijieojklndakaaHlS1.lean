/- The law of function 4: from station to station. -/
import Derived.Test.YtijieojklndakaaHlD
namespace Go.Proofs.Ytijieojklndakaa.law4
open Go Go.Ns
set_option maxRecDepth 100000 in
theorem t6 : stageB Try.prog call2 164 body 6 400 s6 [s7] = true := by kernel_rfl
set_option maxRecDepth 100000 in
theorem t7 : stageB Try.prog call2 164 body 6 400 s7 [s8] = true := by kernel_rfl
set_option maxRecDepth 100000 in
theorem t8 : stageB Try.prog call2 164 body 6 400 s8 [s9] = true := by kernel_rfl
set_option maxRecDepth 100000 in
theorem t9 : stageB Try.prog call2 164 body 6 400 s9 [s10] = true := by kernel_rfl
set_option maxRecDepth 100000 in
theorem t10 : stageB Try.prog call2 164 body 6 400 s10 [s11] = true := by kernel_rfl
set_option maxRecDepth 100000 in
theorem t11 : stageB Try.prog call2 164 body 6 400 s11 [s12] = true := by kernel_rfl
end Go.Proofs.Ytijieojklndakaa.law4
