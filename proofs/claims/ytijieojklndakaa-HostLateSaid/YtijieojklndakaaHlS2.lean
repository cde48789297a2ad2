/- The law of function 4: from station to station. -/
import Derived.Test.YtijieojklndakaaHlD
namespace Go.Proofs.Ytijieojklndakaa.law4
open Go Go.Ns
set_option maxRecDepth 100000 in
theorem t12 : stageB Try.prog call2 164 body 6 400 s12 [s13] = true := by kernel_rfl
set_option maxRecDepth 100000 in
theorem t13 : stageB Try.prog call2 164 body 6 400 s13 [s14] = true := by kernel_rfl
set_option maxRecDepth 100000 in
theorem t14 : stageB Try.prog call2 164 body 6 400 s14 [s15] = true := by kernel_rfl
set_option maxRecDepth 100000 in
theorem t15 : stageB Try.prog call2 164 body 6 400 s15 [s16] = true := by kernel_rfl
set_option maxRecDepth 100000 in
theorem t16 : stageB Try.prog call2 164 body 6 400 s16 [s17] = true := by kernel_rfl
set_option maxRecDepth 100000 in
theorem t17 : stageB Try.prog call2 164 body 6 400 s17 [s18] = true := by kernel_rfl
end Go.Proofs.Ytijieojklndakaa.law4
