/- The law of function 4: from station to station. -/
import Derived.Test.YtijieojklndakaaHlD
namespace Go.Proofs.Ytijieojklndakaa.law4
open Go Go.Ns
set_option maxRecDepth 100000 in
theorem t18 : stageB Try.prog call2 164 body 6 400 s18 [s19, s20, s21] = true := by kernel_rfl
set_option maxRecDepth 100000 in
theorem t19 : stageB Try.prog call2 164 body 6 400 s19 [s22] = true := by kernel_rfl
set_option maxRecDepth 100000 in
theorem t20 : stageB Try.prog call2 164 body 6 400 s20 [s22] = true := by kernel_rfl
set_option maxRecDepth 100000 in
theorem t21 : stageB Try.prog call2 164 body 6 400 s21 [s22] = true := by kernel_rfl
set_option maxRecDepth 100000 in
theorem t22 : stageB Try.prog call2 164 body 6 400 s22 [] = true := by kernel_rfl
end Go.Proofs.Ytijieojklndakaa.law4
