/- The law of function 3: from station to station. -/
import Derived.Test.YtijieojklndakaaHiD
namespace Go.Proofs.Ytijieojklndakaa.law3
open Go Go.Ns
set_option maxRecDepth 100000 in
theorem t18 : stageB Try.prog call 119 body 8 400 s18 [s19] = true := by kernel_rfl
set_option maxRecDepth 100000 in
theorem t19 : stageB Try.prog call 119 body 8 400 s19 [s20] = true := by kernel_rfl
set_option maxRecDepth 100000 in
theorem t20 : stageB Try.prog call 119 body 8 400 s20 [s21] = true := by kernel_rfl
set_option maxRecDepth 100000 in
theorem t21 : stageB Try.prog call 119 body 8 400 s21 [] = true := by kernel_rfl
end Go.Proofs.Ytijieojklndakaa.law3
