/- The law of function 6: from station to station. -/
import Derived.Test.YtijieojklndakaaHjD
namespace Go.Proofs.Ytijieojklndakaa.law6
open Go Go.Ns
set_option maxRecDepth 100000 in
theorem t9 : stageB Try.prog call3 240 body 8 400 s9 [s10] = true := by kernel_rfl
set_option maxRecDepth 100000 in
theorem t10 : stageB Try.prog call3 240 body 8 400 s10 [s11] = true := by kernel_rfl
set_option maxRecDepth 100000 in
theorem t11 : stageB Try.prog call3 240 body 8 400 s11 [] = true := by kernel_rfl
end Go.Proofs.Ytijieojklndakaa.law6
