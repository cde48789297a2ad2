/- The law of function 6: from station to station. -/
import Derived.Test.YtijieojklndakaaHjD
namespace Go.Proofs.Ytijieojklndakaa.law6
open Go Go.Ns
set_option maxRecDepth 100000 in
theorem t3 : stageB Try.prog call3 240 body 8 400 s3 [s4] = true := by kernel_rfl
set_option maxRecDepth 100000 in
theorem t4 : stageB Try.prog call3 240 body 8 400 s4 [s5] = true := by kernel_rfl
set_option maxRecDepth 100000 in
theorem t5 : stageB Try.prog call3 240 body 8 400 s5 [s6] = true := by kernel_rfl
end Go.Proofs.Ytijieojklndakaa.law6
