/- The law of function 6: from station to station. -/
import Derived.Test.YtijieojklndakaaHjD
namespace Go.Proofs.Ytijieojklndakaa.law6
open Go Go.Ns
set_option maxRecDepth 100000 in
theorem t0 : stageB Try.prog call3 240 body 8 400 s0 [s1] = true := by kernel_rfl
set_option maxRecDepth 100000 in
theorem t1 : stageB Try.prog call3 240 body 8 400 s1 [s2] = true := by kernel_rfl
set_option maxRecDepth 100000 in
theorem t2 : stageB Try.prog call3 240 body 8 400 s2 [s3] = true := by kernel_rfl
end Go.Proofs.Ytijieojklndakaa.law6
