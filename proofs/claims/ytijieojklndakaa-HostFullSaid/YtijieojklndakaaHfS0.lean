/- The law of function 7: from station to station. -/
import Derived.Test.YtijieojklndakaaHfD
namespace Go.Proofs.Ytijieojklndakaa.law7
open Go Go.Ns
set_option maxRecDepth 100000 in
theorem t0 : stageB Try.prog call2 166 body 4 400 s0 [s1] = true := by kernel_rfl
set_option maxRecDepth 100000 in
theorem t1 : stageB Try.prog call2 166 body 4 400 s1 [s2] = true := by kernel_rfl
set_option maxRecDepth 100000 in
theorem t2 : stageB Try.prog call2 166 body 4 400 s2 [s3] = true := by kernel_rfl
set_option maxRecDepth 100000 in
theorem t3 : stageB Try.prog call2 166 body 4 400 s3 [s4] = true := by kernel_rfl
set_option maxRecDepth 100000 in
theorem t4 : stageB Try.prog call2 166 body 4 400 s4 [s5] = true := by kernel_rfl
end Go.Proofs.Ytijieojklndakaa.law7
