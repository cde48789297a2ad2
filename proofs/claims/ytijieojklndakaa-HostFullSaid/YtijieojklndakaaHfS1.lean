/- The law of function 7: from station to station. -/
import Derived.Test.YtijieojklndakaaHfD
namespace Go.Proofs.Ytijieojklndakaa.law7
open Go Go.Ns
set_option maxRecDepth 100000 in
theorem t5 : stageB Try.prog call2 166 body 4 400 s5 [s6] = true := by kernel_rfl
set_option maxRecDepth 100000 in
theorem t6 : stageB Try.prog call2 166 body 4 400 s6 [s7] = true := by kernel_rfl
set_option maxRecDepth 100000 in
theorem t7 : stageB Try.prog call2 166 body 4 400 s7 [s8] = true := by kernel_rfl
set_option maxRecDepth 100000 in
theorem t8 : stageB Try.prog call2 166 body 4 400 s8 [s9] = true := by kernel_rfl
set_option maxRecDepth 100000 in
theorem t9 : stageB Try.prog call2 166 body 4 400 s9 [s10] = true := by kernel_rfl
end Go.Proofs.Ytijieojklndakaa.law7
