/- The law of function 7: from station to station. -/
import Derived.Test.YtijieojklndakaaHfD
namespace Go.Proofs.Ytijieojklndakaa.law7
open Go Go.Ns
set_option maxRecDepth 100000 in
theorem t20 : stageB Try.prog call2 166 body 4 400 s20 [s27] = true := by kernel_rfl
set_option maxRecDepth 100000 in
theorem t21 : stageB Try.prog call2 166 body 4 400 s21 [s28] = true := by kernel_rfl
set_option maxRecDepth 100000 in
theorem t22 : stageB Try.prog call2 166 body 4 400 s22 [s29] = true := by kernel_rfl
set_option maxRecDepth 100000 in
theorem t23 : stageB Try.prog call2 166 body 4 400 s23 [s30] = true := by kernel_rfl
set_option maxRecDepth 100000 in
theorem t24 : stageB Try.prog call2 166 body 4 400 s24 [s31] = true := by kernel_rfl
end Go.Proofs.Ytijieojklndakaa.law7
