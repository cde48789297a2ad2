/- The law of function 7: from station to station. -/
import Derived.Test.YtijieojklndakaaHfD
namespace Go.Proofs.Ytijieojklndakaa.law7
open Go Go.Ns
set_option maxRecDepth 100000 in
theorem t15 : stageB Try.prog call2 166 body 4 400 s15 [s16] = true := by kernel_rfl
set_option maxRecDepth 100000 in
theorem t16 : stageB Try.prog call2 166 body 4 400 s16 [s17] = true := by kernel_rfl
set_option maxRecDepth 100000 in
theorem t17 : stageB Try.prog call2 166 body 4 400 s17 [s18] = true := by kernel_rfl
set_option maxRecDepth 100000 in
theorem t18 : stageB Try.prog call2 166 body 4 400 s18 [s19, s20, s21, s22, s23, s24, s25] = true := by kernel_rfl
set_option maxRecDepth 100000 in
theorem t19 : stageB Try.prog call2 166 body 4 400 s19 [s26] = true := by kernel_rfl
end Go.Proofs.Ytijieojklndakaa.law7
