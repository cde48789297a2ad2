/- The law of function 7: from station to station. -/
import Derived.Test.YtijieojklndakaaHfD
namespace Go.Proofs.Ytijieojklndakaa.law7
open Go Go.Ns
set_option maxRecDepth 100000 in
theorem t10 : stageB Try.prog call2 166 body 4 400 s10 [s11] = true := by kernel_rfl
set_option maxRecDepth 100000 in
theorem t11 : stageB Try.prog call2 166 body 4 400 s11 [s12] = true := by kernel_rfl
set_option maxRecDepth 100000 in
theorem t12 : stageB Try.prog call2 166 body 4 400 s12 [s13] = true := by kernel_rfl
set_option maxRecDepth 100000 in
theorem t13 : stageB Try.prog call2 166 body 4 400 s13 [s14] = true := by kernel_rfl
set_option maxRecDepth 100000 in
theorem t14 : stageB Try.prog call2 166 body 4 400 s14 [s15] = true := by kernel_rfl
end Go.Proofs.Ytijieojklndakaa.law7
