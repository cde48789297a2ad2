/- The law of function 7: from station to station. -/
import Derived.Test.YtijieojklndakaaHfD
namespace Go.Proofs.Ytijieojklndakaa.law7
open Go Go.Ns
set_option maxRecDepth 100000 in
theorem t25 : stageB Try.prog call2 166 body 4 400 s25 [s32] = true := by kernel_rfl
set_option maxRecDepth 100000 in
theorem t26 : stageB Try.prog call2 166 body 4 400 s26 [] = true := by kernel_rfl
set_option maxRecDepth 100000 in
theorem t27 : stageB Try.prog call2 166 body 4 400 s27 [] = true := by kernel_rfl
set_option maxRecDepth 100000 in
theorem t28 : stageB Try.prog call2 166 body 4 400 s28 [] = true := by kernel_rfl
set_option maxRecDepth 100000 in
theorem t29 : stageB Try.prog call2 166 body 4 400 s29 [] = true := by kernel_rfl
end Go.Proofs.Ytijieojklndakaa.law7
