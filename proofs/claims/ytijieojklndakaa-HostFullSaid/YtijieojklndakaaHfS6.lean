/- The law of function 7: from station to station. -/
import Derived.Test.YtijieojklndakaaHfD
namespace Go.Proofs.Ytijieojklndakaa.law7
open Go Go.Ns
set_option maxRecDepth 100000 in
theorem t30 : stageB Try.prog call2 166 body 4 400 s30 [] = true := by kernel_rfl
set_option maxRecDepth 100000 in
theorem t31 : stageB Try.prog call2 166 body 4 400 s31 [] = true := by kernel_rfl
set_option maxRecDepth 100000 in
theorem t32 : stageB Try.prog call2 166 body 4 400 s32 [] = true := by kernel_rfl
end Go.Proofs.Ytijieojklndakaa.law7
