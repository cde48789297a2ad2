/- The law WorldNobody of layer 23: what the document says of a few, told by the program: once, by the kernel, from nothing. -/
import Derived.Test.YtcmmbhfdgkkdaaaGreatDoorChecked
import Derived.Test.YtcmmbhfdgkkdaaaGreatDoorNs6
import Derived.KernelRfl
namespace Go.Proofs.YtcmmbhfdgkkdaaaGreatDoor
open Go Go.Ns

theorem mixed : Tryz.prog.follows .mixedOrders = true := Tryz.checked.mixed

def yesB : Res → Heap → Bool
  | .ret (.bool true), _ => true
  | _, _ => false

set_option maxRecDepth 100000 in
theorem told_run : callB Tryz.prog (fun f => f == 35) 400 0 7 [] E0 yesB = true := by kernel_rfl

theorem told_call : NCall Tryz.prog 0 7 [] E0 fun r _ => r = .ret (.bool true) := by
  refine (callB_sound mixed _ 400 0 7 [] E0 yesB told_run).mono fun r H h => ?_
  unfold yesB at h
  split at h
  · rfl
  · cases h
end Go.Proofs.YtcmmbhfdgkkdaaaGreatDoor
