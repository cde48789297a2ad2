/- The law WorldNobody of layer 23: the law's own body, by the kernel: what is told of a world that is none. -/
import Derived.Test.YtcmmbhfdgkkdaaaGreatDoorWnA
namespace Go.Proofs.YtcmmbhfdgkkdaaaGreatDoor
open Go Go.Ns

def giv : FuncId → Option GivA := fun f => if f = 7 then some (constG (.bool true)) else none

theorem giv_ok : ∀ f c, giv f = some c → GivOk Tryz.prog f c := by
  intro f c h
  unfold giv at h
  split at h
  · rename_i q; subst q; cases h; exact lift_ok told_call
  · cases h

noncomputable def call : CallA := callA Tryz.prog giv (fun _ => false) 400
theorem call_ok : CallOkA Tryz.prog call := callA_ok mixed giv_ok _ 400

noncomputable def body : Code := match Tryz.f3.body with | some c => c | none => .skip

/-- A step of which nothing is known, and any number. -/
def s0 : Stn := ⟨[], ⟨[.any, .any, .any, .any, .any, .any, .any, .any, .any], [.agg [.flt .f64 0, .flt .f64 1, .flt .f64 2, .flt .f64 3, .flt .f64 4, .flt .f64 5, .flt .f64 6, .flt .f64 7], .flt .f64 8], []⟩⟩

set_option maxRecDepth 100000 in
theorem t0 : stageB Tryz.prog call 101 body 4 400 s0 [] = true := by kernel_rfl

theorem g0 : Go.Ns.Good Tryz.prog 101 body 4 s0 := stage_ok mixed call_ok t0 (by simp)
end Go.Proofs.YtcmmbhfdgkkdaaaGreatDoor
