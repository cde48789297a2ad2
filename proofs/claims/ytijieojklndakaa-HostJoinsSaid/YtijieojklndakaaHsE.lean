/- The host laws of layer 17: the contract of a roster of two. -/
import Derived.Test.YtijieojklndakaaHsC
namespace Go.Proofs.Ytijieojklndakaa
open Go Go.Ns

theorem or_ok {P : Program} {f : FuncId} {c d : GivA} (hc : GivOk P f c) (hd : GivOk P f d) : GivOk P f (orG c d) := by
  intro E b args H K hk
  simp only [orG, Bool.or_eq_true] at hk
  rcases hk with hk | hk
  · exact hc E b args H K hk
  · exact hd E b args H K hk

noncomputable def rawG : GivA := fun E b args H K => call2 E b 46 args H K

theorem raw_ok : GivOk Try.prog 46 rawG := by
  intro E b args H K hk θ ι b' args' H' he hh ha
  exact call2_ok E b 46 args H K hk θ ι b' args' H' he hh ha

set_option maxRecDepth 100000 in
theorem ros_run : runA Try.prog call0 100 0 Try.f46 (codeOf Try.f46) rosC.Ep rosC.ap E0 (ctrK rosC) = true := by kernel_rfl

theorem ros_ok : GivOk Try.prog 46 (ctrG rosC) := ctr_ok mixed call0_ok Try.func46 rfl (by decide +kernel) (by decide +kernel) ros_run

theorem giv3_ok : ∀ f c, giv3 rawG f = some c → GivOk Try.prog f c := by
  intro f c h
  unfold giv3 at h
  split at h
  · rename_i q; subst q; cases h; exact or_ok ros_ok raw_ok
  · exact giv2_ok f c h

noncomputable def call3 : CallA := callA Try.prog (giv3 rawG) still 400

theorem call3_ok : CallOkA Try.prog call3 := callA_ok mixed giv3_ok still 400
end Go.Proofs.Ytijieojklndakaa
