/- The host laws of layer 17: what the document says of a few, told by the program: once, by the kernel. -/
import Derived.Test.YtijieojklndakaaHsA
namespace Go.Proofs.Ytijieojklndakaa
open Go Go.Ns

noncomputable def toldC : Code := match Try.f8.body with | some c => c | none => .skip

set_option maxRecDepth 100000 in
theorem told_run : runA Try.prog (callA Try.prog giv0 still 400) 400 0 Try.f8 toldC [] [] E0 (isRet (.bool true)) = true := by kernel_rfl

theorem told_ok : GivOk Try.prog 8 (constG (.bool true)) :=
  const_ok mixed (callA_ok mixed giv0_ok still 400) rfl Try.func8 rfl told_run

theorem giv_ok : ∀ f c, giv f = some c → GivOk Try.prog f c := by
  intro f c h
  unfold giv at h
  split at h
  · rename_i q; subst q; cases h; exact seed_ok
  · split at h
    · rename_i q; subst q; cases h; exact told_ok
    · cases h

noncomputable def call : CallA := callA Try.prog giv still 400

theorem call_ok : CallOkA Try.prog call := callA_ok mixed giv_ok still 400
end Go.Proofs.Ytijieojklndakaa
