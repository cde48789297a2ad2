/- The host laws of layer 17: the contracts of the dice and of the field, by the kernel. -/
import Derived.Test.YtijieojklndakaaHsB
namespace Go.Proofs.Ytijieojklndakaa
open Go Go.Ns

noncomputable def codeOf (f : Func) : Code := match f.body with | some c => c | none => .skip
noncomputable def call0 : CallA := callA Try.prog giv0 (fun _ => false) 100
theorem call0_ok : CallOkA Try.prog call0 := callA_ok mixed giv0_ok _ 100

set_option maxRecDepth 100000 in
theorem push_run : runA Try.prog call0 100 0 Try.f86 (codeOf Try.f86) pushC.Ep pushC.ap E0 (ctrK pushC) = true := by kernel_rfl
set_option maxRecDepth 100000 in
theorem move_run : runA Try.prog call0 100 0 Try.f87 (codeOf Try.f87) moveC.Ep moveC.ap E0 (ctrK moveC) = true := by kernel_rfl
set_option maxRecDepth 100000 in
theorem aim_run : runA Try.prog call0 100 0 Try.f88 (codeOf Try.f88) aimC.Ep aimC.ap E0 (ctrK aimC) = true := by kernel_rfl
set_option maxRecDepth 100000 in
theorem hits_run : runA Try.prog call0 100 0 Try.f89 (codeOf Try.f89) hitsC.Ep hitsC.ap E0 (ctrK hitsC) = true := by kernel_rfl
set_option maxRecDepth 100000 in
theorem place_run : runA Try.prog call0 100 0 Try.f78 (codeOf Try.f78) placeC.Ep placeC.ap E0 (ctrK placeC) = true := by kernel_rfl

theorem push_ok : GivOk Try.prog 86 (ctrG pushC) := ctr_ok mixed call0_ok Try.func86 rfl (by decide +kernel) (by decide +kernel) push_run
theorem move_ok : GivOk Try.prog 87 (ctrG moveC) := ctr_ok mixed call0_ok Try.func87 rfl (by decide +kernel) (by decide +kernel) move_run
theorem aim_ok : GivOk Try.prog 88 (ctrG aimC) := ctr_ok mixed call0_ok Try.func88 rfl (by decide +kernel) (by decide +kernel) aim_run
theorem hits_ok : GivOk Try.prog 89 (ctrG hitsC) := ctr_ok mixed call0_ok Try.func89 rfl (by decide +kernel) (by decide +kernel) hits_run
theorem place_ok : GivOk Try.prog 78 (ctrG placeC) := ctr_ok mixed call0_ok Try.func78 rfl (by decide +kernel) (by decide +kernel) place_run

theorem giv2_ok : ∀ f c, giv2 f = some c → GivOk Try.prog f c := by
  intro f c h
  unfold giv2 at h
  repeat' split at h
  all_goals first | (cases h; done) | (rename_i q; subst q; cases h; first | exact seed_ok | exact told_ok | exact push_ok | exact move_ok | exact aim_ok | exact hits_ok | exact place_ok)

noncomputable def call2 : CallA := callA Try.prog giv2 still 400

theorem call2_ok : CallOkA Try.prog call2 := callA_ok mixed giv2_ok still 400
end Go.Proofs.Ytijieojklndakaa
