/- The law HostOwn of layer 17: what the document says of a few, and the contracts, by the kernel. -/
import Derived.Test.YtgjocnogcolfbaaGreatOwA
namespace Go.Proofs.YtgjocnogcolfbaaGreat
open Go Go.Ns

noncomputable def codeOf (f : Func) : Code := match f.body with | some c => c | none => .skip
noncomputable def call0 : CallA := callA Tryz.prog (fun _ => none) still 400
theorem call0_ok : CallOkA Tryz.prog call0 := callA_ok mixed (fun _ _ h => by cases h) still 400

set_option maxRecDepth 100000 in
theorem told_run : runA Tryz.prog call0 400 0 Tryz.f4 (codeOf Tryz.f4) [] [] E0 (isRet (.bool true)) = true := by kernel_rfl
theorem told_ok : GivOk Tryz.prog 4 (constG (.bool true)) := const_ok mixed call0_ok rfl Tryz.func4 rfl told_run

set_option maxRecDepth 100000 in
theorem run79 : runA Tryz.prog call0 100 0 Tryz.f79 (codeOf Tryz.f79) rosMayC.Ep rosMayC.ap E0 (ctrK rosMayC) = true := by kernel_rfl
set_option maxRecDepth 100000 in
theorem run70 : runA Tryz.prog call0 100 0 Tryz.f70 (codeOf Tryz.f70) rosMayC.Ep rosMayC.ap E0 (ctrK rosMayC) = true := by kernel_rfl
set_option maxRecDepth 100000 in
theorem run57a : runA Tryz.prog call0 100 0 Tryz.f57 (codeOf Tryz.f57) slotC.Ep slotC.ap E0 (ctrK slotC) = true := by kernel_rfl
set_option maxRecDepth 100000 in
theorem run57b : runA Tryz.prog call0 100 0 Tryz.f57 (codeOf Tryz.f57) slotLoC.Ep slotLoC.ap E0 (ctrK slotLoC) = true := by kernel_rfl
set_option maxRecDepth 100000 in
theorem run57c : runA Tryz.prog call0 100 0 Tryz.f57 (codeOf Tryz.f57) slotHiC.Ep slotHiC.ap E0 (ctrK slotHiC) = true := by kernel_rfl
set_option maxRecDepth 100000 in
theorem run38a : runA Tryz.prog call0 100 0 Tryz.f38 (codeOf Tryz.f38) slotC.Ep slotC.ap E0 (ctrK slotC) = true := by kernel_rfl
set_option maxRecDepth 100000 in
theorem run38b : runA Tryz.prog call0 100 0 Tryz.f38 (codeOf Tryz.f38) slotLoC.Ep slotLoC.ap E0 (ctrK slotLoC) = true := by kernel_rfl
set_option maxRecDepth 100000 in
theorem run38c : runA Tryz.prog call0 100 0 Tryz.f38 (codeOf Tryz.f38) slotHiC.Ep slotHiC.ap E0 (ctrK slotHiC) = true := by kernel_rfl
set_option maxRecDepth 100000 in
theorem run78 : runA Tryz.prog call0 100 0 Tryz.f78 (codeOf Tryz.f78) gamMayC.Ep gamMayC.ap E0 (ctrK gamMayC) = true := by kernel_rfl
set_option maxRecDepth 100000 in
theorem run112 : runA Tryz.prog call0 100 0 Tryz.f112 (codeOf Tryz.f112) gamMayC.Ep gamMayC.ap E0 (ctrK gamMayC) = true := by kernel_rfl

theorem or_ok {f : FuncId} {c d : GivA} (hc : GivOk Tryz.prog f c) (hd : GivOk Tryz.prog f d) : GivOk Tryz.prog f (orG c d) := by
  intro E b args H K hk
  simp only [orG, Bool.or_eq_true] at hk
  rcases hk with hk | hk
  · exact hc E b args H K hk
  · exact hd E b args H K hk

noncomputable def raw (f : FuncId) : GivA := fun E b args H K => callA Tryz.prog giv1 still 400 E b f args H K

theorem raw_ok (f : FuncId) : GivOk Tryz.prog f (raw f) := by
  intro E b args H K hk θ ι b' args' H' he hh ha
  exact callA_ok mixed giv1_ok still 400 E b f args H K hk θ ι b' args' H' he hh ha

theorem giv_ok : ∀ f c, giv raw f = some c → GivOk Tryz.prog f c := by
  intro f c h
  unfold giv at h
  split at h
  · rename_i q; subst q; cases h; exact told_ok
  split at h
  · rename_i q; subst q; cases h; exact or_ok (ctr_ok mixed call0_ok Tryz.func79 rfl (by decide +kernel) (by decide +kernel) run79) (raw_ok 79)
  split at h
  · rename_i q; subst q; cases h; exact or_ok (ctr_ok mixed call0_ok Tryz.func70 rfl (by decide +kernel) (by decide +kernel) run70) (raw_ok 70)
  split at h
  · rename_i q; subst q; cases h
    exact or_ok (ctr_ok mixed call0_ok Tryz.func57 rfl (by decide +kernel) (by decide +kernel) run57a) (or_ok (ctr_ok mixed call0_ok Tryz.func57 rfl (by decide +kernel) (by decide +kernel) run57b) (or_ok (ctr_ok mixed call0_ok Tryz.func57 rfl (by decide +kernel) (by decide +kernel) run57c) (raw_ok 57)))
  split at h
  · rename_i q; subst q; cases h
    exact or_ok (ctr_ok mixed call0_ok Tryz.func38 rfl (by decide +kernel) (by decide +kernel) run38a) (or_ok (ctr_ok mixed call0_ok Tryz.func38 rfl (by decide +kernel) (by decide +kernel) run38b) (or_ok (ctr_ok mixed call0_ok Tryz.func38 rfl (by decide +kernel) (by decide +kernel) run38c) (raw_ok 38)))
  split at h
  · rename_i q; subst q; cases h; exact or_ok (ctr_ok mixed call0_ok Tryz.func78 rfl (by decide +kernel) (by decide +kernel) run78) (raw_ok 78)
  split at h
  · rename_i q; subst q; cases h; exact or_ok (ctr_ok mixed call0_ok Tryz.func112 rfl (by decide +kernel) (by decide +kernel) run112) (raw_ok 112)
  · exact giv1_ok f c h

noncomputable def call : CallA := callA Tryz.prog (giv raw) still 400

theorem call_ok : CallOkA Tryz.prog call := callA_ok mixed giv_ok still 400
end Go.Proofs.YtgjocnogcolfbaaGreat
