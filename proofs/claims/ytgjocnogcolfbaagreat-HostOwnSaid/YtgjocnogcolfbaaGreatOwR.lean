/- Said of HostOwn: for every argument that the row lets in, the law's call comes to 'true' and leaves all that was there as it was. -/
import Derived.Test.YtgjocnogcolfbaaGreatRows
import Derived.Test.YtgjocnogcolfbaaGreatOwG
import Derived.WalkKit
import Derived.ProofKit
import Derived.ChangeMaps5
namespace Go.Proofs.YtgjocnogcolfbaaGreat.law3
open Go Go.ChangeShapes Go.WideShapes Go.ChangeAt Go.RowKit Go.Ns Go.ChangeMaps

theorem own : ownKnob Tryz.prog.godebug = none := by kernel_rfl

theorem wfI {k : IntKind} {n : Int} (h : (Lit.int k n).wf = true) : k.min ≤ n ∧ n ≤ k.max := by
  unfold Lit.wf at h
  simp only [Bool.and_eq_true, decide_eq_true_eq] at h
  exact h

theorem start (a0 : ByteArray) (a1 : Int) (h0 : a0.size ≤ maxLen) (h1 : (Lit.int .i64 a1).wf = true) : StS [.str a0, .int .i64 a1] [] 0 0 s0.q.E s0.q.st ⟨σ0 [.str a0, .int .i64 a1], E0, []⟩ := by
  refine ⟨⟨rfl, ?_, ?_⟩, ?_, ?_, .nil⟩
  · intro i d v hd hv
    match i with
    | 0 => simp [s0] at hd hv; subst hd hv; exact ⟨a0, rfl, h0⟩
    | 1 => simp [s0] at hd hv; subst hd hv; exact ⟨.i64, a1, rfl, (wfI h1).1, (wfI h1).2⟩
    | i + 2 => simp at hv
  · intro i lo hi f v hd hv
    match i with
    | 0 => simp [s0] at hd
    | 1 => simp [s0] at hd
    | i + 2 => simp at hv
  · intro t
    have sy : ∀ (k : IntKind) (i : Nat) (x : Int), ([.str a0, .int .i64 a1] : List V)[i]? = some (.int k x) → Sb [.str a0, .int .i64 a1] [] (.int k (encI i 0)) (.int k x) := by
      intro k i x hi
      have := Sb.sym (θ := [.str a0, .int .i64 a1]) (ι := []) k (encI i 0) i 0 k x (symI_enc (by decide) (by decide)) hi
      simpa using this
    match t with
    | 0 => exact .opq 0 _ rfl rfl
    | 1 => exact sy .i64 1 a1 rfl
    | t + 2 => exact .undef _
  · refine ⟨rfl, fun i j id q => by simp at q, fun i id q => by simp at q, fun i id o q => by simp at q, fun i id q => by simp at q, Nat.le_refl _, fun i v hv => ?_⟩
    match i with
    | 0 => simp at hv; subst hv; rfl
    | 1 => simp at hv; subst hv; rfl
    | i + 2 => simp at hv

theorem law (a0 : ByteArray) (a1 : Int) (h0 : a0.size ≤ maxLen) (h1 : (Lit.int .i64 a1).wf = true) : NCall Tryz.prog 0 3 [.str a0, .int .i64 a1] E0 fun r _ => r = .ret (.bool true) :=
  law_ok (c := body) (r := 4) (q := s0.q) Tryz.func3 rfl rfl (by show 2 ≤ 77; decide) g0 (start a0 a1 h0 h1)

theorem walk (a0 : ByteArray) (a1 : Int) (w : World) (h0 : a0.size ≤ maxLen) (h1 : (Lit.int .i64 a1).wf = true) : Calls Tryz.prog 3 #[.string a0, .int .i64 a1] w fun e w' => e = .returned (.bool true) ∧ w.keptBut w' (fun _ => False) :=
  said_calls (law a0 a1 h0 h1) (.cons _ _ _ _ (.str a0) (.cons _ _ _ _ (.int _ _) .nil))

set_option maxRecDepth 100000 in
theorem lifted (os : Os) (started : os.Started) (H : Type) (enc : TypeId × Value → H) :
    ReturnsInHanded {} Tryz.checked os 3 .any (Rows.hostOwnSpec.pre6 enc Tryz.prog Tryz.f3 Rows.hostOwnRow.domain false) (Rows.hostOwnSpec.post enc Tryz.prog Tryz.f3 false true false false) := by
  refine returnsInHanded_of_change (C := Tryz.checked) own started (by kernel_rfl) Tryz.func3
    (ChangeSpec.witness6 (enc := enc) (C := Tryz.checked) false ⟨#[], #[.string ⟨#[]⟩, .int .i64 0], []⟩ 8 (by kernel_rfl) (by kernel_rfl) (by kernel_rfl) (by kernel_rfl)) ?_
  intro W base args ds gs before hval0 hW hcnd _
  have hval : ∀ (j : Nat) t v, Tryz.f3.params[j]? = some t → args[j]? = some v → Value.okWide Tryz.prog W .any base t v := hval0
  have hW' := hW
  obtain ⟨p, q, hA0, hV, rfl, hfz, hnd⟩ := hW
  have hA : DataW.TrodAll enc Tryz.prog W 0 (fun _ => true) true Tryz.f3.params.toList args.toList ds p := hA0
  rw [Tryz.params3] at hA hval
  obtain ⟨v0, vs0, d0, ds0, p0, q0, hargs, rfl, rfl, h0, r0⟩ := trodAll_cons hA
  obtain ⟨v1, vs1, d1, ds1, p1, q1, rfl, rfl, rfl, h1, r1⟩ := trodAll_cons r0
  obtain ⟨rfl, rfl, rfl⟩ := trodAll_nil r1
  obtain rfl : args = #[v0, v1] := by cases args; simp_all
  obtain ⟨rfl, rfl⟩ := trodVars_none hV
  obtain ⟨a0, rfl, rfl, rfl, w0⟩ := open_string Tryz.underlying9 (hval 0 9 v0 rfl rfl) h0
  obtain ⟨a1, rfl, rfl, rfl, w1⟩ := open_int Tryz.underlying3 (hval 1 3 v1 rfl rfl) h1
  clear hA0 hval0
  simp only [List.append_nil] at hW'
  refine (walk a0 a1 W w0 w1).mono fun e W' ⟨he, hg⟩ => ?_
  subst he
  exact ⟨_, rfl, post_kept (pa := []) (pv := []) hW' (fun _ _ _ => (trodAll_cons_mk (shut_bool Tryz.underlying4 _) trodAll_mk0)) (fun sp _ => (trodAll_cons_mk (shut_string Tryz.underlying9 w0) (trodAll_cons_mk (shut_int Tryz.underlying3 w1) trodAll_mk0))) (fun _ _ => rfl) rfl
    (World.keptBut_mono (fun _ f => f.elim) hg)⟩

theorem over : Rows.hostOwnRow.holds Tryz.pinned (OpenSpec.ofChange Rows.hostOwnSpec) :=
  OpenClaim.holds_of_wide 3 Tryz.f3 rfl rfl rfl rfl rfl rfl rfl ⟨rfl, rfl, rfl, rfl, rfl⟩ rfl rfl rfl rfl rfl (by kernel_rfl) Tryz.func3 (by kernel_rfl)
    (of_decide_eq_true (by kernel_rfl)) (by unfold Func.isWrapper; first | (rw [if_pos (by decide +kernel)]; kernel_rfl) | (rw [if_neg (by decide +kernel)]; exact ⟨rfl, rfl⟩))
    (fun os started H enc _ => lifted os started H enc)

theorem proved : Rows.HostOwnSaid := over
end Go.Proofs.YtgjocnogcolfbaaGreat.law3
